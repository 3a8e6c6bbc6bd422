/- Partings as bytes: plain laws. -/
import Derived.Test.YthhkkjnahiimbaaGeo
import Derived.Test.YthhkkjnahiimbaaPlanB
import Derived.Test.YthhkkjnahiimbaaSealRP
import Derived.Test.YthhkkjnahiimbaaFillR
import Derived.Test.YthhkkjnahiimbaaLayP
import Derived.Test.YthhkkjnahiimbaaGetP
import Derived.Test.YthhkkjnahiimbaaAgg
import Derived.Laws.StructEq
import Derived.Test.YthhkkjnahiimbaaGrow
import Derived.Lib.SlBytesConst
namespace Go.Proofs.Ythhkkjnahiimbaa.Super
open Go.RowKit Words Mem Plain Ops
set_option linter.ambiguousOpen false
open Go.Proofs.Ythhkkjnahiimbaa.Field Agg Sum
set_option linter.unusedVariables false
set_option linter.unusedSimpArgs false

structure Geo4 where
  J : Int
  I : Int
  G : Int
  P : Int
abbrev Geo4.cs (g : Geo4) : Array Value := #[.int .i64 g.J, .int .i64 g.I, .int .i64 g.G, .int .i64 g.P]
abbrev Geo4.v (g : Geo4) : Value := .agg g.cs
def Geo4.zero : Geo4 := ⟨0, 0, 0, 0⟩
def Geo4.eqB (a b : Geo4) : Bool := a.J == b.J && (a.I == b.I && (a.G == b.G && a.P == b.P))
theorem Geo4.eqB_self (a : Geo4) : Geo4.eqB a a = true := by simp [Geo4.eqB]
def Geo4.rightB (g : Geo4) : Bool := Super.rightB g.J g.I g.G g.P
theorem Geo4.bd {g : Geo4} (h : g.rightB = true) : (0 ≤ g.J ∧ g.J < 65536) ∧ (0 ≤ g.I ∧ g.I < 65536) ∧ (0 ≤ g.G ∧ g.G < 65536) ∧ (0 ≤ g.P ∧ g.P < 65536) := by
  obtain ⟨h1, h2, _, h4, h5, h6, _⟩ := right_bd h
  omega
def Geo4.nums (g : Geo4) : List Int := [g.J, g.I, g.G, g.P]
def Geo4.head (g : Geo4) : List Int := [109, 111, 97, 116] ++ layed 2 g.nums
def Geo4.bytes (g : Geo4) : List Int := sealN (filled g.head 60)
def Geo4.layR (g : Geo4) : List Int × Int := if g.rightB = true then (g.bytes, 0) else ([], 1)
theorem Geo4.layR_no {g : Geo4} (h : g.rightB = false) : g.layR = ([], 1) := by unfold Geo4.layR; rw [if_neg (by rw [h]; simp)]
theorem Geo4.layR_yes {g : Geo4} (h : g.rightB = true) : g.layR = (g.bytes, 0) := by unfold Geo4.layR; rw [if_pos h]
def Geo4.at (xs : List Int) (k : Nat) : Int := numOf ((xs.drop k).take 2)
def Geo4.ofBytes (xs : List Int) : Geo4 := ⟨Geo4.at xs 4, Geo4.at xs 6, Geo4.at xs 8, Geo4.at xs 10⟩
def Geo4.takeP (xs : List Int) : Prop := xs.length = 64 ∧ (Geo4.ofBytes xs).rightB = true ∧ (Geo4.ofBytes xs).bytes = xs
open Classical in
noncomputable def Geo4.takeR (xs : List Int) : Geo4 × Int := if Geo4.takeP xs then (Geo4.ofBytes xs, 0) else (Geo4.zero, 90)
theorem takeR_no {xs : List Int} (h : ¬ Geo4.takeP xs) : Geo4.takeR xs = (Geo4.zero, 90) := by unfold Geo4.takeR; rw [if_neg h]
theorem takeR_yes {xs : List Int} (h : Geo4.takeP xs) : Geo4.takeR xs = (Geo4.ofBytes xs, 0) := by unfold Geo4.takeR; rw [if_pos h]

theorem Geo4.head_len (g : Geo4) : g.head.length = 12 := by unfold Geo4.head; rw [List.length_append, length_layed]; rfl
theorem Geo4.head_bytes (g : Geo4) : isBytes g.head := by
  unfold Geo4.head
  refine isBytes_append.2 ⟨?_, isBytes_layed _ _⟩
  intro x hx
  simp at hx
  omega
theorem Geo4.fill_len (g : Geo4) : (filled g.head 60).length = 60 := length_filled _ _ (by rw [Geo4.head_len]; decide)
theorem Geo4.fill_bytes (g : Geo4) : isBytes (filled g.head 60) := isBytes_filled _ _ (Geo4.head_bytes g)
theorem Geo4.bytes_len (g : Geo4) : g.bytes.length = 64 := by unfold Geo4.bytes; rw [length_seal, Geo4.fill_len]
theorem Geo4.bytes_isBytes (g : Geo4) : isBytes g.bytes := isBytes_seal (Geo4.fill_bytes g)

theorem drop_pre (A B : List Int) (k : Nat) (h : k = A.length) : (A ++ B).drop k = B := by subst h; simp
theorem take_pre (A B : List Int) (k : Nat) (h : k = A.length) : (A ++ B).take k = A := by subst h; simp
theorem Geo4.ofBytes_bytes {g : Geo4} (h : g.rightB = true) : Geo4.ofBytes g.bytes = g := by
  obtain ⟨⟨j0, j1⟩, ⟨i0, i1⟩, ⟨g0, g1⟩, p0, p1⟩ := Geo4.bd h
  have e : g.bytes = [109, 111, 97, 116] ++ (bytesOf 2 g.J ++ (bytesOf 2 g.I ++ (bytesOf 2 g.G ++ (bytesOf 2 g.P ++ (List.replicate (60 - g.head.length) 0 ++ bytesOf 4 (moreN 1 (filled g.head 60))))))) := by
    show (Geo4.head g ++ List.replicate (60 - g.head.length) 0) ++ bytesOf 4 (moreN 1 (filled g.head 60)) = _
    have : g.head = [109, 111, 97, 116] ++ (bytesOf 2 g.J ++ (bytesOf 2 g.I ++ (bytesOf 2 g.G ++ bytesOf 2 g.P))) := by
      unfold Geo4.head Geo4.nums layed; simp
    rw [this]
    simp only [List.append_assoc]
  generalize List.replicate (60 - g.head.length) 0 ++ bytesOf 4 (moreN 1 (filled g.head 60)) = T at e
  have n2 : ∀ x : Int, 0 ≤ x → x < 65536 → numOf (bytesOf 2 x) = x := fun x h0 h1 => numOf_bytesOf_of 2 x h0 (by rw [p2]; exact h1)
  have key : ∀ (A : List Int) (x : Int) (T : List Int) (k : Nat), k = A.length → 0 ≤ x → x < 65536 → Geo4.at (A ++ (bytesOf 2 x ++ T)) k = x := fun A x T k hk h0 h1 => by
    unfold Geo4.at
    rw [drop_pre A _ k hk, take_pre (bytesOf 2 x) T 2 (by rw [length_bytesOf]), n2 _ h0 h1]
  have aJ : Geo4.at g.bytes 4 = g.J := by rw [e]; exact key _ _ _ _ rfl j0 j1
  have aI : Geo4.at g.bytes 6 = g.I := by
    have e2 : g.bytes = ([109, 111, 97, 116] ++ bytesOf 2 g.J) ++ (bytesOf 2 g.I ++ (bytesOf 2 g.G ++ (bytesOf 2 g.P ++ T))) := by rw [e]; simp only [List.append_assoc]
    rw [e2]; exact key _ _ _ _ (by simp [length_bytesOf]) i0 i1
  have aG : Geo4.at g.bytes 8 = g.G := by
    have e2 : g.bytes = ([109, 111, 97, 116] ++ bytesOf 2 g.J ++ bytesOf 2 g.I) ++ (bytesOf 2 g.G ++ (bytesOf 2 g.P ++ T)) := by rw [e]; simp only [List.append_assoc]
    rw [e2]; exact key _ _ _ _ (by simp [length_bytesOf]) g0 g1
  have aP : Geo4.at g.bytes 10 = g.P := by
    have e2 : g.bytes = ([109, 111, 97, 116] ++ bytesOf 2 g.J ++ bytesOf 2 g.I ++ bytesOf 2 g.G) ++ (bytesOf 2 g.P ++ T) := by rw [e]; simp only [List.append_assoc]
    rw [e2]; exact key _ _ _ _ (by simp [length_bytesOf]) p0 p1
  unfold Geo4.ofBytes
  rw [aJ, aI, aG, aP]
theorem lay_cases (g : Geo4) : (g.rightB = true ∧ g.layR = (g.bytes, 0) ∧ Geo4.takeR g.bytes = (g, 0)) ∨ (g.rightB = false ∧ g.layR = ([], 1) ∧ Geo4.takeR [] = (Geo4.zero, 90)) := by
  cases h : g.rightB
  · exact .inr ⟨rfl, Geo4.layR_no h, takeR_no (fun e => by cases e.1)⟩
  · refine .inl ⟨rfl, Geo4.layR_yes h, ?_⟩
    have e := Geo4.ofBytes_bytes h
    rw [takeR_yes ⟨Geo4.bytes_len g, by rw [e]; exact h, by rw [e]⟩, e]
theorem take_cases (xs : List Int) : (∃ g, Geo4.takeR xs = (g, 0) ∧ g.layR = (xs, 0)) ∨ Geo4.takeR xs = (Geo4.zero, 90) := by
  by_cases h : Geo4.takeP xs
  · exact .inl ⟨_, takeR_yes h, by rw [Geo4.layR_yes h.2.1, h.2.2]⟩
  · exact .inr (takeR_no h)

theorem eqGeo (a b : Geo4) (w : World) : (Op.equalIn 10000 23 a.v b.v).run Try.prog w = .ok (Geo4.eqB a b) w := by
  obtain ⟨J, I, G, P⟩ := a
  obtain ⟨J', I', G', P'⟩ := b
  have hi : ∀ (a b : Int), (Op.equalIn 9999 3 (.int .i64 a) (.int .i64 b)).run Try.prog w = .ok (a == b) w := fun a b => run_equalIn_int w 9998 3 .i64 .i64 a b Try.underlying3
  have ha : (isAgg 3).run Try.prog w = .ok false w := by kernel_rfl
  rw [run_equalIn_agg w 9999 23 _ _ (by kernel_rfl) (by kernel_rfl)]
  simp only [Program.fieldsOf, Try.underlying23]
  simp [Op.eqFields, part, ha, hi]
  unfold Geo4.eqB
  dsimp only
  by_cases h1 : J = J'
  case neg => simp [h1]
  by_cases h2 : I = I'
  case neg => simp [h1, h2]
  by_cases h3 : G = G'
  case neg => simp [h1, h2, h3]
  by_cases h4 : P = P' <;> simp [h1, h2, h3, h4]
theorem neqGeo (a b : Geo4) (w : World) : (binOp .neq 23 a.v b.v).run Try.prog w = .ok (.bool (!(Geo4.eqB a b))) w := by
  rw [run_neq_struct, eqGeo]; rfl
theorem eqlGeo (a b : Geo4) (w : World) : (binOp .eql 23 a.v b.v).run Try.prog w = .ok (.bool (Geo4.eqB a b)) w := by
  rw [run_eql_struct, eqGeo]; rfl
theorem infoGeo : (Try.prog.info? 23).map (·.size) = some 4 := by kernel_rfl
theorem Geo4.rowCells {w : World} {b : Nat} {g : Geo4} (h : Row w b 23 g.cs.toList) : w.cell? ⟨b, 0, none⟩ = some (.int .i64 g.J) ∧ w.cell? ⟨b, 1, none⟩ = some (.int .i64 g.I) ∧ w.cell? ⟨b, 2, none⟩ = some (.int .i64 g.G) ∧ w.cell? ⟨b, 3, none⟩ = some (.int .i64 g.P) :=
  ⟨(h.cell? 0).trans rfl, (h.cell? 1).trans rfl, (h.cell? 2).trans rfl, (h.cell? 3).trans rfl⟩
theorem oneGeo (J I G P : Int) : (#[.int .i64 J, .int .i64 I, .int .i64 G, .int .i64 P] : Array Value).all (·.oneCell') = true := by simp [Value.oneCell']
theorem conv_moat (w : World) : (convert 36 36 (.slice (some ⟨w.heap.size, 0, none⟩) 4 4)).run Try.prog (w.alloc (.cells #[.int .u8 109, .int .u8 111, .int .u8 97, .int .u8 116] 5)) = .ok (.slice (some ⟨w.heap.size, 0, none⟩) 4 4) (w.alloc (.cells #[.int .u8 109, .int .u8 111, .int .u8 97, .int .u8 116] 5 (4, 5))) :=
  Lib.run_convert_bytes_const (P := Try.prog) w 36 5 #[.int .u8 109, .int .u8 111, .int .u8 97, .int .u8 116] 4 4 Try.underlying36 Try.underlying5
theorem sl_moat (w : World) : Sl (w.alloc (.cells #[.int .u8 109, .int .u8 111, .int .u8 97, .int .u8 116] 5 (4, 5))) (some ⟨w.heap.size, 0, none⟩) (ints .u8 [109, 111, 97, 116]) := Sl.mk fun j hj => by
  rw [cell_of_row _ _ _ _ _ _ (heap_alloc_new w _)]
  obtain rfl | rfl | rfl | rfl : j = 0 ∨ j = 1 ∨ j = 2 ∨ j = 3 := by simp [ints] at hj; omega
  all_goals rfl
end Go.Proofs.Ythhkkjnahiimbaa.Super
