/- What single operations do, in the words of XMem; no program named: make, copy, a string of bytes. -/
import Derived.Test.YtfodpphbdbeciaaMem
import Derived.Test.YtfodpphbdbeciaaPlain
import Derived.Laws.MakeOwn
import Derived.Laws.CopyRow
import Derived.Laws.BytesString
import Derived.Lib.Hide
namespace Go.Proofs.Ytfodpphbdbeciaa.Ops
open Go.RowKit Words Mem Plain
set_option linter.unusedVariables false
section
variable {P : Program}

theorem madeCells_int (k : IntKind) (x : Int) (n : Nat) : madeCells #[.int k x] n = (ints k (List.replicate n x)).toArray := by
  apply Array.toList_inj.1
  rw [toList_madeCells_one, ints_replicate]

theorem run_make_ints (w : World) (t e : TypeId) (k : IntKind) (bts : Nat) (ht : P.underlying t = some (.slice e)) (hi : (P.info? e).map (fun i => (i.zero, i.size, i.bytes)) = some (some (.int k 0), 1, bts))
    (kl kc : IntKind) (N : Int) (n : Nat) (hN : N = n) (hb : bts * n ≤ 281474976710656) (hm : n ≤ 9223372036854775807) :
    (Instr.makeSlice t (.int kl N) (.int kc N)).run P w = .ok (.slice (some ⟨w.heap.size, 0, none⟩) n n) (w.alloc (.cells (ints k (List.replicate n 0)).toArray e)) := by
  obtain ⟨i, h2, h3, h4, h5⟩ := info_parts hi
  subst hN
  have := run_make (P := P) w t e i _ ht h2 h3 kl kc n n (by omega) (by omega) (by rw [h5]; have e := Int.natCast_mul bts n; omega) (by omega)
  rw [this, h4]
  simp only [Value.cells, Nat.mul_one, Int.toNat_natCast, madeCells_int]

theorem setRow_same {w : World} {g : Nat} {t : TypeId} {L : List Value} (h : Row w g t L) : w.setRow g L.toArray = w := by
  have hlt := h.lt
  have hv : w.heap[g] = .cells L.toArray t (0, 0) := (Array.getElem?_eq_some_iff.1 h).2
  have e : (w.setRow g L.toArray).heap = w.heap := by
    apply Array.ext_getElem?
    intro i
    by_cases hi : i = g
    · subst hi; rw [setRow_heap w i _ _ t _ h]; exact h.symm
    · rw [setRow_other w g i _ hi]
  unfold World.setRow at e ⊢
  exact congrArg (fun x => { w with heap := x }) e
theorem setRow_new (w : World) (e : TypeId) (c c' : Array Value) : (w.alloc (.cells c e)).setRow w.heap.size c' = w.alloc (.cells c' e) := by
  have : ((w.alloc (.cells c e)).setRow w.heap.size c').heap = (w.alloc (.cells c' e)).heap := by
    apply Array.ext_getElem?
    intro i
    by_cases hi : i = w.heap.size
    · subst hi
      rw [setRow_heap _ _ c c' e (0, 0) (heap_alloc_new w _), heap_alloc_new]
    · rw [setRow_other _ _ _ _ hi]
      show (w.heap.push _)[i]? = (w.heap.push _)[i]?
      rw [Array.getElem?_push, Array.getElem?_push, if_neg hi, if_neg hi]
  exact congrArg (fun x => { w with heap := x }) this
theorem setCell_row {w : World} {g : Nat} {t : TypeId} {L : List Value} (h : Row w g t L) (j : Nat) (v : Value) : w.setCell ⟨g, j, none⟩ v = w.setRow g (L.set j v).toArray := by
  rw [setCell_eq_setRow w g j L.toArray t (0, 0) v h]; simp

theorem run_copy_sl (w : World) (dT sT ty elem : TypeId) {g o : Nat} (dLen dCap : Nat) {a : Option Addr} (sLen sCap : Nat) {t : TypeId} {L xs : List Value}
    (hu : P.underlying dT = some (.slice elem)) (hs : (P.info? elem).map (·.size) = some 1) (hr : Row w g t L) (hx : Sl w a xs) (hl : xs.length = sLen)
    (hfit : o + min sLen dLen ≤ L.length) (h1 : ∀ v ∈ xs, v.oneCell' = true) :
    (Builtin.copy_ #[dT, sT] ty #[.slice (some ⟨g, o, none⟩) dLen dCap, .slice a sLen sCap]).run P w = .ok (goInt (min sLen dLen : Nat)) (w.setRow g (splice L o (xs.take dLen)).toArray) := by
  have emin : Nat.min sLen dLen = min sLen dLen := rfl
  have hlen : (xs.take dLen).length = Nat.min sLen dLen := by rw [emin, List.length_take, hl]; omega
  by_cases h0 : Nat.min sLen dLen = 0
  · rw [run_copy_none (P := P) w dT sT ty elem _ a dLen dCap sLen sCap hu hs h0]
    have : xs.take dLen = [] := List.eq_nil_of_length_eq_zero (by omega)
    rw [this, splice_nil, setRow_same hr, show min sLen dLen = 0 from h0]; rfl
  · have hpos : 0 < xs.length := by rw [hl]; omega
    obtain ⟨b, off, rfl, hc⟩ := hx.at hpos
    have hx' := hx
    rw [run_copy_row (P := P) w dT sT ty elem g o dLen dCap ⟨b, off, none⟩ sLen sCap L.toArray t (xs.take dLen) hu hs hr hlen ?_ (by rw [hlen, emin]; simpa using hfit) (fun v hv => h1 v (List.mem_of_mem_take hv))]
    · rw [hlen, emin]; simp [splice, hl, Nat.min_comm]
    · intro j v hv
      have hj : j < xs.length := by
        have := (List.getElem?_eq_some_iff.1 hv).1
        simp at this; omega
      obtain ⟨ad, had, hcell⟩ := hx' j hj
      cases had
      rw [hcell]
      rw [List.getElem?_take] at hv
      split at hv
      · rw [← hv]; simp [hj]
      · cases hv

/-- Numbers as the bytes of a string. -/
def strOf (l : List Int) : ByteArray := ⟨(l.map fun x => UInt8.ofNat x.toNat).toArray⟩
theorem strOf_toList (l : List Int) : (strOf l).toList = l.map fun x => UInt8.ofNat x.toNat := by
  rw [ByteArray.toList_eq]; simp [strOf]
theorem strOf_size (l : List Int) : (strOf l).size = l.length := by simp [strOf, ByteArray.size]
theorem strOf_eq {l m : List Int} (hl : isBytes l) (hm : isBytes m) : ((strOf l).toList == (strOf m).toList) = decide (l = m) := by
  rw [strOf_toList, strOf_toList]
  rw [Bool.eq_iff_iff, beq_iff_eq, decide_eq_true_iff]
  refine ⟨fun h => ?_, fun h => by rw [h]⟩
  have h' := congrArg (List.map fun u : UInt8 => (u.toNat : Int)) h
  rw [List.map_map, List.map_map] at h'
  have key : ∀ {l : List Int}, isBytes l → l.map ((fun u : UInt8 => (u.toNat : Int)) ∘ fun x => UInt8.ofNat x.toNat) = l := by
    intro l hl
    conv => rhs; rw [← List.map_id l]
    apply List.map_congr_left
    intro x hx
    have := hl x hx
    simp only [Function.comp]
    rw [UInt8.toNat_ofNat']
    simp
    omega
  rwa [key hl, key hm] at h'
theorem strOf_append (l m : List Int) : strOf (l ++ m) = strOf l ++ strOf m := by
  apply ByteArray.ext
  simp [strOf]

theorem run_string_sl (w : World) {a : Option Addr} {n : Nat} (cap : Nat) {xs : List Int} (h : Sl w a (ints .u8 xs)) (hl : xs.length = n) :
    (Conv.bytesToString (.slice a n cap)).run P w = .ok (.string (strOf xs)) w := by
  have hpush : ∀ (ns : List Int) (s : ByteArray), ns.foldl (fun r n => r.push (UInt8.ofNat n.toNat)) s = s ++ strOf ns := by
    intro ns
    induction ns with
    | nil => intro s; simp [strOf]; apply ByteArray.ext; simp
    | cons x ns ih => intro s; rw [List.foldl_cons, ih]; apply ByteArray.ext; simp [strOf]
  cases a with
  | none =>
    have : xs = [] := by
      cases xs with
      | nil => rfl
      | cons x xs => obtain ⟨ad, had, _⟩ := h 0 (by simp [ints]); cases had
    subst this
    rfl
  | some ad =>
    have hload := run_loadCells_list (P := P) w ad (ints .u8 xs) (by
      intro j v hv
      have hj := (List.getElem?_eq_some_iff.1 hv)
      obtain ⟨hj, e⟩ := hj
      obtain ⟨ad', had, hc⟩ := h j hj
      cases had
      rw [hc, e])
    rw [ints_length, hl] at hload
    rw [run_bytesToString w ad n cap xs (by simpa [ints] using hload), hpush]
    congr 2

/-- 'string(b)'. -/
theorem run_conv_str (w : World) (src dst e : TypeId) (hs : P.underlying src = some (.slice e)) (he : P.underlying e = some (.int .u8)) (hd : P.underlying dst = some .string)
    {a : Option Addr} {n : Nat} (cap : Nat) {xs : List Int} (h : Sl w a (ints .u8 xs)) (hl : xs.length = n) :
    (convert src dst (.slice a n cap)).run P w = .ok (.string (strOf xs)) w := by
  rw [run_convert_bytes_string w src dst e a n cap hs he hd, run_string_sl w cap h hl]

theorem Ext_grown {w0 w w' : World} {base : Nat} {row : Option Nat} (h : Ext w0 w) (hb : w0.heap.size ≤ base) (hbs : base ≤ w.heap.size) (hg : w.grownBy w' row) (hr : ∀ k, row = some k → base ≤ k) : Ext w0 w' :=
  Below.grown h hg (Nat.le_trans hb hbs) fun k hk => Nat.le_trans hb (hr k hk)

/-- append of a slice to what is owned. -/
theorem run_append_sl (w : World) (base : Nat) (t ty e : TypeId) (z : Value) (bts : Nat) (ht : P.underlying t = some (.slice e)) (hi : (P.info? e).map (fun i => (i.zero, i.size, i.bytes)) = some (some z, 1, bts)) (hz1 : z.cells.size = 1)
    {a0 : Option Addr} {n cap0 : Nat} {xs : List Value} (hown : w.ownsRow base e 1 (.slice a0 n cap0) n xs) {a : Option Addr} {m : Nat} (c : Nat) {news : List Value} (hl : news.length = m) (hx : Sl w a news) (hnil : a = none → m = 0 ∧ c = 0) (h1 : ∀ u ∈ news, u.oneCell' = true)
    (hb : (n + m) * bts ≤ 140737488355328) (h63 : n + m ≤ 9223372036854775807) (hbase : base ≤ w.heap.size) :
    ∃ a' cap' w', (Builtin.append_ #[t, t] ty #[.slice a0 n cap0, .slice a m c]).run P w = .ok (.slice a' (n + m) cap') w' ∧ w'.ownsRow base e 1 (.slice a' (n + m) cap') (n + m) (xs ++ news) ∧ ∀ w0, Ext w0 w → w0.heap.size ≤ base → Ext w0 w' := by
  obtain ⟨i, h2, h3, h4, h5⟩ := info_parts hi
  cases a with
  | none =>
    obtain ⟨rfl, rfl⟩ := hnil rfl
    have : news = [] := List.eq_nil_of_length_eq_zero hl
    subst this
    exact ⟨a0, cap0, w, run_append_owned_none (P := P) (w := w) base t ty e i 1 ht h2 _ n xs hown, by simpa using hown, fun w0 h _ => h⟩
  | some ad =>
    obtain ⟨v', w', hrun, hown', hg, _⟩ := run_append_own (P := P) w base t ty e i z 1 bts ht h2 h3 h4 h5 hz1 (by decide) _ n xs hown ad m c news (by simpa using hl) (fun j u hu => by
      obtain ⟨hj, e⟩ := List.getElem?_eq_some_iff.1 hu
      obtain ⟨ad', had, hc⟩ := hx j hj
      cases had; rw [hc, e]) h1 (by unfold maxLen; omega) hb hbase
    have hlt := hown.lt
    have hv : ∃ a' cap', v' = .slice a' (n + m) cap' := by
      rcases hown'.2 with ⟨rfl, hn⟩ | ⟨g, cap', cur, rfl, _⟩
      · exact ⟨none, 0, by rw [hn]⟩
      · exact ⟨_, cap', rfl⟩
    obtain ⟨a', cap', rfl⟩ := hv
    exact ⟨a', cap', w', hrun, hown', fun w0 h hb0 => Ext_grown h hb0 hbase hg (fun k hk => (hlt k hk).1)⟩

/-- append of one number that has just been laid in a block of its own. -/
theorem run_append_one (w : World) (base : Nat) (t ty e : TypeId) (k : IntKind) (bts : Nat) (ht : P.underlying t = some (.slice e)) (hi : (P.info? e).map (fun i => (i.zero, i.size, i.bytes)) = some (some (.int k 0), 1, bts))
    {a0 : Option Addr} {n cap0 : Nat} {xs : List Int} (hown : w.ownsRow base e 1 (.slice a0 n cap0) n (ints k xs)) (x : Int) (hb : (n + 1) * bts ≤ 140737488355328) (h63 : n + 1 ≤ 9223372036854775807) (hbase : base ≤ w.heap.size) :
    ∃ a' cap' w', (Builtin.append_ #[t, t] ty #[.slice a0 n cap0, .slice (some ⟨w.heap.size, 0, none⟩) 1 1]).run P (w.alloc (.cells #[.int k x] e)) = .ok (.slice a' (n + 1) cap') w' ∧ w'.ownsRow base e 1 (.slice a' (n + 1) cap') (n + 1) (ints k (xs ++ [x])) ∧ ∀ w0, Ext w0 w → w0.heap.size ≤ base → Ext w0 w' := by
  obtain ⟨a', cap', w', h1, h2, h3⟩ := run_append_sl (P := P) (w.alloc (.cells #[.int k x] e)) base t ty e (.int k 0) bts ht hi rfl (hown.alloc _) 1 (news := [.int k x]) rfl ((Row.new w e [.int k x]).sl0) (by simp) (by simp [Value.oneCell']) hb h63 (by simp; omega)
  exact ⟨a', cap', w', h1, by rw [ints_append]; exact h2, fun w0 h hb0 => h3 w0 (h.alloc _) hb0⟩
end
end Go.Proofs.Ytfodpphbdbeciaa.Ops
