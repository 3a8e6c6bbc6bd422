/- Inodes as numbers and bytes: plain laws. -/
import Derived.Test.YtnodinancnfoeaaPtr
import Derived.Test.YtnodinancnfoeaaFillP
import Derived.Test.YtnodinancnfoeaaSplP
import Derived.Test.YtnodinancnfoeaaAtP
namespace Go.Proofs.Ytnodinancnfoeaa.Ino
open Go.RowKit Words Mem Plain Ops
open Go.Proofs.Ytnodinancnfoeaa.Field
set_option linter.ambiguousOpen false
set_option linter.unusedVariables false
set_option linter.unusedSimpArgs false

structure Ino where
  k : Int
  r : Int
  l : Int
  s : Int
  d0 : Int
  d1 : Int
  d2 : Int
  d3 : Int
  d4 : Int
  d5 : Int
  d6 : Int
  d7 : Int
  i : Int
  j : Int

def Ino.D (n : Ino) : List Int := [n.d0, n.d1, n.d2, n.d3, n.d4, n.d5, n.d6, n.d7]
abbrev Ino.cs (n : Ino) : Array Value := #[.int .u8 n.k, .int .u8 n.r, .int .i64 n.l, .int .i64 n.s, .int .i64 n.d0, .int .i64 n.d1, .int .i64 n.d2, .int .i64 n.d3, .int .i64 n.d4, .int .i64 n.d5, .int .i64 n.d6, .int .i64 n.d7, .int .i64 n.i, .int .i64 n.j]
abbrev Ino.v (n : Ino) : Value := .agg n.cs
def Ino.zero : Ino := ⟨0, 0, 0, 0, 0, 0, 0, 0, 0, 0, 0, 0, 0, 0⟩
/-- What its kinds let in. -/
def Ino.wf (n : Ino) : Prop := (0 ≤ n.k ∧ n.k < 256) ∧ (0 ≤ n.r ∧ n.r < 256)
/-- Are both the same? -/
def Ino.eqB (a b : Ino) : Bool := a.k == b.k && (a.r == b.r && (a.l == b.l && (a.s == b.s && (a.d0 == b.d0 && (a.d1 == b.d1 && (a.d2 == b.d2 && (a.d3 == b.d3 && (a.d4 == b.d4 && (a.d5 == b.d5 && (a.d6 == b.d6 && (a.d7 == b.d7 && (a.i == b.i && a.j == b.j))))))))))))
theorem Ino.eqB_iff (a b : Ino) : Ino.eqB a b = true ↔ a = b := by
  obtain ⟨⟩ := a
  obtain ⟨⟩ := b
  simp only [Ino.eqB, Bool.and_eq_true, beq_iff_eq, Ino.mk.injEq]
theorem Ino.eqB_self (a : Ino) : Ino.eqB a a = true := (Ino.eqB_iff a a).2 rfl

/-- Which inodes may be. -/
def Ino.RightP (n : Ino) : Prop := n.k ≤ 2 ∧ (n.k = 0 → Ino.eqB n Ino.zero = true) ∧ n.r < 16 ∧ 0 ≤ n.l ∧ n.l ≤ 65535 ∧ 0 ≤ n.s ∧ n.s ≤ 3840 ∧ (∀ x ∈ n.D, ptrB x = true) ∧ ptrB n.i = true ∧ ptrB n.j = true
def Ino.rightB (n : Ino) : Bool := decide (n.k ≤ 2) && ((!(n.k == 0) || Ino.eqB n Ino.zero) && (decide (n.r < 16) && (decide (0 ≤ n.l) && (decide (n.l ≤ 65535) && (decide (0 ≤ n.s) && (decide (n.s ≤ 3840) && (n.D.all ptrB && (ptrB n.i && ptrB n.j))))))))
theorem Ino.rightB_iff (n : Ino) : n.rightB = true ↔ n.RightP := by
  unfold Ino.rightB Ino.RightP
  simp only [Bool.and_eq_true, decide_eq_true_eq, Bool.or_eq_true, Bool.not_eq_true', beq_eq_false_iff_ne, List.all_eq_true]
  have : (n.k ≠ 0 ∨ Ino.eqB n Ino.zero = true) ↔ (n.k = 0 → Ino.eqB n Ino.zero = true) := by
    by_cases h : n.k = 0 <;> simp [h]
  rw [this]
theorem Ino.rightB_yes {n : Ino} (h : n.RightP) : n.rightB = true := (Ino.rightB_iff n).2 h
theorem Ino.rightB_no {n : Ino} (h : ¬ n.RightP) : n.rightB = false := by
  cases e : n.rightB
  · rfl
  · exact absurd ((Ino.rightB_iff n).1 e) h
theorem Ino.right_of {n : Ino} (h : n.rightB = true) : n.RightP := (Ino.rightB_iff n).1 h
theorem Ino.right_not {n : Ino} (h : n.rightB = false) : ¬ n.RightP := fun e => by rw [Ino.rightB_yes e] at h; cases h

/-- Its numbers, of two bytes each. -/
def Ino.nums (n : Ino) : List Int := [n.k + 256 * n.r, n.l, n.s, n.d0, n.d1, n.d2, n.d3, n.d4, n.d5, n.d6, n.d7, n.i, n.j]
def Ino.bytes (n : Ino) : List Int := filled (layed 2 n.nums) 32
/-- What Lay answers. -/
def Ino.layR (n : Ino) : List Int × Int := if n.rightB = true then (n.bytes, 0) else ([], 1)

theorem Ino.nums_bd {n : Ino} (hw : n.wf) (h : n.RightP) : ∀ x ∈ n.nums, 0 ≤ x ∧ x < 65536 := by
  obtain ⟨h1, h2, h3, h4, h5, h6, h7, h8, h9, h10⟩ := h
  have q : ∀ x ∈ n.D, 0 ≤ x ∧ x < 65536 := fun x hx => by have := ptrB_true (h8 x hx); omega
  have qi := ptrB_true h9
  have qj := ptrB_true h10
  obtain ⟨⟨k0, k1⟩, r0, r1⟩ := hw
  intro x hx
  have e : n.nums = [n.k + 256 * n.r, n.l, n.s] ++ n.D ++ [n.i, n.j] := rfl
  rw [e] at hx
  simp only [List.mem_append, List.mem_cons, List.not_mem_nil, or_false] at hx
  rcases hx with ((rfl | rfl | rfl) | hx) | (rfl | rfl)
  · omega
  · omega
  · omega
  · exact q x hx
  · omega
  · omega

/-- The inode that numbers of two bytes tell. -/
def Ino.ofNums (N : List Int) : Ino := ⟨N.getD 0 0 % 256, N.getD 0 0 / 256, N.getD 1 0, N.getD 2 0, N.getD 3 0, N.getD 4 0, N.getD 5 0, N.getD 6 0, N.getD 7 0, N.getD 8 0, N.getD 9 0, N.getD 10 0, N.getD 11 0, N.getD 12 0⟩
/-- What Take answers. -/
def Ino.takeP (xs : List Int) : Prop := xs.length = 32 ∧ (Ino.ofNums (takenL 2 xs 16)).RightP ∧ (∀ x ∈ (takenL 2 xs 16).drop 13, x = 0)
open Classical in
noncomputable def Ino.takeR (xs : List Int) : Ino × Int := if Ino.takeP xs then (Ino.ofNums (takenL 2 xs 16), 0) else (Ino.zero, 110)

theorem layed_append (s : Nat) (A B : List Int) : layed s (A ++ B) = layed s A ++ layed s B := by simp [layed]
theorem layed_zeros (s m : Nat) : layed s (List.replicate m 0) = List.replicate (s * m) 0 := by
  have hz : bytesOf s 0 = List.replicate s 0 := by
    apply List.ext_getElem?
    intro i
    by_cases h : i < s
    · rw [getElem_bytesOf _ _ _ h]; simp [byteAt, h]
    · rw [List.getElem?_eq_none (by rw [length_bytesOf]; omega), List.getElem?_eq_none (by simp; omega)]
  induction m with
  | zero => simp [layed]
  | succ m ih =>
    rw [List.replicate_succ, Nat.mul_succ]
    have : layed s (0 :: List.replicate m 0) = bytesOf s 0 ++ layed s (List.replicate m 0) := by simp [layed]
    rw [this, ih, hz, List.replicate_append_replicate, Nat.add_comm]

/-- Bytes are what their numbers lay. -/
theorem layed_takenL (s q : Nat) (xs : List Int) (hb : isBytes xs) (h : xs.length = s * q) : layed s (takenL s xs q) = xs := by
  have key : ∀ m, m ≤ q → layed s (takenL s xs m) = xs.take (s * m) := by
    intro m
    induction m with
    | zero => intro _; simp [takenL, layed]
    | succ m ih =>
      intro hm
      have hle : s * m + s ≤ s * q := by rw [← Nat.mul_succ]; exact Nat.mul_le_mul_left s hm
      rw [takenL_succ, layed_snoc, ih (by omega), Nat.mul_succ, List.take_add]
      congr 1
      have hl : ((xs.drop (s * m)).take s).length = s := by rw [List.length_take, List.length_drop]; omega
      have := bytesOf_numOf ((xs.drop (s * m)).take s) (isBytes_take (isBytes_drop hb _) _)
      rwa [hl] at this
  rw [key q (Nat.le_refl _), ← h, List.take_length]

theorem layed_inj (s : Nat) (A B : List Int) (hl : A.length = B.length) (hA : ∀ x ∈ A, 0 ≤ x ∧ x < 256 ^ s) (hB : ∀ x ∈ B, 0 ≤ x ∧ x < 256 ^ s) (h : layed s A = layed s B) : A = B := by
  have h1 := takenL_layed s A (fun x hx => (hA x hx).1) (fun x hx => fitsB_of (hA x hx).2)
  have h2 := takenL_layed s B (fun x hx => (hB x hx).1) (fun x hx => fitsB_of (hB x hx).2)
  rw [← h1, ← h2, h, hl]

theorem Ino.bytes_layed (n : Ino) : n.bytes = layed 2 (n.nums ++ [0, 0, 0]) := by
  have h1 : (layed 2 n.nums).length = 26 := by rw [length_layed]; rfl
  unfold Ino.bytes filled
  rw [h1, layed_append]
  congr 1
theorem Ino.bytes_len (n : Ino) : n.bytes.length = 32 := by rw [Ino.bytes_layed, length_layed]; rfl
theorem Ino.bytes_isBytes (n : Ino) : isBytes n.bytes := by rw [Ino.bytes_layed]; exact isBytes_layed _ _

theorem sixteen (N : List Int) (h : N.length = 16) : N = [N.getD 0 0, N.getD 1 0, N.getD 2 0, N.getD 3 0, N.getD 4 0, N.getD 5 0, N.getD 6 0, N.getD 7 0, N.getD 8 0, N.getD 9 0, N.getD 10 0, N.getD 11 0, N.getD 12 0, N.getD 13 0, N.getD 14 0, N.getD 15 0] := by
  rcases N with _ | ⟨a0, _ | ⟨a1, _ | ⟨a2, _ | ⟨a3, _ | ⟨a4, _ | ⟨a5, _ | ⟨a6, _ | ⟨a7, _ | ⟨a8, _ | ⟨a9, _ | ⟨a10, _ | ⟨a11, _ | ⟨a12, _ | ⟨a13, _ | ⟨a14, _ | ⟨a15, N⟩⟩⟩⟩⟩⟩⟩⟩⟩⟩⟩⟩⟩⟩⟩⟩ <;> simp_all

theorem Ino.nums_ofNums (N : List Int) (h : N.length = 16) : (Ino.ofNums N).nums ++ N.drop 13 = N := by
  have e := sixteen N h
  rw [e]
  simp [Ino.ofNums, Ino.nums]
  omega
theorem Ino.ofNums_nums {n : Ino} (hw : n.wf) (T : List Int) : Ino.ofNums (n.nums ++ T) = n := by
  obtain ⟨⟨k0, k1⟩, r0, r1⟩ := hw
  obtain ⟨⟩ := n
  simp only [Ino.ofNums, Ino.nums, Ino.mk.injEq] at *
  simp
  omega
theorem Ino.takenL_bytes {n : Ino} (hw : n.wf) (h : n.RightP) : takenL 2 n.bytes 16 = n.nums ++ [0, 0, 0] := by
  have hb : ∀ x ∈ n.nums ++ [0, 0, 0], 0 ≤ x ∧ x < 65536 := by
    intro x hx
    rcases List.mem_append.1 hx with h1 | h1
    · exact Ino.nums_bd hw h x h1
    · simp at h1; omega
  have := takenL_layed 2 (n.nums ++ [0, 0, 0]) (fun x hx => (hb x hx).1) (fun x hx => fitsB_of (by rw [p2]; exact (hb x hx).2))
  rw [Ino.bytes_layed]
  exact this

/-- What was laid is taken. -/
theorem Ino.take_bytes {n : Ino} (hw : n.wf) (h : n.RightP) : Ino.takeR n.bytes = (n, 0) := by
  have h1 := Ino.takenL_bytes hw h
  have h2 : Ino.ofNums (takenL 2 n.bytes 16) = n := by rw [h1]; exact Ino.ofNums_nums hw _
  have h3 : (takenL 2 n.bytes 16).drop 13 = [0, 0, 0] := by rw [h1]; rfl
  unfold Ino.takeR
  rw [if_pos ⟨Ino.bytes_len n, by rw [h2]; exact h, by rw [h3]; intro x hx; simpa using hx⟩, h2]
/-- What is taken is laid so. -/
theorem Ino.bytes_take {xs : List Int} (hb : isBytes xs) (h : Ino.takeP xs) : (Ino.ofNums (takenL 2 xs 16)).bytes = xs := by
  obtain ⟨h1, h2, h3⟩ := h
  have h4 := Ino.nums_ofNums (takenL 2 xs 16) (length_takenL _ _ _)
  have h5 : (takenL 2 xs 16).drop 13 = [0, 0, 0] := by
    have hl : ((takenL 2 xs 16).drop 13).length = 3 := by rw [List.length_drop, length_takenL]
    generalize (takenL 2 xs 16).drop 13 = T at *
    rcases T with _ | ⟨a, _ | ⟨b, _ | ⟨c, _ | ⟨d, T⟩⟩⟩⟩ <;> simp at hl
    simp at h3
    rw [h3.1, h3.2.1, h3.2.2]
  rw [h5] at h4
  rw [Ino.bytes_layed, h4]
  exact layed_takenL 2 16 xs hb h1
/-- What the reference asks: the bytes that the inode lays are the bytes. -/
theorem Ino.take_iff {xs : List Int} (hb : isBytes xs) (hl : xs.length = 32) (hr : (Ino.ofNums (takenL 2 xs 16)).RightP) : (Ino.ofNums (takenL 2 xs 16)).bytes = xs ↔ Ino.takeP xs := by
  refine ⟨fun h => ⟨hl, hr, ?_⟩, Ino.bytes_take hb⟩
  have hq := takenL_bd 2 xs 16 hb (by decide)
  rw [p2] at hq
  have hw : (Ino.ofNums (takenL 2 xs 16)).wf := by
    have h0 : 0 ≤ (takenL 2 xs 16).getD 0 0 ∧ (takenL 2 xs 16).getD 0 0 < 65536 := by
      have hl : 0 < (takenL 2 xs 16).length := by rw [length_takenL]; decide
      have := hq (takenL 2 xs 16)[0] (List.getElem_mem hl)
      simpa [List.getD, hl] using this
    unfold Ino.wf Ino.ofNums
    dsimp only
    omega
  have h1 := Ino.takenL_bytes hw hr
  rw [h] at h1
  rw [h1]
  intro x hx
  have : (((Ino.ofNums (takenL 2 xs 16)).nums ++ [0, 0, 0]).drop 13) = [0, 0, 0] := rfl
  rw [this] at hx
  simpa using hx
theorem Ino.ofNums_wf {xs : List Int} (hb : isBytes xs) (h : xs.length = 32) : (Ino.ofNums (takenL 2 xs 16)).wf := by
  have hq := takenL_bd 2 xs 16 hb (by decide)
  rw [p2] at hq
  have h0 : 0 ≤ (takenL 2 xs 16).getD 0 0 ∧ (takenL 2 xs 16).getD 0 0 < 65536 := by
    have hl : 0 < (takenL 2 xs 16).length := by rw [length_takenL]; decide
    have := hq (takenL 2 xs 16)[0] (List.getElem_mem hl)
    simpa [List.getD, hl] using this
  unfold Ino.wf Ino.ofNums
  dsimp only
  omega
end Go.Proofs.Ytnodinancnfoeaa.Ino
