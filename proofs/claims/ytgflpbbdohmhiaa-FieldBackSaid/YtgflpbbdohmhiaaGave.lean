/- One contract for each function of field and of its reference, whatever comes in: a list of its own and a code. -/
import Derived.Test.YtgflpbbdohmhiaaTakeR
import Derived.Test.YtgflpbbdohmhiaaIn
namespace Go.Proofs.Ytgflpbbdohmhiaa.Field
open Go.RowKit Words Mem Plain Ops
set_option linter.unusedVariables false
set_option linter.unusedSimpArgs false

/-- A list of the call's own, and a code. -/
def Gave (k : IntKind) (t : TypeId) (w : World) (r : List Int × Int) (e : Ending) (w' : World) : Prop :=
  ∃ a cap, e = .returned (.tuple #[.slice a r.1.length cap, .int .i64 r.2]) ∧ w'.ownsRow w.heap.size t 1 (.slice a r.1.length cap) r.1.length (ints k r.1) ∧ Ext w w'
theorem Gave.nil {k : IntKind} {t : TypeId} {w w' : World} {e : Ending} {c : Int} (he : e = .returned (.tuple #[.slice none 0 0, .int .i64 c])) (h : Ext w w') : Gave k t w ([], c) e w' :=
  ⟨none, 0, he, ownsRow_nil _ _ _, h⟩
theorem Gave.row {k : IntKind} {t : TypeId} {w w' : World} {e : Ending} {L : List Int} {n : Nat} {c : Int} (he : e = .returned (.tuple #[.slice (some ⟨w.heap.size, 0, none⟩) n n, .int .i64 c])) (hl : L.length = n) (hm : n ≤ maxLen) (hr : Row w' w.heap.size t (ints k L)) (h : Ext w w') : Gave k t w (L, c) e w' := by
  subst hl
  exact ⟨_, _, he, ownsRow_of hr (Nat.le_refl _) (by rw [ints_length]) hm, h⟩
theorem Gave.own {k : IntKind} {t : TypeId} {w w' : World} {e : Ending} {L : List Int} {n cap : Nat} {a : Option Addr} {c : Int} (he : e = .returned (.tuple #[.slice a n cap, .int .i64 c])) (hl : L.length = n) (hr : w'.ownsRow w.heap.size t 1 (.slice a n cap) n (ints k L)) (h : Ext w w') : Gave k t w (L, c) e w' := by
  subst hl
  exact ⟨_, _, he, hr, h⟩

theorem own_cap {w : World} {base : Nat} {t : TypeId} {a : Option Addr} {n cap : Nat} {xs : List Value} (h : w.ownsRow base t 1 (.slice a n cap) n xs) : n ≤ cap ∧ cap ≤ 9223372036854775807 := by
  rcases ownsRow_cases h with ⟨_, h2, h3, _⟩ | ⟨g, M, h1, _, _, h4, h5, _⟩
  · omega
  · unfold maxLen at h5; omega
theorem own_lt {w : World} {base : Nat} {t : TypeId} {a : Option Addr} {n cap : Nat} {xs : List Value} (h : w.ownsRow base t 1 (.slice a n cap) n xs) : ∀ ad, a = some ad → base ≤ ad.block := by
  rcases ownsRow_cases h with ⟨h1, _⟩ | ⟨g, M, h1, h2, _⟩
  · intro ad e; rw [h1] at e; cases e
  · intro ad e; rw [h1] at e; cases e; exact h2

/-! ### What is answered -/
def layR (s : Int) (l : List Int) : List Int × Int :=
  if s < 1 ∨ 8 < s then ([], 1) else if okLay s.toNat l then (layed s.toNat l, 0) else ([], 4)
def takeR (s : Int) (xs : List Int) : List Int × Int :=
  if s < 1 ∨ 8 < s ∨ (xs.length : Int) % s ≠ 0 then ([], 1) else if 4096 < xs.length then ([], 4) else (takenL s.toNat xs (xs.length / s.toNat), 0)
def fillR (xs : List Int) (s : Int) : List Int × Int :=
  if s < 0 then ([], 1) else if 4096 < s ∨ s < xs.length then ([], 4) else (filled xs s.toNat, 0)
def setR (xs : List Int) (k s x : Int) : List Int × Int :=
  if standsB xs.length k s = false then ([], 1) else if fitsB x s.toNat = false then ([], 4) else (setP xs k.toNat s.toNat x, 0)
def getR (xs : List Int) (k s : Int) : Int × Int :=
  if standsB xs.length k s = false then (0, 1) else (numOf ((xs.drop k.toNat).take s.toNat), 0)

section
variable (a : Option Addr) (n cap : Nat) (xs : List Int) (w : World)

theorem Lay_gave (s : Int) (hl : xs.length = n) (hm : n ≤ 9223372036854775807) (hx : Sl w a (ints .u64 xs)) (hu : ∀ x ∈ xs, 0 ≤ x ∧ x < 18446744073709551616) :
    Calls Try.prog 16 #[.int .i64 s, .slice a n cap] w (Gave .u8 5 w (layR s xs)) := by
  unfold layR
  by_cases h : s < 1 ∨ 8 < s
  · rw [if_pos h]
    exact (Lay_arg a n cap s w h).mono fun e w' ⟨h1, h2⟩ => Gave.nil h1 (by subst h2; exact Ext.refl _)
  · rw [if_neg h]
    obtain ⟨q, rfl⟩ : ∃ q : Nat, s = q := ⟨s.toNat, by omega⟩
    rw [Int.toNat_natCast]
    by_cases h4 : okLay q xs = true
    · rw [if_pos h4]
      have hb := (okLay_true h4).1
      refine (Lay_yes q a n cap xs w (by omega) (by omega) hl hx hu h4).mono fun e w' ⟨h1, h2, h3⟩ => Gave.row h1 (by rw [length_layed, hl]) (by unfold maxLen; rw [hl] at hb; omega) h2 h3
    · rw [if_neg h4]
      exact (Lay_no q a n cap xs w (by omega) (by omega) hl hx hu hm (by simpa using h4)).mono fun e w' ⟨h1, h2⟩ => Gave.nil h1 h2
theorem rLay_gave (s : Int) (hl : xs.length = n) (hm : n ≤ 9223372036854775807) (hx : Sl w a (ints .u64 xs)) (hu : ∀ x ∈ xs, 0 ≤ x ∧ x < 18446744073709551616) :
    Calls Try.prog 17 #[.int .i64 s, .slice a n cap] w (Gave .u8 5 w (layR s xs)) := by
  unfold layR
  by_cases h : s < 1 ∨ 8 < s
  · rw [if_pos h]
    exact (rLay_arg a n cap s w h).mono fun e w' ⟨h1, h2⟩ => Gave.nil h1 (by subst h2; exact Ext.refl _)
  · rw [if_neg h]
    obtain ⟨q, rfl⟩ : ∃ q : Nat, s = q := ⟨s.toNat, by omega⟩
    rw [Int.toNat_natCast]
    refine (rLay_ok q a n cap xs w (by omega) (by omega) hl hm hx hu).mono fun e w' h => ?_
    rcases h with ⟨h1, a', c', h2, h3, h4⟩ | ⟨h1, h2, h3⟩
    · rw [if_pos h1]; exact ⟨a', c', h2, h3, h4⟩
    · rw [if_neg (by rw [h1]; simp)]; exact Gave.nil h2 h3

theorem Take_gave (s : Int) (hl : xs.length = n) (hn : n ≤ 9223372036854775807) (hb : isBytes xs) (hs : Sl w a (ints .u8 xs)) (hcap : n ≤ cap) (hcm : cap ≤ 9223372036854775807) :
    Calls Try.prog 20 #[.int .i64 s, .slice a n cap] w (Gave .u64 23 w (takeR s xs)) := by
  unfold takeR
  rw [hl]
  by_cases h : s < 1 ∨ 8 < s ∨ (n : Int) % s ≠ 0
  · rw [if_pos h]
    exact (Take_arg a n cap s w hn h).mono fun e w' ⟨h1, h2⟩ => Gave.nil h1 (by subst h2; exact Ext.refl _)
  · rw [if_neg h]
    have h1 : 1 ≤ s := by omega
    have h2 : s ≤ 8 := by omega
    have h3 : (n : Int) % s = 0 := by omega
    by_cases h4 : 4096 < n
    · rw [if_pos h4]
      exact (Take_long a n cap s w hn h1 h2 h3 h4).mono fun e w' ⟨h1, h2⟩ => Gave.nil h1 (by subst h2; exact Ext.refl _)
    · rw [if_neg h4]
      obtain ⟨q, rfl⟩ : ∃ q : Nat, s = q := ⟨s.toNat, by omega⟩
      rw [Int.toNat_natCast]
      have hd : n % q = 0 := by exact_mod_cast h3
      exact (Take_yes a n cap q (n / q) xs w (by omega) (by omega) hl (by omega) (by rw [Nat.mul_div_cancel' (Nat.dvd_of_mod_eq_zero hd)]) hb hs hcap hcm)
theorem rTake_gave (s : Int) (hl : xs.length = n) (hn : n ≤ 9223372036854775807) (hb : isBytes xs) (hs : Sl w a (ints .u8 xs)) :
    Calls Try.prog 21 #[.int .i64 s, .slice a n cap] w (Gave .u64 23 w (takeR s xs)) := by
  unfold takeR
  rw [hl]
  by_cases h : s < 1 ∨ 8 < s ∨ (n : Int) % s ≠ 0
  · rw [if_pos h]
    exact (rTake_arg a n cap s w hn h).mono fun e w' ⟨h1, h2⟩ => Gave.nil h1 (by subst h2; exact Ext.refl _)
  · rw [if_neg h]
    have h1 : 1 ≤ s := by omega
    have h2 : s ≤ 8 := by omega
    have h3 : (n : Int) % s = 0 := by omega
    by_cases h4 : 4096 < n
    · rw [if_pos h4]
      exact (rTake_long a n cap s w hn h1 h2 h3 h4).mono fun e w' ⟨h1, h2⟩ => Gave.nil h1 (by subst h2; exact Ext.refl _)
    · rw [if_neg h4]
      obtain ⟨q, rfl⟩ : ∃ q : Nat, s = q := ⟨s.toNat, by omega⟩
      rw [Int.toNat_natCast]
      have hd : n % q = 0 := by exact_mod_cast h3
      exact (rTake_yes a n cap q (n / q) xs w (by omega) (by omega) hl (by omega) (by rw [Nat.mul_div_cancel' (Nat.dvd_of_mod_eq_zero hd)]) hb hs)

theorem Fill_gave (s : Int) (b0 : -9223372036854775808 ≤ s) (b1 : s ≤ 9223372036854775807) (hl : xs.length = n) (hn : n ≤ 9223372036854775807) (hs : Sl w a (ints .u8 xs)) :
    Calls Try.prog 18 #[.slice a n cap, .int .i64 s] w (Gave .u8 5 w (fillR xs s)) := by
  unfold fillR
  rw [hl]
  by_cases h : s < 0 ∨ 4096 < s ∨ s < n
  · refine (Fill_no a n cap s w b0 b1 h (by unfold maxLen; omega)).mono fun e w' ⟨h1, h2⟩ => ?_
    by_cases h0 : s < 0
    · rw [if_pos h0] at h1 ⊢
      exact Gave.nil h1 (by subst h2; exact Ext.refl _)
    · rw [if_neg h0] at h1 ⊢
      rw [if_pos (by omega)]
      exact Gave.nil h1 (by subst h2; exact Ext.refl _)
  · rw [if_neg (by omega), if_neg (by omega)]
    obtain ⟨q, rfl⟩ : ∃ q : Nat, s = q := ⟨s.toNat, by omega⟩
    rw [Int.toNat_natCast]
    refine (Fill_ok a n cap q xs w hl hs (by omega) (by omega)).mono fun e w' ⟨h1, h2⟩ => ?_
    subst h2
    exact Gave.row h1 (length_filled _ _ (by omega)) (by unfold maxLen; omega) (Row.new w 5 (ints .u8 (filled xs q))) ((Ext.refl w).alloc _)
theorem rFill_gave (s : Int) (b0 : -9223372036854775808 ≤ s) (b1 : s ≤ 9223372036854775807) (hl : xs.length = n) (hn : n ≤ 9223372036854775807) (hs : Sl w a (ints .u8 xs)) (hnil : a = none → n = 0 ∧ cap = 0) :
    Calls Try.prog 19 #[.slice a n cap, .int .i64 s] w (Gave .u8 5 w (fillR xs s)) := by
  unfold fillR
  rw [hl]
  by_cases h : s < 0 ∨ 4096 < s ∨ s < n
  · refine (rFill_no a n cap s w b0 b1 h hn).mono fun e w' ⟨h1, h2⟩ => ?_
    by_cases h0 : s < 0
    · rw [if_pos h0] at h1 ⊢
      exact Gave.nil h1 (by subst h2; exact Ext.refl _)
    · rw [if_neg h0] at h1 ⊢
      rw [if_pos (by omega)]
      exact Gave.nil h1 (by subst h2; exact Ext.refl _)
  · rw [if_neg (by omega), if_neg (by omega)]
    obtain ⟨q, rfl⟩ : ∃ q : Nat, s = q := ⟨s.toNat, by omega⟩
    rw [Int.toNat_natCast]
    exact rFill_ok a n cap q xs w hl hs hnil (by omega) (by omega)

theorem Set_gave (k s x : Int) (b0 : -9223372036854775808 ≤ k) (h0 : 0 ≤ x) (hx : x < 18446744073709551616) (hl : xs.length = n) (hn : n ≤ 1000000) (hs : Sl w a (ints .u8 xs)) :
    Calls Try.prog 14 #[.slice a n cap, .int .i64 k, .int .i64 s, .int .u64 x] w (Gave .u8 5 w (setR xs k s x)) := by
  unfold setR
  rw [hl]
  by_cases h : standsB n k s = false
  · rw [if_pos h]
    exact (Set_arg a n cap k s x w (by omega) b0 h).mono fun e w' ⟨h1, h2⟩ => Gave.nil h1 (by subst h2; exact Ext.refl _)
  · rw [if_neg h]
    have ht : standsB n k s = true := by simpa using h
    obtain ⟨g1, g2, g3, g4, g5⟩ := standsB_true ht
    obtain ⟨q, rfl⟩ : ∃ q : Nat, s = q := ⟨s.toNat, by omega⟩
    obtain ⟨i, rfl⟩ : ∃ i : Nat, k = i := ⟨k.toNat, by omega⟩
    rw [Int.toNat_natCast, Int.toNat_natCast]
    by_cases hf : fitsB x q = false
    · rw [if_pos hf]
      exact (Set_long a n cap i q x w (by omega) ht h0 hx hf).mono fun e w' ⟨h1, h2⟩ => Gave.nil h1 (by subst h2; exact Ext.refl _)
    · rw [if_neg hf]
      exact (Set_yes a n cap xs i q x w hl hn hs ht h0 hx (by simpa using hf)).mono fun e w' ⟨h1, h2, h3⟩ => Gave.row h1 (by rw [length_setP _ _ _ _ (by omega), hl]) (by unfold maxLen; omega) h2 h3
theorem rSet_gave (k s x : Int) (b0 : -9223372036854775808 ≤ k) (h0 : 0 ≤ x) (hx : x < 18446744073709551616) (hl : xs.length = n) (hn : n ≤ 1000000) (hs : Sl w a (ints .u8 xs)) (hcap : n ≤ cap) (hcm : cap ≤ 9223372036854775807) :
    Calls Try.prog 15 #[.slice a n cap, .int .i64 k, .int .i64 s, .int .u64 x] w (Gave .u8 5 w (setR xs k s x)) := by
  unfold setR
  rw [hl]
  by_cases h : standsB n k s = false
  · rw [if_pos h]
    exact (rSet_arg a n cap k s x w (by omega) b0 h).mono fun e w' ⟨h1, h2⟩ => Gave.nil h1 (by subst h2; exact Ext.refl _)
  · rw [if_neg h]
    have ht : standsB n k s = true := by simpa using h
    obtain ⟨g1, g2, g3, g4, g5⟩ := standsB_true ht
    obtain ⟨q, rfl⟩ : ∃ q : Nat, s = q := ⟨s.toNat, by omega⟩
    obtain ⟨i, rfl⟩ : ∃ i : Nat, k = i := ⟨k.toNat, by omega⟩
    rw [Int.toNat_natCast, Int.toNat_natCast]
    by_cases hf : fitsB x q = false
    · rw [if_pos hf]
      exact (rSet_long a n cap i q x w (by omega) ht h0 hx hf).mono fun e w' ⟨h1, h2⟩ => Gave.nil h1 (by subst h2; exact Ext.refl _)
    · rw [if_neg hf]
      exact rSet_yes a n cap xs i q x w hl hn hs hcap hcm ht h0 hx (by simpa using hf)

theorem Get_gave (k s : Int) (b0 : -9223372036854775808 ≤ k) (hl : xs.length = n) (hn : n ≤ 9223372036854775807) (hb : isBytes xs) (hs : Sl w a (ints .u8 xs)) (hcap : n ≤ cap) (hcm : cap ≤ 9223372036854775807) :
    Calls Try.prog 12 #[.slice a n cap, .int .i64 k, .int .i64 s] w fun e w' => e = .returned (.tuple #[.int .u64 (getR xs k s).1, .int .i64 (getR xs k s).2]) ∧ w = w' := by
  unfold getR
  rw [hl]
  by_cases h : standsB n k s = false
  · rw [if_pos h]
    exact Get_no a n cap k s w hn b0 h
  · rw [if_neg h]
    have ht : standsB n k s = true := by simpa using h
    obtain ⟨g1, g2, g3, g4, g5⟩ := standsB_true ht
    obtain ⟨q, rfl⟩ : ∃ q : Nat, s = q := ⟨s.toNat, by omega⟩
    obtain ⟨i, rfl⟩ : ∃ i : Nat, k = i := ⟨k.toNat, by omega⟩
    rw [Int.toNat_natCast, Int.toNat_natCast]
    exact Get_yes a n cap xs i q w hl hn hcap hcm hb hs ht
theorem rGet_gave (k s : Int) (b0 : -9223372036854775808 ≤ k) (hl : xs.length = n) (hn : n ≤ 9223372036854775807) (hb : isBytes xs) (hs : Sl w a (ints .u8 xs)) :
    Calls Try.prog 13 #[.slice a n cap, .int .i64 k, .int .i64 s] w fun e w' => e = .returned (.tuple #[.int .u64 (getR xs k s).1, .int .i64 (getR xs k s).2]) ∧ w = w' := by
  unfold getR
  rw [hl]
  by_cases h : standsB n k s = false
  · rw [if_pos h]
    exact rGet_no a n cap k s w hn b0 h
  · rw [if_neg h]
    have ht : standsB n k s = true := by simpa using h
    obtain ⟨g1, g2, g3, g4, g5⟩ := standsB_true ht
    obtain ⟨q, rfl⟩ : ∃ q : Nat, s = q := ⟨s.toNat, by omega⟩
    obtain ⟨i, rfl⟩ : ∃ i : Nat, k = i := ⟨k.toNat, by omega⟩
    rw [Int.toNat_natCast, Int.toNat_natCast]
    exact rGet_yes a n cap xs i q w hl hn hb hs ht
end
end Go.Proofs.Ytgflpbbdohmhiaa.Field
