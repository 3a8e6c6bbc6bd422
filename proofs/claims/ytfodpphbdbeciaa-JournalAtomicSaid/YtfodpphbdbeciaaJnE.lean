/- JnI; JnCr; JnJ; JnNw; JnE -/
import Derived.Test.YtfodpphbdbeciaaJnLw
import Derived.Test.YtfodpphbdbeciaaDkC
import Derived.Test.YtfodpphbdbeciaaJnD
import Derived.Test.YtfodpphbdbeciaaJnOp
import Derived.Test.YtfodpphbdbeciaaJnO
import Derived.Test.YtfodpphbdbeciaaJnS
/- What lies on a disk after whatever crash: plain. -/
namespace Go.Proofs.Ytfodpphbdbeciaa.Jn
open Go.RowKit Words Mem Plain Ops Agg OwnS Dk
open Go.Proofs.Ytfodpphbdbeciaa.Field Go.Proofs.Ytfodpphbdbeciaa.Sum
set_option maxRecDepth 100000
set_option linter.ambiguousOpen false
set_option linter.unusedVariables false
set_option linter.unusedSimpArgs false

/-! Writes that wait. -/
def wtP (x : Wt) : PT := ⟨x.pos, x.now.bs, x.now.tag⟩
/-- The disk is Z, and the writes Q that wait. -/
structure From (Z : List Sec) (Q : List PT) (D : Dsk) : Prop where
  secs : D.secs = Q.foldl setS Z
  waits : D.waits.map wtP = Q
  undo : undoS D.secs D.waits = Z
theorem From.none {D : Dsk} (h : D.waits = []) : From D.secs [] D := ⟨rfl, by rw [h]; rfl, by rw [h]; rfl⟩
theorem undoS_snoc (S : List Sec) (W : List Wt) (x : Wt) : undoS S (W ++ [x]) = undoS (S.set x.pos.toNat x.was) W := by
  unfold undoS
  rw [List.foldr_append]
  rfl
theorem From.kept {Z : List Sec} {Q : List PT} {D E : Dsk} (h : From Z Q D) (hs : E.secs = D.secs) (hw : E.waits = D.waits) : From Z Q E := ⟨hs.trans h.secs, by rw [hw]; exact h.waits, by rw [hs, hw]; exact h.undo⟩
theorem set_back (S : List Sec) (i : Nat) (x : Sec) : (S.set i x).set i (sg S i) = S := by
  rw [List.set_set]
  by_cases h : i < S.length
  · rw [sg_eq _ _ h, List.set_getElem_self]
  · exact List.set_eq_of_length_le (by omega)
theorem writeR_cases {Z : List Sec} {Q : List PT} {D : Dsk} (h : From Z Q D) (hd : D.dead = false) {p : PT} (hp : inP Z.length p) :
    ((writeR D p.sec p.bs p.tag).2 = 0 ∧ (writeR D p.sec p.bs p.tag).1.dead = false ∧ From Z (Q ++ [p]) (writeR D p.sec p.bs p.tag).1) ∨ ((writeR D p.sec p.bs p.tag).2 = 6 ∧ (writeR D p.sec p.bs p.tag).1.dead = true ∧ From Z Q (writeR D p.sec p.bs p.tag).1) := by
  have hl : D.secs.length = Z.length := by rw [h.secs, fold_len]
  rw [← hl] at hp
  by_cases hpw : (powerR D).2 = 0
  · left
    have e : writeR D p.sec p.bs p.tag = ({ (powerR D).1 with waits := D.waits ++ [⟨p.sec, sg D.secs p.sec.toNat, ⟨p.bs, p.tag⟩⟩], secs := D.secs.set p.sec.toNat ⟨p.bs, p.tag⟩ }, 0) := by
      unfold writeR
      rw [if_neg (fun k => k hp), if_pos hpw]
    have hdd : (powerR D).1.dead = false := by
      unfold powerR at hpw ⊢
      rw [if_neg (by rw [hd]; decide)] at hpw ⊢
      split at hpw
      · exact absurd hpw (by show ¬ ((6 : Int) = 0); decide)
      · rename_i h0
        rw [if_neg h0]; exact hd
    rw [e]
    refine ⟨rfl, hdd, ?_, ?_, ?_⟩
    · dsimp only
      rw [List.foldl_append, ← h.secs]
      rfl
    · dsimp only
      rw [List.map_append, h.waits]
      rfl
    · dsimp only
      rw [undoS_snoc]
      dsimp only
      rw [set_back]
      exact h.undo
  · right
    have e : writeR D p.sec p.bs p.tag = powerR D := by
      unfold writeR
      rw [if_neg (fun k => k hp), if_neg hpw]
    rw [e]
    have hc := (power_code D).resolve_left hpw
    refine ⟨hc, ?_, h.kept (power_secs D).1 (power_secs D).2⟩
    unfold powerR at hpw ⊢
    rw [if_neg (by rw [hd]; decide)] at hpw ⊢
    split
    · rfl
    · rename_i h0
      rw [if_neg h0] at hpw
      exact absurd rfl hpw
theorem flushR_cases {Z : List Sec} {Q : List PT} {D : Dsk} (h : From Z Q D) (hd : D.dead = false) :
    ((flushR D).2 = 0 ∧ (flushR D).1.dead = false ∧ (flushR D).1.waits = [] ∧ (flushR D).1.secs = D.secs) ∨ ((flushR D).2 = 6 ∧ (flushR D).1.dead = true ∧ From Z Q (flushR D).1) := by
  by_cases hpw : (powerR D).2 = 0
  · left
    have e : flushR D = ({ (powerR D).1 with waits := [] }, 0) := by
      unfold flushR
      rw [if_pos hpw]
    have hdd : (powerR D).1.dead = false := by
      unfold powerR at hpw ⊢
      rw [if_neg (by rw [hd]; decide)] at hpw ⊢
      split at hpw
      · exact absurd hpw (by show ¬ ((6 : Int) = 0); decide)
      · rename_i h0
        rw [if_neg h0]; exact hd
    rw [e]
    exact ⟨rfl, hdd, rfl, (power_secs D).1⟩
  · right
    have e : flushR D = powerR D := by
      unfold flushR
      rw [if_neg hpw]
    rw [e]
    have hc := (power_code D).resolve_left hpw
    refine ⟨hc, ?_, h.kept (power_secs D).1 (power_secs D).2⟩
    unfold powerR at hpw ⊢
    rw [if_neg (by rw [hd]; decide)] at hpw ⊢
    split
    · rfl
    · rename_i h0
      rw [if_neg h0] at hpw
      exact absurd rfl hpw
theorem writesR_cases : ∀ (P : List PT) {Z : List Sec} {Q : List PT} {D : Dsk}, From Z Q D → D.dead = false → (∀ p ∈ P, inP Z.length p) →
    ((writesR D P).2 = 0 ∧ (writesR D P).1.dead = false ∧ (writesR D P).1.waits = [] ∧ (writesR D P).1.secs = P.foldl setS D.secs) ∨ ((writesR D P).2 = 6 ∧ (writesR D P).1.dead = true ∧ ∃ k, From Z (Q ++ P.take k) (writesR D P).1)
  | [], Z, Q, D, h, hd, _ => by
    rcases flushR_cases h hd with h | ⟨h1, h2, h3⟩
    · exact .inl h
    · exact .inr ⟨h1, h2, 0, by rw [List.take_nil, List.append_nil]; exact h3⟩
  | p :: P, Z, Q, D, h, hd, hp => by
    have hl : D.secs.length = Z.length := by rw [h.secs, fold_len]
    rcases writeR_cases h hd (hp p List.mem_cons_self) with ⟨h1, h2, h3⟩ | ⟨h1, h2, h3⟩
    · have hs : (writeR D p.sec p.bs p.tag).1.secs = setS D.secs p := by
        rw [h3.secs, List.foldl_append, ← h.secs]; rfl
      unfold writesR
      rw [if_pos h1]
      rcases writesR_cases P h3 h2 (fun q hq => hp q (List.mem_cons_of_mem _ hq)) with ⟨k1, k2, k3, k4⟩ | ⟨k1, k2, k, k3⟩
      · exact .inl ⟨k1, k2, k3, by rw [k4, hs]; rfl⟩
      · exact .inr ⟨k1, k2, k + 1, by rw [List.append_assoc] at k3; exact k3⟩
    · unfold writesR
      rw [if_neg (by rw [h1]; decide)]
      exact .inr ⟨h1, h2, 0, by simpa using h3⟩
/-- A crash leaves some of what waits, in order. -/
theorem redoN_sub {there : Int} {Z : List Sec} {W : List Wt} : ∀ j, j ≤ W.length → ∃ Q' : List PT, Q'.Sublist ((W.map wtP).take j) ∧ redoN there Z W j = Q'.foldl setS Z
  | 0, _ => ⟨[], by simp, rfl⟩
  | j + 1, h => by
    obtain ⟨Q', h1, h2⟩ := redoN_sub (there := there) (Z := Z) (W := W) j (by omega)
    have hj : j < (W.map wtP).length := by rw [List.length_map]; omega
    have e : (W.map wtP).take (j + 1) = (W.map wtP).take j ++ [wtP W[j]] := by
      rw [List.take_succ_eq_append_getElem hj, List.getElem_map]
    cases hb : bitB there j
    · refine ⟨Q', ?_, by rw [redoN_no (by omega) hb]; exact h2⟩
      rw [e]
      exact h1.trans (List.sublist_append_left _ _)
    · refine ⟨Q' ++ [wtP W[j]], ?_, ?_⟩
      · rw [e]
        exact h1.append (List.Sublist.refl _)
      · rw [redoN_yes (by omega) hb, h2, List.foldl_append]
        rfl
theorem crash_sub {Z : List Sec} {Q : List PT} {D : Dsk} (h : From Z Q D) (there : Int) : ∃ Q' : List PT, Q'.Sublist Q ∧ (crashR D there).secs = Q'.foldl setS Z := by
  obtain ⟨Q', h1, h2⟩ := redoN_sub (there := there) (Z := Z) (W := D.waits) D.waits.length (Nat.le_refl _)
  rw [h.waits, List.take_of_length_le (by rw [← h.waits, List.length_map]; exact Nat.le_refl _)] at h1
  refine ⟨Q', h1, ?_⟩
  show redoN there (undoS D.secs D.waits) D.waits D.waits.length = _
  rw [h.undo]
  exact h2
theorem writesR_dead {D : Dsk} (h : D.dead = true) : ∀ P, (writesR D P).1 = D ∧ (writesR D P).2 ≠ 0
  | [] => by
    have e : powerR D = (D, 6) := by unfold powerR; rw [if_pos h]
    show (flushR D).1 = D ∧ (flushR D).2 ≠ 0
    unfold flushR
    rw [if_neg (by rw [e]; show ¬ ((6 : Int) = 0); decide), e]
    exact ⟨rfl, by show ¬ ((6 : Int) = 0); decide⟩
  | p :: P => by
    have e : powerR D = (D, 6) := by unfold powerR; rw [if_pos h]
    have hw : (writeR D p.sec p.bs p.tag).1 = D ∧ (writeR D p.sec p.bs p.tag).2 ≠ 0 := by
      unfold writeR
      split
      · exact ⟨rfl, by show ¬ ((1 : Int) = 0); decide⟩
      · rw [if_neg (by rw [e]; show ¬ ((6 : Int) = 0); decide), e]
        exact ⟨rfl, by show ¬ ((6 : Int) = 0); decide⟩
    unfold writesR
    rw [if_neg hw.2]
    exact hw
theorem commitR_dead {D : Dsk} (h : D.dead = true) (f n s : Int) (L : List PT) : (commitR D f n s L).1 = D ∧ (commitR D f n s L).2.1 = s := by
  have hr : (runR D (partsP f s L)).1 = D ∧ (runR D (partsP f s L)).2 ≠ 0 := by
    unfold partsP runR
    have := writesR_dead h (layP f L)
    rw [if_neg this.2]
    exact this
  unfold commitR
  split
  · exact ⟨rfl, rfl⟩
  · split
    · exact ⟨rfl, rfl⟩
    · split
      · exact ⟨rfl, rfl⟩
      · split
        · exact ⟨rfl, rfl⟩
        · rw [if_neg hr.2]
          exact ⟨hr.1, rfl⟩
theorem secs_crash_wf {D : Dsk} {b : Nat} (h : D.Wf b) (there : Int) : (crashR D there).Wf b := by
  have hu : ∀ (W : List Wt) (S : List Sec), (∀ s ∈ S, s.wf) → (∀ x ∈ W, x.was.wf) → ∀ s ∈ undoS S W, s.wf := fun W => by
    induction W with
    | nil => intro S h _; exact h
    | cons x W ih =>
      intro S hS hW s hs
      have hs : s ∈ (undoS S W).set x.pos.toNat x.was := hs
      rcases List.mem_or_eq_of_mem_set hs with h | h
      · exact ih S hS (fun y hy => hW y (List.mem_cons_of_mem _ hy)) s h
      · rw [h]; exact hW x List.mem_cons_self
  have hr : ∀ j, j ≤ D.waits.length → ∀ s ∈ redoN there (undoS D.secs D.waits) D.waits j, s.wf := fun j => by
    induction j with
    | zero => intro _; exact hu _ _ h.secs (fun x hx => (h.waits x hx).2.1)
    | succ j ih =>
      intro hj s hs
      cases hb : bitB there j
      · rw [redoN_no (by omega) hb] at hs
        exact ih (by omega) s hs
      · rw [redoN_yes (by omega) hb] at hs
        rcases List.mem_or_eq_of_mem_set hs with h' | h'
        · exact ih (by omega) s h'
        · rw [h']; exact (h.waits _ (List.getElem_mem _)).2.2
  refine ⟨hr _ (Nat.le_refl _), (fun x hx => by cases hx), ?_, ?_, h.done, by show 0 ≤ b; omega⟩
  · show (redoN there (undoS D.secs D.waits) D.waits D.waits.length).length ≤ 4096
    rw [redoN_len, undoS_len]; exact h.few
  · show -1 ≤ (-1 : Int) ∧ (-1 : Int) ≤ 9223372036854775807
    decide

/-! What lies in the first 12 sectors, in the end. -/
def hd (Z : List Sec) : List Int := pad64 (sg Z 12).bs
def nowB (Z : List Sec) : List Int := (List.range 12).flatMap fun k => pad64 (sg Z k).bs
def Rest (Z : List Sec) (s : Int) : Prop := (hd Z = List.replicate 64 0 ∧ s = 0) ∨ hd Z = headB s 0
def firstP (L : List PT) : Prop := ∀ p ∈ L, p.wf ∧ 0 ≤ p.sec ∧ p.sec ≤ 11 ∧ p.bs.length = 64
structure Owe (Z : List Sec) (s : Int) (L : List PT) : Prop where
  head : hd Z = headB s L.length
  ne : L ≠ []
  room : (L.length : Int) ≤ roomN (47 + 1 : Nat)
  first : firstP L
  lies : ∀ (k : Nat) (p : PT), (layP 12 L)[k]? = some p → pad64 (sg Z (13 + k)).bs = p.bs
/-- Opened, the disk Z has V in its first sectors, and the journal the number s. -/
def Ends (Z : List Sec) (s : Int) (V : List Int) : Prop := Z.length = 60 ∧ ((Rest Z s ∧ nowB Z = V) ∨ ∃ L, Owe Z s L ∧ nowB (L.foldl setS Z) = V)
def CrashE (D : Dsk) (m : Int) (P : List Int → Prop) : Prop := ∀ there, ∃ s V, 0 ≤ s ∧ s ≤ m ∧ Ends (crashR D there).secs s V ∧ P V
theorem nowB_congr {Z Y : List Sec} (h : ∀ k, k < 12 → sg Z k = sg Y k) : nowB Z = nowB Y := by
  unfold nowB
  have : ∀ k ∈ List.range 12, pad64 (sg Z k).bs = pad64 (sg Y k).bs := fun k hk => by rw [h k (List.mem_range.1 hk)]
  simp only [List.flatMap_def]
  rw [List.map_congr_left this]
theorem fold_hit {k : Nat} : ∀ (L : List PT) {Z Y : List Sec}, Z.length = Y.length → k < Z.length → (∃ p ∈ L, p.sec.toNat = k) → sg (L.foldl setS Z) k = sg (L.foldl setS Y) k
  | [], Z, Y, _, _, h => by obtain ⟨p, hp, _⟩ := h; cases hp
  | p :: L, Z, Y, hl, hk, h => by
    rw [List.foldl_cons, List.foldl_cons]
    by_cases h2 : ∃ q ∈ L, q.sec.toNat = k
    · exact fold_hit L (by rw [setS_len, setS_len]; exact hl) (by rw [setS_len]; exact hk) h2
    · have h3 : ∀ q ∈ L, q.sec.toNat ≠ k := fun q hq e => h2 ⟨q, hq, e⟩
      obtain ⟨q, hq, e⟩ := h
      have hpk : p.sec.toNat = k := by
        rcases List.mem_cons.1 hq with rfl | hq
        · exact e
        · exact absurd e (h3 q hq)
      rw [fold_far L _ h3, fold_far L _ h3]
      unfold setS
      rw [sg_set, sg_set, if_pos ⟨hpk.symm, by omega⟩, if_pos ⟨hpk.symm, by omega⟩]
/-- What some of the patches wrote is written over. -/
theorem fold_over {L Q : List PT} {Z : List Sec} (hQ : ∀ q ∈ Q, q ∈ L) (hZ : Z.length = 60) : nowB (L.foldl setS (Q.foldl setS Z)) = nowB (L.foldl setS Z) := by
  refine nowB_congr (fun k hk => ?_)
  by_cases h : ∃ p ∈ L, p.sec.toNat = k
  · exact fold_hit L (by rw [fold_len]) (by rw [fold_len]; omega) h
  · have h3 : ∀ q ∈ L, q.sec.toNat ≠ k := fun q hq e => h ⟨q, hq, e⟩
    rw [fold_far L _ h3, fold_far L _ h3, fold_far Q _ (fun q hq => h3 q (hQ q hq))]
theorem nowB_far {Q : List PT} {Z : List Sec} (h : ∀ q ∈ Q, 12 ≤ q.sec) : nowB (Q.foldl setS Z) = nowB Z :=
  nowB_congr fun k hk => fold_far _ _ fun q hq => by have := h q hq; omega
theorem hd_far {Q : List PT} {Z : List Sec} (h : ∀ q ∈ Q, q.sec.toNat ≠ 12) : hd (Q.foldl setS Z) = hd Z := by
  unfold hd
  rw [fold_far _ _ h]
theorem Rest.far {Q : List PT} {Z : List Sec} {s : Int} (h : Rest Z s) (hq : ∀ q ∈ Q, q.sec.toNat ≠ 12) : Rest (Q.foldl setS Z) s := by
  unfold Rest
  rw [hd_far hq]
  exact h
theorem Owe.far {Q L : List PT} {Z : List Sec} {s : Int} (h : Owe Z s L) (hq : ∀ q ∈ Q, 0 ≤ q.sec ∧ q.sec ≤ 11) : Owe (Q.foldl setS Z) s L := by
  refine ⟨by rw [hd_far (fun q hx => by have := hq q hx; omega)]; exact h.head, h.ne, h.room, h.first, fun k p hp => ?_⟩
  rw [fold_far _ _ (fun q hx => by have := hq q hx; omega)]
  exact h.lies k p hp
theorem headP_hd {Z : List Sec} {s c : Int} (h : Z.length = 60) : hd (setS Z (headP 12 s c)) = headB s c := by
  unfold hd setS
  rw [sg_set, if_pos ⟨rfl, by show (12 : Int).toNat < _; rw [h]; decide⟩]
  exact pad64_of (headB_len _ _)
/-- What layP has written lies there. -/
theorem fold_lay {f : Int} {N : Nat} : ∀ (M : List PT) (j : Nat) {Z : List Sec}, Z.length = 60 → (∀ k (p : PT), M[k]? = some p → p.sec = 13 + (j + k : Nat) ∧ p.bs.length = 64 ∧ p.sec < 60) → ∀ k (p : PT), M[k]? = some p → pad64 (sg (M.foldl setS Z) (13 + (j + k))).bs = p.bs
  | [], _, _, _, _, k, p, h => by simp at h
  | q :: M, j, Z, hZ, hM, k, p, h => by
    rw [List.foldl_cons]
    have h0 := hM 0 q rfl
    have hrest : ∀ k (p : PT), M[k]? = some p → p.sec = 13 + (j + 1 + k : Nat) ∧ p.bs.length = 64 ∧ p.sec < 60 := fun k p hp => by
      have := hM (k + 1) p (by simpa using hp)
      refine ⟨?_, this.2⟩
      rw [this.1]
      omega
    cases k with
    | zero =>
      have e : q = p := by simpa using h
      subst e
      rw [fold_far M _ (fun r hr => by
        obtain ⟨i, hi, rfl⟩ := List.getElem_of_mem hr
        have := (hrest i _ (List.getElem?_eq_getElem hi)).1
        omega)]
      unfold setS
      rw [sg_set, if_pos ⟨by have := h0.1; omega, by have := h0.1; omega⟩]
      exact pad64_of h0.2.1
    | succ k =>
      have := fold_lay (f := f) (N := N) M (j + 1) (Z := setS Z q) (by rw [setS_len]; exact hZ) hrest k p (by simpa using h)
      rw [show 13 + (j + (k + 1)) = 13 + (j + 1 + k) by omega]
      exact this
end Go.Proofs.Ytfodpphbdbeciaa.Jn
/- Cut and Crash beside guests. -/
namespace Go.Proofs.Ytfodpphbdbeciaa.Jn
open Go.RowKit Words Mem Plain Ops Agg OwnS Dk
set_option maxRecDepth 100000
set_option linter.ambiguousOpen false
set_option linter.unusedVariables false
set_option linter.unusedSimpArgs false

theorem Cut_atM {w0 u : World} {g gs sc : Nat} {X : Nat → Prop} {D : Dsk} (h : AtM w0 g gs sc D X u) (n : Int) :
    Calls Try.prog 20 #[.pointer (some ⟨g, 0, none⟩), .int .i64 n] u fun e w' => e = .returned (.tuple #[]) ∧ AtM w0 g gs sc (cutR D n) X w' ∧ Same X u w' := by
  obtain ⟨h1, wa, wc, h2, hg⟩ := h
  refine (Cut_ok h2 n).mono ?_
  rintro e w' ⟨he, hD, hB⟩
  refine ⟨he, ⟨h1.by hB h2.hb, wa, wc, hD, fun k hk => ⟨Nat.lt_of_lt_of_le (hg k hk).1 hB.size, (hg k hk).2⟩⟩, hB.size, fun k hk => ?_⟩
  obtain ⟨hg1, hg2, hg3⟩ := hg k hk
  have hne : k ≠ g := fun e => hg3 (.inl e)
  exact hB.block k hg1 (by simpa using hne)
theorem Crash_atM {w0 u : World} {g gs sc : Nat} {X : Nat → Prop} {D : Dsk} {b : Nat} (h : AtM w0 g gs sc D X u) (hwf : D.Wf b) (hb : b ≤ 100000000) (there : Int) :
    Calls Try.prog 21 #[.pointer (some ⟨g, 0, none⟩), .int .u64 there] u fun e w' => e = .returned (.tuple #[]) ∧ AtM w0 g gs sc (crashR D there) X w' ∧ Same X u w' := by
  obtain ⟨h1, wa, wc, h2, hg⟩ := h
  refine (Crash_walk h2 (by have := hwf.many; omega) hwf.few (fun x hx => (hwf.waits x hx).1) there).mono ?_
  rintro e w' ⟨he, hD, hC⟩
  refine ⟨he, ⟨Chg.ext h1 hC (fun k hk => (h2.foot_ge k hk).1), none, 0, hD, fun k hk => ⟨Nat.lt_of_lt_of_le (hg k hk).1 hC.size, (hg k hk).2.1, ?_⟩⟩, hC.size, fun k hk => hC.block k (hg k hk).1 (hg k hk).2.2⟩
  rintro (e | e | ⟨ad, e, _⟩)
  · exact (hg k hk).2.2 (.inl e)
  · exact (hg k hk).2.2 (.inr (.inl e))
  · cases e
theorem Dead_atM {w0 u : World} {g gs sc : Nat} {X : Nat → Prop} {D : Dsk} (h : AtM w0 g gs sc D X u) :
    Calls Try.prog 24 #[.pointer (some ⟨g, 0, none⟩)] u fun e w' => e = .returned (.bool D.dead) ∧ u = w' := by
  obtain ⟨h1, wa, wc, h2, _⟩ := h
  exact (Dead_ok h2).mono fun e w' ⟨h3, h4⟩ => ⟨h3, h4.symm⟩
end Go.Proofs.Ytfodpphbdbeciaa.Jn
/- What a commit and an opening leave, whenever the power fails: plain. -/
namespace Go.Proofs.Ytfodpphbdbeciaa.Jn
open Go.RowKit Words Mem Plain Ops Agg OwnS Dk
open Go.Proofs.Ytfodpphbdbeciaa.Field Go.Proofs.Ytfodpphbdbeciaa.Sum
set_option maxRecDepth 100000
set_option linter.ambiguousOpen false
set_option linter.unusedVariables false
set_option linter.unusedSimpArgs false

theorem sub_one {Q : List PT} {h : PT} (hs : Q.Sublist [h]) : Q = [] ∨ Q = [h] := by
  cases hs with
  | cons _ h => exact .inl (List.sublist_nil.1 h)
  | cons_cons _ h => exact .inr (by rw [List.sublist_nil.1 h])
/-- A write, from a disk on which nothing waits. -/
theorem writes_end {D : Dsk} (hd : D.dead = false) (hw : D.waits = []) (hl : D.secs.length = 60) (P : List PT) (hP : ∀ p ∈ P, inP 60 p) :
    ((writesR D P).2 = 0 ∧ (writesR D P).1.dead = false ∧ (writesR D P).1.waits = [] ∧ (writesR D P).1.secs = P.foldl setS D.secs) ∨
    ((writesR D P).2 = 6 ∧ (writesR D P).1.dead = true ∧ ∀ there, ∃ Q : List PT, Q.Sublist P ∧ (crashR (writesR D P).1 there).secs = Q.foldl setS D.secs) := by
  rcases writesR_cases P (From.none hw) hd (by rw [hl]; exact hP) with h | ⟨h1, h2, k, h3⟩
  · exact .inl h
  · refine .inr ⟨h1, h2, fun there => ?_⟩
    obtain ⟨Q, h4, h5⟩ := crash_sub h3 there
    rw [List.nil_append] at h4
    exact ⟨Q, h4.trans (List.take_sublist _ _), h5⟩
theorem CrashE.mono {D : Dsk} {m m' : Int} {P P' : List Int → Prop} (h : CrashE D m P) (hm : m ≤ m') (hP : ∀ V, P V → P' V) : CrashE D m' P' := fun there => by
  obtain ⟨s, V, h1, h2, h3, h4⟩ := h there
  exact ⟨s, V, h1, by omega, h3, hP V h4⟩
theorem nowB_fold_congr {Z Y : List Sec} (L : List PT) (hl : Z.length = Y.length) (hz : 12 ≤ Z.length) (h : ∀ k, k < 12 → sg Z k = sg Y k) : nowB (L.foldl setS Z) = nowB (L.foldl setS Y) := by
  refine nowB_congr (fun k hk => ?_)
  by_cases h2 : ∃ p ∈ L, p.sec.toNat = k
  · exact fold_hit L hl (by omega) h2
  · have h3 : ∀ q ∈ L, q.sec.toNat ≠ k := fun q hq e => h2 ⟨q, hq, e⟩
    rw [fold_far L _ h3, fold_far L _ h3, h k hk]
theorem first_in {L : List PT} (h : firstP L) : ∀ p ∈ L, inP 60 p := fun p hp => by
  have := h p hp
  unfold inP
  omega
theorem head_in (s c : Int) : inP 60 (headP 12 s c) := ⟨by show (0 : Int) ≤ 12; decide, by show (12 : Int) < ((60 : Nat) : Int); decide, headB_len _ _⟩
theorem setS_first {Z : List Sec} {s c : Int} : ∀ k, k < 12 → sg (setS Z (headP 12 s c)) k = sg Z k := fun k hk => by
  unfold setS
  rw [sg_set, if_neg]
  rintro ⟨h, _⟩
  have : (12 : Int).toNat = k := h.symm
  have h2 : (12 : Int).toNat = 12 := rfl
  omega
/-- Patches that are owed are written. -/
theorem redo_ends {D : Dsk} {s : Int} {L : List PT} (hd' : D.dead = false) (hw : D.waits = []) (hl : D.secs.length = 60) (hs : 0 ≤ s) (ho : Owe D.secs s L) :
    ((runR D (redoP 12 s L)).2 = 0 ∧ (runR D (redoP 12 s L)).1.dead = false ∧ (runR D (redoP 12 s L)).1.waits = [] ∧ (runR D (redoP 12 s L)).1.secs.length = 60 ∧ Rest (runR D (redoP 12 s L)).1.secs s ∧ nowB (runR D (redoP 12 s L)).1.secs = nowB (L.foldl setS D.secs)) ∨
    ((runR D (redoP 12 s L)).2 = 6 ∧ (runR D (redoP 12 s L)).1.dead = true ∧ CrashE (runR D (redoP 12 s L)).1 s (fun V => V = nowB (L.foldl setS D.secs))) := by
  have hsec : ∀ p ∈ L, 0 ≤ p.sec ∧ p.sec ≤ 11 := fun p hp => ⟨(ho.first p hp).2.1, (ho.first p hp).2.2.1⟩
  rcases writes_end hd' hw hl L (first_in ho.first) with ⟨h1, h2, h3, h4⟩ | ⟨h1, h2, h3⟩
  · have e : runR D (redoP 12 s L) = runR (writesR D L).1 [[headP 12 s 0]] := by
      unfold redoP
      rw [runR, if_pos h1]
    rw [e]
    generalize (writesR D L).1 = D3 at *
    have hl3 : D3.secs.length = 60 := by rw [h4, fold_len]; exact hl
    have ho3 : Owe D3.secs s L := by rw [h4]; exact ho.far hsec
    have hn3 : nowB (L.foldl setS D3.secs) = nowB (L.foldl setS D.secs) := by rw [h4]; exact fold_over (fun q hq => hq) hl
    have hV : nowB (setS D3.secs (headP 12 s 0)) = nowB (L.foldl setS D.secs) := by rw [nowB_congr setS_first, h4]
    have hR : Rest (setS D3.secs (headP 12 s 0)) s := .inr (headP_hd hl3)
    rcases writes_end h2 h3 hl3 [headP 12 s 0] (fun p hp => by rw [List.mem_singleton.1 hp]; exact head_in _ _) with ⟨k1, k2, k3, k4⟩ | ⟨k1, k2, k3⟩
    · left
      have e2 : runR D3 [[headP 12 s 0]] = ((writesR D3 [headP 12 s 0]).1, 0) := by
        rw [runR, if_pos k1, runR]
      rw [e2]
      dsimp only
      have k4' : (writesR D3 [headP 12 s 0]).1.secs = setS D3.secs (headP 12 s 0) := k4
      rw [k4']
      exact ⟨rfl, k2, k3, by rw [setS_len]; exact hl3, hR, hV⟩
    · right
      have e2 : runR D3 [[headP 12 s 0]] = writesR D3 [headP 12 s 0] := by
        rw [runR, if_neg (by rw [k1]; decide)]
      rw [e2]
      refine ⟨k1, k2, fun there => ?_⟩
      obtain ⟨Q, q1, q2⟩ := k3 there
      rw [q2]
      rcases sub_one q1 with rfl | rfl
      · exact ⟨s, _, hs, Int.le_refl _, ⟨hl3, .inr ⟨L, ho3, rfl⟩⟩, hn3⟩
      · exact ⟨s, _, hs, Int.le_refl _, ⟨by show (setS D3.secs (headP 12 s 0)).length = 60; rw [setS_len]; exact hl3, .inl ⟨hR, rfl⟩⟩, hV⟩
  · right
    have e : runR D (redoP 12 s L) = writesR D L := by
      unfold redoP
      rw [runR, if_neg (by rw [h1]; decide)]
    rw [e]
    refine ⟨h1, h2, fun there => ?_⟩
    obtain ⟨Q, q1, q2⟩ := h3 there
    rw [q2]
    exact ⟨s, _, hs, Int.le_refl _, ⟨by rw [fold_len]; exact hl, .inr ⟨L, ho.far (fun q hq => hsec q (q1.subset hq)), rfl⟩⟩, fold_over (fun q hq => q1.subset hq) hl⟩
/-- A commit on a disk on which nothing waits and nothing is owed. -/
theorem commit_ends {D : Dsk} {s : Int} {L : List PT} (hd' : D.dead = false) (hw : D.waits = []) (hl : D.secs.length = 60) (hs : 0 ≤ s ∧ s ≤ 1000000) (hr : Rest D.secs s) (hL : ∀ p ∈ L, p.wf) :
    (∃ c, c ≠ 6 ∧ commitR D 12 (47 + 1 : Nat) s L = (D, s, c) ∧ (c = 0 → L = []) ∧ (firstP L → (L.length : Int) ≤ roomN (47 + 1 : Nat) → c = 0)) ∨
    (firstP L ∧ (commitR D 12 (47 + 1 : Nat) s L).2 = (s + 1, 0) ∧ (commitR D 12 (47 + 1 : Nat) s L).1.dead = false ∧ (commitR D 12 (47 + 1 : Nat) s L).1.waits = [] ∧ (commitR D 12 (47 + 1 : Nat) s L).1.secs.length = 60 ∧ Rest (commitR D 12 (47 + 1 : Nat) s L).1.secs (s + 1) ∧ nowB (commitR D 12 (47 + 1 : Nat) s L).1.secs = nowB (L.foldl setS D.secs)) ∨
    (firstP L ∧ (commitR D 12 (47 + 1 : Nat) s L).2 = (s, 6) ∧ (commitR D 12 (47 + 1 : Nat) s L).1.dead = true ∧ CrashE (commitR D 12 (47 + 1 : Nat) s L).1 (s + 1) (fun V => V = nowB D.secs ∨ V = nowB (L.foldl setS D.secs))) := by
  by_cases h1 : L = []
  · left
    exact ⟨0, by decide, by unfold commitR; rw [if_pos h1], fun _ => h1, fun _ _ => rfl⟩
  by_cases h2 : roomN (47 + 1 : Nat) < L.length
  · left
    exact ⟨4, by decide, by unfold commitR; rw [if_neg h1, if_pos h2], fun h => absurd h (by decide), fun _ h => absurd h (by omega)⟩
  by_cases h3 : L.all (goodP D.secs.length 12 (47 + 1 : Nat)) = false
  · left
    refine ⟨1, by decide, by unfold commitR; rw [if_neg h1, if_neg h2, if_pos h3], fun h => absurd h (by decide), fun hf _ => ?_⟩
    exfalso
    have : L.all (goodP D.secs.length 12 (47 + 1 : Nat)) = true := by
      rw [List.all_eq_true]
      intro p hp
      have := hf p hp
      unfold goodP
      rw [Bool.and_eq_true]
      exact ⟨outB_iff.2 ⟨this.2.1, by rw [hl]; omega, .inl (by omega)⟩, by simpa using this.2.2.2⟩
    rw [h3] at this
    cases this
  right
  have h3' : L.all (goodP D.secs.length 12 (47 + 1 : Nat)) = true := by simpa using h3
  have hmax : s ≠ 18446744073709551615 := by omega
  have hroom : (L.length : Int) ≤ roomN (47 + 1 : Nat) := Int.not_lt.1 h2
  have hf : firstP L := fun p hp => by
    have := List.all_eq_true.1 h3' p hp
    unfold goodP at this
    simp only [Bool.and_eq_true, decide_eq_true_eq] at this
    have ho := outB_iff.1 this.1
    rw [hl] at ho
    exact ⟨hL p hp, ho.1, by omega, this.2⟩
  have hC : commitR D 12 (47 + 1 : Nat) s L = if (runR D (partsP 12 s L)).2 = 0 then ((runR D (partsP 12 s L)).1, s + 1, 0) else ((runR D (partsP 12 s L)).1, s, (runR D (partsP 12 s L)).2) := by
    unfold commitR
    rw [if_neg h1, if_neg h2, if_neg h3, if_neg hmax]
  have hlay := layP_in (f := 12) (n := (47 + 1 : Nat)) (N := 60) (L := L) (by decide) (by decide) hroom (by decide) (fun p hp => (hf p hp).2.2.2)
  have hsec : ∀ p ∈ L, 0 ≤ p.sec ∧ p.sec ≤ 11 := fun p hp => ⟨(hf p hp).2.1, (hf p hp).2.2.1⟩
  have hpart : partsP 12 s L = layP 12 L :: [headP 12 (s + 1) L.length] :: redoP 12 (s + 1) L := rfl
  rw [hpart] at hC
  rcases writes_end hd' hw hl (layP 12 L) (fun p hp => (hlay p hp).1) with ⟨k1, k2, k3, k4⟩ | ⟨k1, k2, k3⟩
  · have e1 : runR D (layP 12 L :: [headP 12 (s + 1) L.length] :: redoP 12 (s + 1) L) = runR (writesR D (layP 12 L)).1 ([headP 12 (s + 1) L.length] :: redoP 12 (s + 1) L) := by
      rw [runR, if_pos k1]
    rw [e1] at hC
    generalize (writesR D (layP 12 L)).1 = D1 at *
    have hl1 : D1.secs.length = 60 := by rw [k4, fold_len]; exact hl
    have hr1 : Rest D1.secs s := by rw [k4]; exact hr.far (fun q hq => by have := (hlay q hq).2; omega)
    have hn1 : nowB D1.secs = nowB D.secs := by rw [k4]; exact nowB_far (fun q hq => by have := (hlay q hq).2; omega)
    have hg1 : ∀ k, k < 12 → sg D1.secs k = sg D.secs k := fun k hk => by rw [k4]; exact fold_far _ _ (fun q hq => by have := (hlay q hq).2; omega)
    obtain ⟨S2, hS2⟩ : ∃ z, z = setS D1.secs (headP 12 (s + 1) L.length) := ⟨_, rfl⟩
    have hl2 : S2.length = 60 := by rw [hS2, setS_len]; exact hl1
    have ho2 : Owe S2 (s + 1) L := by
      refine ⟨by rw [hS2]; exact headP_hd hl1, h1, hroom, hf, fun k p hp => ?_⟩
      have hi : k < (layP 12 L).length := (List.getElem?_eq_some_iff.1 hp).1
      have e2 : sg S2 (13 + k) = sg D1.secs (13 + k) := by
        rw [hS2]
        unfold setS
        rw [sg_set, if_neg]
        rintro ⟨h, _⟩
        have h4 : 13 + k = (12 : Int).toNat := h
        have h5 : (12 : Int).toNat = 12 := rfl
        omega
      rw [e2, k4]
      have := fold_lay (f := 12) (N := 60) (layP 12 L) 0 (Z := D.secs) hl (fun k p hp => by
        have hm := hlay p (List.mem_of_getElem? hp)
        have hq : p.sec = 12 + 1 + (k : Int) := by
          unfold layP at hp
          rw [List.getElem?_mapIdx] at hp
          obtain ⟨q, _, hq⟩ := Option.map_eq_some_iff.1 hp
          rw [← hq]
          rfl
        refine ⟨by rw [hq]; omega, hm.1.2.2, by have := hm.1.2.1; omega⟩) k p hp
      rw [Nat.zero_add] at this
      exact this
    have hn2 : nowB (L.foldl setS S2) = nowB (L.foldl setS D.secs) := nowB_fold_congr L (by omega) (by omega) (fun k hk => by rw [hS2, setS_first k hk, hg1 k hk])
    rcases writes_end k2 k3 hl1 [headP 12 (s + 1) L.length] (fun p hp => by rw [List.mem_singleton.1 hp]; exact head_in _ _) with ⟨m1, m2, m3, m4⟩ | ⟨m1, m2, m3⟩
    · have e2 : runR D1 ([headP 12 (s + 1) L.length] :: redoP 12 (s + 1) L) = runR (writesR D1 [headP 12 (s + 1) L.length]).1 (redoP 12 (s + 1) L) := by
        rw [runR, if_pos m1]
      rw [e2] at hC
      generalize (writesR D1 [headP 12 (s + 1) L.length]).1 = D2 at *
      have m4' : D2.secs = S2 := m4.trans hS2.symm
      have hre := redo_ends m2 m3 (by rw [m4']; exact hl2) (by omega : 0 ≤ s + 1) (by rw [m4']; exact ho2)
      rw [m4', hn2] at hre
      rcases hre with ⟨r1, r2, r3, r4, r5, r6⟩ | ⟨r1, r2, r3⟩
      · left
        rw [if_pos r1] at hC
        rw [hC]
        exact ⟨hf, rfl, r2, r3, r4, r5, r6⟩
      · right
        rw [if_neg (by rw [r1]; decide), r1] at hC
        rw [hC]
        exact ⟨hf, rfl, r2, r3.mono (Int.le_refl _) (fun V h => .inr h)⟩
    · right
      have e2 : runR D1 ([headP 12 (s + 1) L.length] :: redoP 12 (s + 1) L) = writesR D1 [headP 12 (s + 1) L.length] := by
        rw [runR, if_neg (by rw [m1]; decide)]
      rw [e2, if_neg (by rw [m1]; decide), m1] at hC
      rw [hC]
      refine ⟨hf, rfl, m2, fun there => ?_⟩
      dsimp only
      obtain ⟨Q, q1, q2⟩ := m3 there
      rw [q2]
      rcases sub_one q1 with rfl | rfl
      · exact ⟨s, _, hs.1, by omega, ⟨hl1, .inl ⟨hr1, rfl⟩⟩, .inl hn1⟩
      · refine ⟨s + 1, _, by omega, Int.le_refl _, ⟨?_, .inr ⟨L, ?_, rfl⟩⟩, .inr ?_⟩
        · show (setS D1.secs (headP 12 (s + 1) L.length)).length = 60
          rw [← hS2]; exact hl2
        · show Owe (setS D1.secs (headP 12 (s + 1) L.length)) (s + 1) L
          rw [← hS2]; exact ho2
        · show nowB (L.foldl setS (setS D1.secs (headP 12 (s + 1) L.length))) = _
          rw [← hS2]; exact hn2
  · right
    have e1 : runR D (layP 12 L :: [headP 12 (s + 1) L.length] :: redoP 12 (s + 1) L) = writesR D (layP 12 L) := by
      rw [runR, if_neg (by rw [k1]; decide)]
    rw [e1, if_neg (by rw [k1]; decide), k1] at hC
    rw [hC]
    refine ⟨hf, rfl, k2, fun there => ?_⟩
    dsimp only
    obtain ⟨Q, q1, q2⟩ := k3 there
    rw [q2]
    have hq12 : ∀ q ∈ Q, 12 < q.sec := fun q hq => (hlay q (q1.subset hq)).2.1
    exact ⟨s, _, hs.1, by omega, ⟨by rw [fold_len]; exact hl, .inl ⟨hr.far (fun q hq => by have := hq12 q hq; omega), rfl⟩⟩, .inl (nowB_far (fun q hq => by have := hq12 q hq; omega))⟩
end Go.Proofs.Ytfodpphbdbeciaa.Jn
/- moatlaw07's now. -/
namespace Go.Proofs.Ytfodpphbdbeciaa.Jn
open Go.RowKit Words Mem Plain Ops Agg OwnS Dk
open Go.Proofs.Ytfodpphbdbeciaa.Field Go.Proofs.Ytfodpphbdbeciaa.Sum
set_option maxRecDepth 100000
set_option linter.ambiguousOpen false
set_option linter.unusedVariables false
set_option linter.unusedSimpArgs false

theorem strOf_app (l m : List Int) : strOf l ++ strOf m = strOf (l ++ m) := by
  apply ByteArray.ext
  rw [ByteArray.data_append]
  simp [strOf]
def nowK (Z : List Sec) (k : Nat) : List Int := (List.range k).flatMap fun k => pad64 (sg Z k).bs
theorem nowK_succ (Z : List Sec) (k : Nat) : nowK Z (k + 1) = nowK Z k ++ pad64 (sg Z k).bs := by simp [nowK, List.range_succ]
theorem nowK_len (Z : List Sec) : ∀ k, (nowK Z k).length = 64 * k
  | 0 => rfl
  | k + 1 => by rw [nowK_succ, List.length_append, nowK_len Z k, pad64_len]; omega
theorem readR_on {D : Dsk} (h : D.dead = false) (k : Nat) (hk : k < D.secs.length) : readR D k = (pad64 (sg D.secs k).bs, 0) := by
  unfold readR
  rw [getR_yes hk h]
  rfl
set_option maxHeartbeats 4000000 in
theorem now_ok {w0 u : World} {g gs sc : Nat} {X : Nat → Prop} {D : Dsk} (hA : AtM w0 g gs sc D X u) (hd : D.dead = false) (hl : D.secs.length = 60) :
    Calls Try.prog 23 #[.pointer (some ⟨g, 0, none⟩)] u fun e w' => e = .returned (.string (strOf (nowB D.secs))) ∧ Ext u w' := by
  have HA := Lib.hid hA
  have HR := Lib.hid (fun (k : Nat) (hk : k < 12) => readR_on hd k (by rw [hl]; omega))
  clear hA hd hl
  go_enter Try.func23, Try.ntmps23
  go_wp2
  go_loopw [6, 2] (fun v s wr => ∃ (k : Nat) (S : ByteArray), k ≤ 12 ∧ v = .int .i64 k ∧ s = .string S ∧ S = strOf (nowK D.secs k) ∧ Ext u wr) (fun v _ _ => 12 - (intOf v).toNat)
  case atStart => exact ⟨0, ⟨#[]⟩, by omega, rfl, rfl, rfl, Ext.refl _⟩
  case round =>
    obtain ⟨k, S, hk, rfl, rfl, hS, hX⟩ := hrel
    have HX := Lib.hid hX
    have HS := Lib.hid hS
    clear hX hS
    by_cases hlt : k < 12
    · have hrd := Read_atM (HA.out.ext HX.out) k
      rw [HR.out k hlt] at hrd
      have h64 := pad64_len (sg D.secs k).bs
      have HN := Lib.hid (nowK_succ D.secs k)
      have HZ := Lib.hid (show S.size ≤ 1000 by rw [HS.out, strOf_size, nowK_len]; omega)
      generalize pad64 (sg D.secs k).bs = B at *
      have HRD := Lib.hid hrd
      have H64 := Lib.hid h64
      have hk12 : (k : Int) < 12 := by omega
      clear hrd h64
      go_wp2_with fail
      refine HRD.out.mono ?_
      rintro e v1 ⟨a5, c5, rfl, ho5, hx5⟩
      dsimp only at ho5 ⊢
      rw [H64.out] at ho5 ⊢
      have hcv := conv8 v1 c5 (ownS_sl ho5) H64.out
      have HX5 := Lib.hid (HX.out.trans hx5)
      have HSN := Lib.hid (show S ++ strOf B = strOf (nowK D.secs (k + 1)) by rw [HN.out, HS.out, strOf_app])
      have hz : ¬ 9223372036854775807 < S.size + (strOf B).size := by rw [strOf_size, H64.out]; have := HZ.out; omega
      generalize strOf B = SB at *
      clear ho5 hx5 HRD
      go_wp2
      go_roundw
      case rel => exact ⟨k + 1, S ++ SB, hlt, by go_num, rfl, HSN.out, HX5.out⟩
      case measure => simp [intOf]; omega
    · obtain rfl : k = 12 := by omega
      go_wp2
      go_ret
      exact ⟨by rw [HS.out]; rfl, HX.out⟩
end Go.Proofs.Ytfodpphbdbeciaa.Jn
/- Open on a disk after a crash. -/
namespace Go.Proofs.Ytfodpphbdbeciaa.Jn
open Go.RowKit Words Mem Plain Ops Agg OwnS Dk
set_option maxRecDepth 100000
set_option linter.ambiguousOpen false
set_option linter.unusedVariables false
set_option linter.unusedSimpArgs false

theorem commit_wf {D : Dsk} {s : Int} {b : Nat} (hwf : D.Wf b) {L : List PT} (hL : ∀ p ∈ L, p.wf) (h60 : L.length ≤ 60) : (commitR D 12 (47 + 1 : Nat) s L).1.Wf (b + 500) := by
  have h : (runR D (partsP 12 s L)).1.Wf (b + 500) := by
    refine Wf.mono (runR_wf (partsP 12 s L) hwf (fun P hP => ?_)) (by simp [partsP])
    simp only [partsP, List.mem_cons, List.not_mem_nil, or_false] at hP
    rcases hP with rfl | rfl | rfl | rfl
    · exact ⟨by rw [layP_length]; omega, layP_wf hL⟩
    · exact ⟨by simp, fun p hp => by simp at hp; subst hp; exact headP_wf _ _ _⟩
    · exact ⟨by omega, hL⟩
    · exact ⟨by simp, fun p hp => by simp at hp; subst hp; exact headP_wf _ _ _⟩
  have h0 := Wf.mono hwf (show b ≤ b + 500 by omega)
  unfold commitR
  split
  · exact h0
  · split
    · exact h0
    · split
      · exact h0
      · split
        · exact h0
        · split
          · exact h
          · exact h
theorem redo_wf {D : Dsk} {s : Int} {b : Nat} (hwf : D.Wf b) {L : List PT} (hL : ∀ p ∈ L, p.wf) (h60 : L.length ≤ 60) : (runR D (redoP 12 s L)).1.Wf (b + 500) := by
  refine Wf.mono (runR_wf (redoP 12 s L) hwf (fun P hP => ?_)) (by simp [redoP])
  simp only [redoP, List.mem_cons, List.not_mem_nil, or_false] at hP
  rcases hP with rfl | rfl
  · exact ⟨by omega, hL⟩
  · exact ⟨by simp, fun p hp => by simp at hp; subst hp; exact headP_wf _ _ _⟩
/-- What Open leaves. -/
structure Opened (w0 u : World) (g gs sc : Nat) (X : Nat → Prop) (D : Dsk) (s : Int) (V : List Int) (b : Nat) (gj : Nat) (D' : Dsk) (k : Nat) (c : Int) (w' : World) : Prop where
  code : c = 0 ∨ c = 6
  le : u.heap.size ≤ gj
  at' : AtM w0 g gs sc D' (fun q => X q ∨ q = gj) w'
  row : Row w' gj 67 (jRow g 12 48 s)
  same : Same X u w'
  wf : D'.Wf (b + 500)
  yes : c = 0 → D'.dead = false ∧ D'.waits = [] ∧ D'.secs.length = 60 ∧ Rest D'.secs s ∧ nowB D'.secs = V
  no : c = 6 → D'.dead = true ∧ CrashE D' s (fun V' => V' = V)
  live : Live D → c = 0 ∧ Live D'
  rest : Rest D.secs s → k = 0 ∧ D' = D ∧ c = 0
theorem open_ends_ok {w0 u : World} {g gs sc : Nat} {X : Nat → Prop} {D : Dsk} {b : Nat} {s : Int} {V : List Int} (hA : AtM w0 g gs sc D X u) (hwf : D.Wf b) (hb : b ≤ 1000000) (hd' : D.dead = false) (hw : D.waits = []) (he : Ends D.secs s V) (hs : 0 ≤ s ∧ s ≤ 1000000) :
    Calls Try.prog 13 #[.pointer (some ⟨g, 0, none⟩), .int .i64 12, .int .i64 48] u fun e w' => ∃ (gj : Nat) (D' : Dsk) (k : Nat) (c : Int), (e = if c = 0 then .returned (.tuple #[.pointer (some ⟨gj, 0, none⟩), .int .i64 k, .int .i64 0]) else .returned (.tuple #[.pointer none, .int .i64 0, .int .i64 c])) ∧ Opened w0 u g gs sc X D s V b gj D' k c w' := by
  obtain ⟨hl, he⟩ := he
  have h12 : readR D ((12 : Nat) : Int) = (Jn.hd D.secs, 0) := readR_on hd' 12 (by rw [hl]; decide)
  by_cases hr : Rest D.secs s
  · have hV : nowB D.secs = V := by
      rcases he with ⟨_, h⟩ | ⟨L, ho, _⟩
      · exact h
      · exfalso
        have hne : (L.length : Int) ≠ 0 := by
          have := List.length_pos_iff.2 ho.ne
          omega
        rcases hr with ⟨h, _⟩ | h
        · exact headB_ne _ _ (ho.head.symm.trans h)
        · have h2 := ho.head.symm.trans h
          have h3 := congrArg (fun l => numOf (((l.take 60).drop 8).take 2)) h2
          simp only [headB_take] at h3
          rw [headF_count s L.length ⟨by omega, by have := ho.room; unfold roomN at this; omega⟩, headF_count s 0 (by decide)] at h3
          exact hne h3
    refine (Open_live hA 12 48 (by decide) (by rw [hl]; decide) (by rw [hl]; decide) s (by omega) (Jn.hd D.secs) hr h12).mono ?_
    rintro e w' ⟨gj, rfl, hg, hrow, hx⟩
    refine ⟨gj, D, 0, 0, by rw [if_pos rfl]; rfl, .inl rfl, hg, hA.add hx (fun q hq => ?_), hrow, Same.ofExt hA hx, Wf.mono hwf (by omega), fun _ => ⟨hd', hw, hl, hr, hV⟩, fun h => absurd h (by decide), fun h => ⟨rfl, h⟩, fun _ => ⟨rfl, rfl, rfl⟩⟩
    rcases hq with hq | hq
    · exact .inl hq
    · subst hq; exact .inr ⟨hg, hrow.lt⟩
  · obtain ⟨L, ho, hV⟩ := he.resolve_left (fun h => hr h.1)
    have hroom := ho.room
    have h44 : L.length ≤ 60 := by unfold roomN at hroom; omega
    have hlay := layP_length 12 L
    have hlies : LiesP D ((12 : Nat) : Int) L := fun k p hp => by
      have hk : k < (layP 12 L).length := (List.getElem?_eq_some_iff.1 hp).1
      have e := readR_on hd' (13 + k) (by rw [hl]; unfold roomN at hroom; omega)
      rw [ho.lies k p hp] at e
      rw [show ((12 : Nat) : Int) + 1 + (k : Int) = ((13 + k : Nat) : Int) by omega]
      exact e
    have hre := redo_ends hd' hw hl hs.1 ho
    have hwf' := redo_wf (s := s) hwf (fun p hp => (ho.first p hp).1) h44
    have hlive : Live D → (runR D (redoP 12 s L)).2 = 0 ∧ Live (runR D (redoP 12 s L)).1 := fun h => by
      obtain ⟨k1, k2, _⟩ := run_live (redoP 12 s L) h (fun M hM p hp => by
        simp only [redoP, List.mem_cons, List.not_mem_nil, or_false] at hM
        rw [hl]
        rcases hM with rfl | rfl
        · exact first_in ho.first p hp
        · rw [List.mem_singleton.1 hp]; exact head_in _ _)
      exact ⟨k1, k2⟩
    refine (Open_redo hA hwf hb 12 47 (by decide) (by rw [hl]; decide) (by rw [hl]; decide) s (by omega) L L.length rfl (List.length_pos_iff.2 ho.ne) hroom (by rw [← ho.head]; exact h12) (fun p hp => by
      have := ho.first p hp
      exact ⟨this.1, this.2.1, by omega, outB_iff.2 ⟨this.2.1, by rw [hl]; omega, .inl (by omega)⟩, this.2.2.2⟩) hlies).mono ?_
    rintro e w' ⟨gj, he', hg, hat, hrow, hsame⟩
    have e12 : redoP ((12 : Nat) : Int) s L = redoP 12 s L := rfl
    rw [e12] at he' hat
    generalize runR D (redoP 12 s L) = R at *
    obtain ⟨D', c⟩ := R
    dsimp only at *
    refine ⟨gj, D', L.length, c, he', ?_, hg, hat, hrow, hsame, hwf', fun hc => ?_, fun hc => ?_, fun h => ?_, fun h => absurd h hr⟩
    · rcases hre with h | h
      · exact .inl h.1
      · exact .inr h.1
    · rcases hre with h | h
      · exact ⟨h.2.1, h.2.2.1, h.2.2.2.1, h.2.2.2.2.1, h.2.2.2.2.2.trans hV⟩
      · rw [hc] at h; exact absurd h.1 (by decide)
    · rcases hre with h | h
      · rw [hc] at h; exact absurd h.1 (by decide)
      · exact ⟨h.2.1, h.2.2.mono (Int.le_refl _) (fun V' h' => h'.trans hV)⟩
    · exact hlive h
end Go.Proofs.Ytfodpphbdbeciaa.Jn
