/- lay: the sectors that patches need. -/
import Derived.Test.YtfodpphbdbeciaaJnLP
namespace Go.Proofs.Ytfodpphbdbeciaa.Jn
open Go.RowKit Words Mem Plain Ops Agg OwnS Dk
open Go.Proofs.Ytfodpphbdbeciaa.Field Go.Proofs.Ytfodpphbdbeciaa.Sum
set_option maxRecDepth 100000
set_option linter.ambiguousOpen false
set_option linter.unusedVariables false
set_option linter.unusedSimpArgs false

/-- An item's bytes lie among the guests, or in what is new, and not where the list lies. -/
def ItOK (X : Nat → Prop) (lo : Nat) (w : World) (ao : Option Addr) (t : It) : Prop :=
  Sl w t.x (ints .u8 t.p.bs) ∧ (t.p.bs.length ≤ t.c ∧ t.c ≤ 9223372036854775807) ∧ t.p.wf ∧ ∀ ad, t.x = some ad → (X ad.block ∨ lo ≤ ad.block) ∧ ad.block < w.heap.size ∧ ∀ ad', ao = some ad' → ad.block ≠ ad'.block
/-- Items, in a list of one's own. -/
structure OutAt (X : Nat → Prop) (lo : Nat) (w : World) (ao : Option Addr) (c : Nat) (O : List It) : Prop where
  own : w.ownsRow lo 37 3 (.slice ao O.length c) O.length (flat itC O)
  ok : ∀ t ∈ O, ItOK X lo w ao t
theorem sl_kept {w w' : World} {x : Option Addr} {xs : List Value} (h : Sl w x xs) (hk : ∀ ad, x = some ad → w'.heap[ad.block]? = w.heap[ad.block]?) : Sl w' x xs := fun j hj => by
  obtain ⟨ad, e, hc⟩ := h j hj
  refine ⟨ad, e, ?_⟩
  have hb : (ad.add j).block = ad.block := by unfold Addr.add; split <;> rfl
  rw [World.cell?_of_block (w := w) (by rw [hb]; exact hk ad e)]
  exact hc
theorem OutAt.ext {X : Nat → Prop} {lo : Nat} {w w' : World} {ao : Option Addr} {c : Nat} {O : List It} (h : OutAt X lo w ao c O) (e : Ext w w') : OutAt X lo w' ao c O :=
  ⟨ownS_ext h.own e, fun t ht => by
    obtain ⟨h1, h2, h3, h4⟩ := h.ok t ht
    exact ⟨h1.ext e, h2, h3, fun ad ea => ⟨(h4 ad ea).1, Nat.lt_of_lt_of_le (h4 ad ea).2.1 e.size, (h4 ad ea).2.2⟩⟩⟩
/-- What stays when the list grows. -/
theorem ItOK.grown {X : Nat → Prop} {lo : Nat} {w w' : World} {ao a' : Option Addr} {n c : Nat} {t : It} (h : ItOK X lo w ao t) (hg : w.grownBy w' (Value.ownBlock (.slice ao n c))) (ha : a' = ao ∨ ∀ ad, a' = some ad → w.heap.size ≤ ad.block) : ItOK X lo w' a' t := by
  obtain ⟨h1, h2, h3, h4⟩ := h
  refine ⟨sl_kept h1 (fun ad e => hg.block _ (h4 ad e).2.1 (fun e2 => ?_)), h2, h3, fun ad e => ⟨(h4 ad e).1, Nat.lt_of_lt_of_le (h4 ad e).2.1 hg.size, fun ad' e' => ?_⟩⟩
  · cases ao with
    | none => simp [Value.ownBlock] at e2
    | some a0 =>
      simp [Value.ownBlock] at e2
      exact (h4 ad e).2.2 a0 rfl e2
  · rcases ha with rfl | ha
    · exact (h4 ad e).2.2 ad' e'
    · have := ha ad' e'; have := (h4 ad e).2.1; omega
theorem choose_list {α : Type} [Inhabited α] {n : Nat} {Pr : Nat → α → Prop} (h : ∀ i, i < n → ∃ x, Pr i x) : ∃ L : List α, L.length = n ∧ ∀ i (hi : i < L.length), Pr i L[i] := by
  classical
  refine ⟨(List.range n).map fun i => if hi : i < n then Classical.choose (h i hi) else default, by simp, fun i hi => ?_⟩
  simp only [List.length_map, List.length_range] at hi
  simp only [List.getElem_map, List.getElem_range, dif_pos hi]
  exact Classical.choose_spec (h i hi)
theorem flat_sl {α : Type} {f : α → List Value} {s : Nat} (hs0 : 0 < s) (hs : ∀ x, (f x).length = s) {w : World} {a : Addr} {L : List α} (h : ∀ i (hi : i < L.length), ∀ q, q < s → w.cell? (a.add (i * s + q)) = (f L[i])[q]?) : Sl w (some a) (flat f L) := by
  intro j hj
  have hfl := flat_length (f := f) hs L
  refine ⟨a, rfl, ?_⟩
  have hk : j / s < L.length := Nat.div_lt_of_lt_mul (by rw [Nat.mul_comm]; omega)
  have hq : j % s < s := Nat.mod_lt _ hs0
  have e1 : j / s * s + j % s = j := by rw [Nat.mul_comm]; exact Nat.div_add_mod j s
  have e2 := flat_at (f := f) (s := s) hs L (j / s) hk (j % s) hq
  have h1 := h (j / s) hk (j % s) hq
  rw [e1] at e2 h1
  rw [h1, ← e2, List.getElem?_eq_getElem hj]
/-- One cell is written. -/
theorem ownS_set1 {w : World} {base n cap s g k : Nat} {t : TypeId} {xs : List Value} (h : w.ownsRow base t s (.slice (some ⟨g, 0, none⟩) n cap) n xs) (v : Value) : (w.setCell ⟨g, k, none⟩ v).ownsRow base t s (.slice (some ⟨g, 0, none⟩) n cap) n (xs.set k v) := by
  have hx := h.1
  rcases ownS_cases h with ⟨e, _⟩ | ⟨g', M, e, h2, h3, h4, h5, h6, h7⟩
  · cases e
  · cases e
    refine ⟨by rw [List.length_set]; exact hx, .inr ⟨g, cap, (M.set k v).toArray, rfl, h2, h3.set k v, h4, h5, by simpa using h6, ?_⟩⟩
    rw [← h7]
    simp [List.take_set]
/-- A slice of patches, as items. -/
theorem PatsIn.its {X : Nat → Prop} {u : World} {b off n : Nat} {L : List PT} (h : PatsIn X u (some ⟨b, off, none⟩) n L) (h0 : 0 < n) : ∃ I : List It, I.map (·.p) = L ∧ ∀ i (hi : i < I.length), PatAt X u b (off + i * 3) I[i].p I[i].x I[i].c := by
  obtain ⟨b', off', e, hb, hc⟩ := h.2.2 h0
  cases e
  haveI : Inhabited It := ⟨⟨⟨0, [], 0⟩, none, 0⟩⟩
  have hat : ∀ i, i < n → ∃ t : It, L[i]? = some t.p ∧ PatAt X u b (off + i * 3) t.p t.x t.c := fun i hi => by
    obtain ⟨x, c, hp⟩ := hc i (by rw [h.1]; exact hi)
    exact ⟨⟨L[i]'(by rw [h.1]; exact hi), x, c⟩, List.getElem?_eq_getElem _, hp⟩
  obtain ⟨I, hI, hp⟩ := choose_list hat
  refine ⟨I, ?_, fun i hi => (hp i hi).2⟩
  apply List.ext_getElem?
  intro i
  by_cases hi : i < I.length
  · rw [List.getElem?_map, List.getElem?_eq_getElem hi, (hp i hi).1]; rfl
  · rw [List.getElem?_eq_none (by simpa using hi), List.getElem?_eq_none (by rw [h.1, ← hI]; omega)]
theorem part_sl {X : Nat → Prop} {u v : World} {b off : Nat} {I : List It} (hi : ∀ i (h : i < I.length), PatAt X u b (off + i * 3) I[i].p I[i].x I[i].c) (hb : X b) (s : Same X u v) (lo k : Nat) (hk : lo + k ≤ I.length) : Sl v (some ⟨b, off + lo * 3, none⟩) (flat itC ((I.drop lo).take k)) := by
  refine flat_sl (f := itC) (s := 3) (by decide) itC_len (fun i h q hq => ?_)
  have hl : i < k := by rw [List.length_take] at h; omega
  have hp := (hi (lo + i) (by omega)).same hb s
  have e : ((I.drop lo).take k)[i] = I[lo + i] := by rw [List.getElem_take, List.getElem_drop]
  rw [e, Addr.add_lit, show off + lo * 3 + (i * 3 + q) = off + (lo + i) * 3 + q by omega]
  match q, hq with
  | 0, _ => exact hp.c0
  | 1, _ => exact hp.c1
  | 2, _ => exact hp.c2
theorem part_ok {X : Nat → Prop} {w0 u v : World} {g gs sc : Nat} {D : Dsk} {b off lo' : Nat} {ao : Option Addr} {I : List It} {L : List PT} (hA : AtM w0 g gs sc D X u) (hi : ∀ i (h : i < I.length), PatAt X u b (off + i * 3) I[i].p I[i].x I[i].c) (hL : I.map (·.p) = L) (hw : ∀ p ∈ L, p.wf) (s : Same X u v) (ha : ∀ ad, ao = some ad → u.heap.size ≤ ad.block) (lo k : Nat) : ∀ t ∈ (I.drop lo).take k, ItOK X lo' v ao t := fun t ht => by
  have ht := List.mem_of_mem_drop (List.mem_of_mem_take ht)
  obtain ⟨i, h, rfl⟩ := List.getElem_of_mem ht
  have hp := hi i h
  refine ⟨s.sl hp.sl hp.ad, hp.le, hw _ (by rw [← hL]; exact List.mem_map_of_mem (List.getElem_mem h)), fun ad e => ?_⟩
  have hx := hp.ad ad e
  have hlt := hA.lt hx
  exact ⟨.inl hx, Nat.lt_of_lt_of_le hlt.1 s.1, fun ad' e' => by have := ha ad' e'; omega⟩
set_option maxHeartbeats 16000000 in
theorem lay_ok {w0 u : World} {g gs sc gj : Nat} {X : Nat → Prop} {D : Dsk} {f n s : Int} (hA : AtM w0 g gs sc D X u) (hj : Row u gj 67 (jRow g f n s)) (hf : 0 ≤ f ∧ f ≤ 100000) (a : Option Addr) (m cap : Nat) (L : List PT) (hL : PatsIn X u a m L) (hsec : ∀ p ∈ L, 0 ≤ p.sec ∧ p.sec ≤ 65535) (hm : m ≤ 10000) (hcap : m ≤ cap) (hcm : cap ≤ 9223372036854775807) :
    Calls Try.prog 33 #[.pointer (some ⟨gj, 0, none⟩), .slice a m cap] u fun e w' => ∃ ao c O, e = .returned (.slice ao O.length c) ∧ OutAt X u.heap.size w' ao c O ∧ O.map (·.p) = layP f L ∧ Ext u w' := by
  have HA := Lib.hid hA
  have HJ := Lib.hid hj
  have HL := Lib.hid hL
  have HSEC := Lib.hid hsec
  have HCAP := Lib.hid (And.intro hcap hcm)
  clear hA hj hL hsec hcap hcm
  go_enter Try.func33, Try.ntmps33
  go_wp2_with fail
  go_loopw [6, 5] (fun v o wr => ∃ (j at' : Nat) (O : List It) (ao : Option Addr) (c : Nat), at' = 15 * j ∧ j ≤ (m + 14) / 15 ∧ v = .int .i64 at' ∧ o = .slice ao O.length c ∧ OutAt X u.heap.size wr ao c O ∧ O.map (·.p) = chunksP L j ∧ O.length ≤ 16 * j ∧ Ext u wr) (fun v _ _ => m - (intOf v).toNat)
  case atStart => exact ⟨0, 0, [], none, 0, rfl, by omega, rfl, rfl, ⟨ownS_nil _ _ _ _, fun t ht => by cases ht⟩, rfl, by simp, Ext.refl _⟩
  case round =>
    obtain ⟨j, at', O, ao, c, hat, hj, rfl, rfl, hO, hmap, hlen, hX⟩ := hrel
    have HAT := Lib.hid hat; have HO := Lib.hid hO; have HMAP := Lib.hid hmap; have HX := Lib.hid hX; have HLEN := Lib.hid (And.intro hj hlen)
    clear hat hO hmap hX hj hlen
    by_cases hlt : at' < m
    · obtain ⟨b, off, rfl, hb, hc⟩ := HL.out.2.2 (by omega)
      have HC := Lib.hid hc
      obtain ⟨IL, hIL, hIP⟩ := HL.out.its (by omega)
      have HIL := Lib.hid hIL
      have HIP := Lib.hid hIP
      have HILN := Lib.hid (show IL.length = m by rw [← HL.out.1, ← hIL, List.length_map])
      clear hIL hIP
      have hmn : (at' : Int) < m := by omega
      have hw15 : IntKind.i64.wrap ((at' : Int) + 15) = (at' : Int) + 15 := IntWalk.i64_in _ (by omega)
      have hmc : m ≤ cap := HCAP.out.1
      have hne : ¬ cap = at' := by omega
      clear hc
      by_cases h15 : at' + 15 ≤ m
      · have h15' : (at' : Int) + 15 ≤ m := by omega
        have hac : at' + 15 ≤ cap := by omega
        go_upto_region 7 with fail
        obtain ⟨K, hK⟩ : ∃ z, z = at' + 15 - at' := ⟨_, rfl⟩
        rw [← hK]
        have HKK := Lib.hid (show at' + K ≤ m ∧ 1 ≤ K ∧ K ≤ 15 ∧ (chunkP L j).length = K from by
          refine ⟨by omega, by omega, by omega, ?_⟩
          unfold chunkP
          rw [List.length_take, List.length_drop, HL.out.1, ← HAT.out]
          omega)
        have HCH := Lib.hid (show ∀ i (h : i < (chunkP L j).length) (h' : at' + i < L.length), (chunkP L j)[i] = L[at' + i] from fun i h h' => by
          have h2 : (chunkP L j)[i]? = L[at' + i]? := by
            unfold chunkP
            rw [List.getElem?_take, if_pos (by have := HKK.out.2.2; omega), List.getElem?_drop, HAT.out]
          rw [List.getElem?_eq_getElem h, List.getElem?_eq_getElem h'] at h2
          exact Option.some.inj h2)
        have HCW := Lib.hid (show ∀ p ∈ chunkP L j, p.wf ∧ 0 ≤ p.sec ∧ p.sec ≤ 65535 from fun p hp => by
          have hp := List.mem_of_mem_drop (List.mem_of_mem_take hp)
          exact ⟨HL.out.2.1 p hp, HSEC.out p hp⟩)
        have HSUCC := Lib.hid (chunksP_succ L j)
        generalize hCC : chunkP L j = C at *
        have HCC2 := Lib.hid (show ((L.drop at').take K) = C by
          rw [← hCC]; unfold chunkP; rw [← HAT.out]
          by_cases h : K = 15
          · rw [h]
          · rw [List.take_of_length_le (l := L.drop at') (i := 15) (by rw [List.length_drop, HL.out.1]; omega), List.take_of_length_le (l := L.drop at') (i := K) (by rw [List.length_drop, HL.out.1]; omega)])
        clear hCC hK
        have hK15 : K ≤ 15 := HKK.out.2.2.1
        obtain ⟨wc, rfl⟩ : ∃ z, z = wr := ⟨_, rfl⟩
        go_wp2_with fail
        go_loopw [32, 8] (fun v nu wi => ∃ (i : Nat) (an : Option Addr) (cn : Nat), i ≤ K ∧ v = .int .i64 i ∧ nu = .slice an (2 * i) cn ∧ wi.ownsRow wc.heap.size 40 1 (.slice an (2 * i) cn) (2 * i) (ints .u64 (numsP (C.take i))) ∧ Ext wc wi) (fun v _ _ => K - (intOf v).toNat)
        case atStart => exact ⟨0, none, 0, by omega, rfl, rfl, ownS_nil _ _ _ _, Ext.refl _⟩
        case round =>
          obtain ⟨i, an, cn, hi, rfl, rfl, hnu, hXi⟩ := hrel
          have HNU := Lib.hid hnu
          have HXI := Lib.hid hXi
          clear hnu hXi
          by_cases hlk : i < K
          · have hiC : i < C.length := by rw [HKK.out.2.2.2]; exact hlk
            have hiL : at' + i < L.length := by rw [HL.out.1]; have := HKK.out.1; omega
            obtain ⟨x, cx, hp⟩ := HC.out (at' + i) hiL
            have hp2 := hp.same hb (Same.ofExt HA.out (HX.out.trans HXI.out))
            have hpc := HCH.out i hiC hiL
            have hpw := HCW.out _ (List.getElem_mem hiC)
            have HTS := Lib.hid (show numsP (C.take (i + 1)) = numsP (C.take i) ++ [C[i].sec, C[i].tag] by rw [List.take_succ_eq_append_getElem hiC, numsP_snoc])
            rw [← hpc] at hp2
            generalize C[i] = pt at *
            obtain ⟨ps, pb, ptg⟩ := pt
            have k0 := hp2.c0
            have k1 := hp2.c1
            have k2 := hp2.c2
            rw [show off + (at' + i) * 3 = off + at' * 3 + i * 3 by omega] at k0 k1 k2
            have hikK : (i : Int) < K := by omega
            have hzp := zeroPatch
            have hcv1 : IntKind.u64.wrap ps = ps := IntWalk.u64_in _ (by have := hpw.2; dsimp only at this; omega)
            have hcv2 : IntKind.u64.wrap ptg = ptg := IntWalk.u64_in _ (by have := hpw.1.2; dsimp only at this; omega)
            have hXb := ((Ext.refl wr).alloc (.cells #[.int .i64 ps, .slice x pb.length cx, .int .u16 ptg] 37)).alloc (.cells #[.int .u64 ps, .int .u64 ptg] 40)
            have hrn := Row.new (wr.alloc (.cells #[.int .i64 ps, .slice x pb.length cx, .int .u16 ptg] 37)) 40 [.int .u64 ps, .int .u64 ptg]
            have hsz : (wr.alloc (.cells #[.int .i64 ps, .slice x pb.length cx, .int .u16 ptg] 37)).heap.size = wr.heap.size + 1 := by simp
            rw [hsz] at hrn
            obtain ⟨a9, c9, w9, hap, ho9, hg9, _⟩ := run_append_s (P := Try.prog) _ wc.heap.size 1 (by decide) 88 88 40 _ 8 Try.underlying88 (show (Try.prog.info? 40).map (fun i => (i.zero, i.size, i.bytes)) = some (some (.int .u64 0), 1, 8) by kernel_rfl) rfl (ownS_ext HNU.out hXb) (a := some ⟨wr.heap.size + 1, 0, none⟩) (m := 2) 2 (news := ints .u64 [ps, ptg]) rfl hrn.sl0 (fun e => by cases e) (ints_oneCell' _ _) (by omega) (by omega) (HXI.out.trans hXb).size
            have hX9 : Ext wc w9 := Ext_grown (HXI.out.trans hXb) (Nat.le_refl _) (HXI.out.trans hXb).size hg9 (fun z hz => by
              cases an with
              | none => simp [Value.ownBlock] at hz
              | some a0 =>
                simp [Value.ownBlock] at hz
                subst hz
                exact (ownS_lt HNU.out a0 rfl).1)
            rw [← ints_append, ← HTS.out, show 2 * i + 2 = 2 * (i + 1) by omega] at ho9
            rw [show 2 * i + 2 = 2 * (i + 1) by omega] at hap
            have HO9 := Lib.hid ho9
            have HX9 := Lib.hid hX9
            clear hXb hrn hsz ho9 hg9 hX9 hp hp2 hpc hpw hiC hiL
            dsimp only at k0 k1 k2
            go_wp2_with (at_builtin; refine Guard.wpList_append_want _ rfl _ _ _ _ rfl _ _ rfl rfl _ _ hap ?_)
            go_roundw
            case rel => exact ⟨i + 1, a9, c9, hlk, by go_num, rfl, HO9.out, HX9.out⟩
            case measure => simp [intOf]; omega
          · obtain rfl : K = i := by omega
            have HNU := Lib.hid (show wr.ownsRow wc.heap.size 40 1 (.slice an (2 * K) cn) (2 * K) (ints .u64 (numsP C)) from by
              have := HNU.out
              rw [List.take_of_length_le (Nat.le_of_eq HKK.out.2.2.2)] at this
              exact this)
            have hnl : (numsP C).length = 2 * K := by rw [numsP_len, HKK.out.2.2.2]
            have hnb : ∀ x ∈ numsP C, 0 ≤ x ∧ x < 65536 := fun x hx => by
              obtain ⟨p, hp, hx⟩ := List.mem_flatMap.1 hx
              have h1 := HCW.out p hp
              have h2 := h1.1.2
              simp at hx
              rcases hx with rfl | rfl <;> omega
            have HLAY := Lib.hid (Lay_yes 2 an (2 * K) cn (numsP C) wr (by decide) (by decide) hnl (ownS_sl HNU.out) (fun x hx => by have := hnb x hx; omega) (okLay_of hnl (by omega) (fun x hx => by unfold fitsB; rw [p2]; exact decide_eq_true (hnb x hx).2)))
            have HL4 := Lib.hid (show (layed 2 (numsP C)).length = 2 * (2 * K) by rw [length_layed, hnl])
            clear hnb hlk hi
            go_wp2_with fail
            refine HLAY.out.mono ?_
            rintro e w2 ⟨rfl, hr2, h2⟩
            obtain ⟨bL, hbL⟩ : ∃ z, z = wr.heap.size := ⟨_, rfl⟩
            rw [← hbL] at hr2 ⊢
            have HX2 := Lib.hid (HXI.out.trans h2)
            have HFILL := Lib.hid (Fill_ok (some ⟨bL, 0, none⟩) (2 * (2 * K)) (2 * (2 * K)) 64 (layed 2 (numsP C)) w2 HL4.out hr2.sl0 (by omega) (by decide))
            clear hr2 h2 hbL HLAY
            go_wp2_with fail
            refine HFILL.out.mono ?_
            rintro e w3 ⟨rfl, hw3⟩
            have hrow3 := Row.new w2 5 (ints .u8 (filled (layed 2 (numsP C)) 64))
            rw [← hw3] at hrow3
            have hX3 : Ext w2 w3 := by rw [hw3]; exact (Ext.refl w2).alloc _
            obtain ⟨bF, hbF⟩ : ∃ z, z = w2.heap.size := ⟨_, rfl⟩
            rw [← hbF] at hrow3 ⊢
            have hlF : (hdrP C).bs.length = 64 := length_filled _ _ (by rw [HL4.out]; omega)
            obtain ⟨tH, htH⟩ : ∃ t : It, t = ⟨hdrP C, some ⟨bF, 0, none⟩, 64⟩ := ⟨_, rfl⟩
            have HTV := Lib.hid (show Value.agg #[.int .i64 0, .slice (some ⟨bF, 0, none⟩) 64 64, .int .u16 0] = .agg (itC tH).toArray by rw [htH]; unfold itC; dsimp only; rw [hlF]; rfl)
            have HXU3 := Lib.hid (HX.out.trans (HX2.out.trans hX3))
            have hO3 := (HO.out.ext (HX2.out.trans hX3)).ext ((Ext.refl w3).alloc (.cells (itC tH).toArray 37))
            have hXA := HXU3.out.alloc (.cells (itC tH).toArray 37)
            have hrH := Row.new w3 37 (itC tH)
            have hbd : O.length ≤ 11000 := by have := HLEN.out; omega
            obtain ⟨a4, c4, w4, hap4, ho4, hg4, ha4⟩ := run_append_s (P := Try.prog) _ u.heap.size 3 (by decide) 39 39 37 _ 40 Try.underlying39 infoPatZ rfl hO3.own (a := some ⟨w3.heap.size, 0, none⟩) (m := 1) 1 (news := itC tH) rfl hrH.sl0 (fun e => by cases e) (itC_one _) (by omega) (by omega) hXA.size
            have hownb : ∀ z, Value.ownBlock (.slice ao O.length c) = some z → u.heap.size ≤ z := fun z hz => by
              cases ao with
              | none => simp [Value.ownBlock] at hz
              | some a0 =>
                simp [Value.ownBlock] at hz
                subst hz
                exact (ownS_lt hO3.own a0 rfl).1
            have hX4 : Ext u w4 := Ext_grown hXA (Nat.le_refl _) hXA.size hg4 hownb
            have hI4 : ∀ t ∈ O ++ [tH], ItOK X u.heap.size w4 a4 t := fun t ht => by
              rcases List.mem_append.1 ht with ht | ht
              · exact (hO3.ok t ht).grown hg4 ha4
              · simp at ht
                subst ht
                refine ItOK.grown (ao := ao) (n := O.length) (c := c) ?_ hg4 ha4
                rw [htH]
                refine ⟨((hrow3.ext ((Ext.refl w3).alloc _)).sl0), ⟨Nat.le_of_eq hlF, by show 64 ≤ 9223372036854775807; decide⟩, ⟨isBytes_filled _ _ (isBytes_layed _ _), by show (0 : Int) ≤ 0; decide, by show (0 : Int) ≤ 65535; decide⟩, fun ad e => ?_⟩
                cases e
                refine ⟨.inr ?_, (hrow3.ext ((Ext.refl w3).alloc _)).lt, fun ad' e' => ?_⟩
                · show u.heap.size ≤ bF
                  rw [hbF]; exact (HX.out.trans HX2.out).size
                · have h1 := (ownS_lt HO.out.own ad' e').2
                  have h2 := HX2.out.size
                  show bF ≠ ad'.block
                  rw [hbF]; omega
            rw [show flat itC O ++ itC tH = flat itC (O ++ [tH]) by rw [flat_append]; show _ = _ ++ (itC tH ++ []); rw [List.append_nil]] at ho4
            have HI4 := Lib.hid hI4
            have HX4 := Lib.hid hX4
            have HOW4 := Lib.hid ho4
            have HA4 := Lib.hid hap4
            clear hO3 hXA hrH hownb hX4 hI4 ho4 hg4 ha4 hrow3 hX3 hw3 hbF hlF HFILL
            have hslp := part_sl HIP.out hb (Same.ofExt HA.out HX4.out) at' K (by rw [HILN.out]; exact HKK.out.1)
            have hpok := fun (v : World) (a' : Option Addr) (e : Ext u v) (ha : ∀ ad, a' = some ad → u.heap.size ≤ ad.block) => part_ok (lo' := u.heap.size) (v := v) (ao := a') HA.out HIP.out HIL.out HL.out.2.1 (Same.ofExt HA.out e) ha at' K
            have hmapP : ((IL.drop at').take K).map (·.p) = C := by
              rw [List.map_take, List.map_drop, HIL.out]
              exact HCC2.out
            obtain ⟨PI, hPI⟩ : ∃ z, z = (IL.drop at').take K := ⟨_, rfl⟩
            rw [← hPI] at hslp hpok hmapP
            have hPl : PI.length = K := by rw [hPI, List.length_take, List.length_drop, HILN.out]; have := HKK.out.1; omega
            obtain ⟨a5, c5, w5, hap5, ho5, hg5, ha5⟩ := run_append_s (P := Try.prog) w4 u.heap.size 3 (by decide) 39 39 37 _ 40 Try.underlying39 infoPatZ rfl HOW4.out (a := some ⟨b, off + at' * 3, none⟩) (m := K) (cap - at') (news := flat itC PI) (by rw [flat_length itC_len, hPl]) hslp (fun e => by cases e) (flat_one itC_one _) (by omega) (by omega) HX4.out.size
            have hX5 : Ext u w5 := Ext_grown HX4.out (Nat.le_refl _) HX4.out.size hg5 (fun z hz => by
              have h4 := ownS_lt HOW4.out
              cases a4 with
              | none => simp [Value.ownBlock] at hz
              | some a0 =>
                simp [Value.ownBlock] at hz
                subst hz
                exact (h4 a0 rfl).1)
            have hN5 : (O ++ [tH] ++ PI).length = O.length + 1 + K := by rw [List.length_append, List.length_append, hPl]; rfl
            have hO5 : OutAt X u.heap.size w5 a5 c5 (O ++ [tH] ++ PI) := by
              refine ⟨?_, fun t ht => ?_⟩
              · rw [hN5, flat_append]
                exact ho5
              · rcases List.mem_append.1 ht with ht | ht
                · exact (HI4.out t ht).grown hg5 ha5
                · exact hpok w5 a5 hX5 (fun ad e => (ownS_lt ho5 ad e).1) t ht
            have hM5 : (O ++ [tH] ++ PI).map (·.p) = chunksP L (j + 1) := by
              rw [HSUCC.out, List.map_append, List.map_append, HMAP.out, hmapP, htH]
              simp
            have HO5 := Lib.hid hO5
            have HM5 := Lib.hid hM5
            have HN5 := Lib.hid hN5
            have HX5 := Lib.hid hX5
            have HBJ := Lib.hid (show at' + 15 = 15 * (j + 1) ∧ j + 1 ≤ (m + 14) / 15 ∧ (O ++ [tH] ++ PI).length ≤ 16 * (j + 1) from ⟨by have := HAT.out; omega, by have := HAT.out; omega, by rw [hN5]; have := HLEN.out; omega⟩)
            clear hslp hpok hmapP hPI hPl ho5 hg5 ha5 hX5 hN5 hO5 hM5 htH hbd
            go_wp2_with (first
              | (refine wpList_onePat rfl _ rfl tH HTV.out ?_)
              | (at_builtin; refine Guard.wpList_append_want _ rfl _ _ _ _ rfl _ _ rfl rfl _ _ hap4 ?_)
              | (at_builtin; refine Guard.wpList_append_want _ rfl _ _ _ _ rfl _ _ rfl rfl _ _ hap5 ?_))
            go_roundw
            case rel => exact ⟨j + 1, at' + 15, O ++ [tH] ++ PI, a5, c5, HBJ.out.1, HBJ.out.2.1, by go_num, by rw [HN5.out], HO5.out, HM5.out, HBJ.out.2.2, HX5.out⟩
            case measure => simp [intOf]; omega
      · have h15' : ¬ ((at' : Int) + 15 ≤ m) := by omega
        go_upto_region 7 with fail
        obtain ⟨K, hK⟩ : ∃ z, z = m - at' := ⟨_, rfl⟩
        rw [← hK]
        have HKK := Lib.hid (show at' + K ≤ m ∧ 1 ≤ K ∧ K ≤ 15 ∧ (chunkP L j).length = K from by
          refine ⟨by omega, by omega, by omega, ?_⟩
          unfold chunkP
          rw [List.length_take, List.length_drop, HL.out.1, ← HAT.out]
          omega)
        have HCH := Lib.hid (show ∀ i (h : i < (chunkP L j).length) (h' : at' + i < L.length), (chunkP L j)[i] = L[at' + i] from fun i h h' => by
          have h2 : (chunkP L j)[i]? = L[at' + i]? := by
            unfold chunkP
            rw [List.getElem?_take, if_pos (by have := HKK.out.2.2; omega), List.getElem?_drop, HAT.out]
          rw [List.getElem?_eq_getElem h, List.getElem?_eq_getElem h'] at h2
          exact Option.some.inj h2)
        have HCW := Lib.hid (show ∀ p ∈ chunkP L j, p.wf ∧ 0 ≤ p.sec ∧ p.sec ≤ 65535 from fun p hp => by
          have hp := List.mem_of_mem_drop (List.mem_of_mem_take hp)
          exact ⟨HL.out.2.1 p hp, HSEC.out p hp⟩)
        have HSUCC := Lib.hid (chunksP_succ L j)
        generalize hCC : chunkP L j = C at *
        have HCC2 := Lib.hid (show ((L.drop at').take K) = C by
          rw [← hCC]; unfold chunkP; rw [← HAT.out]
          by_cases h : K = 15
          · rw [h]
          · rw [List.take_of_length_le (l := L.drop at') (i := 15) (by rw [List.length_drop, HL.out.1]; omega), List.take_of_length_le (l := L.drop at') (i := K) (by rw [List.length_drop, HL.out.1]; omega)])
        clear hCC hK
        have hK15 : K ≤ 15 := HKK.out.2.2.1
        obtain ⟨wc, rfl⟩ : ∃ z, z = wr := ⟨_, rfl⟩
        go_wp2_with fail
        go_loopw [32, 8] (fun v nu wi => ∃ (i : Nat) (an : Option Addr) (cn : Nat), i ≤ K ∧ v = .int .i64 i ∧ nu = .slice an (2 * i) cn ∧ wi.ownsRow wc.heap.size 40 1 (.slice an (2 * i) cn) (2 * i) (ints .u64 (numsP (C.take i))) ∧ Ext wc wi) (fun v _ _ => K - (intOf v).toNat)
        case atStart => exact ⟨0, none, 0, by omega, rfl, rfl, ownS_nil _ _ _ _, Ext.refl _⟩
        case round =>
          obtain ⟨i, an, cn, hi, rfl, rfl, hnu, hXi⟩ := hrel
          have HNU := Lib.hid hnu
          have HXI := Lib.hid hXi
          clear hnu hXi
          by_cases hlk : i < K
          · have hiC : i < C.length := by rw [HKK.out.2.2.2]; exact hlk
            have hiL : at' + i < L.length := by rw [HL.out.1]; have := HKK.out.1; omega
            obtain ⟨x, cx, hp⟩ := HC.out (at' + i) hiL
            have hp2 := hp.same hb (Same.ofExt HA.out (HX.out.trans HXI.out))
            have hpc := HCH.out i hiC hiL
            have hpw := HCW.out _ (List.getElem_mem hiC)
            have HTS := Lib.hid (show numsP (C.take (i + 1)) = numsP (C.take i) ++ [C[i].sec, C[i].tag] by rw [List.take_succ_eq_append_getElem hiC, numsP_snoc])
            rw [← hpc] at hp2
            generalize C[i] = pt at *
            obtain ⟨ps, pb, ptg⟩ := pt
            have k0 := hp2.c0
            have k1 := hp2.c1
            have k2 := hp2.c2
            rw [show off + (at' + i) * 3 = off + at' * 3 + i * 3 by omega] at k0 k1 k2
            have hikK : (i : Int) < K := by omega
            have hzp := zeroPatch
            have hcv1 : IntKind.u64.wrap ps = ps := IntWalk.u64_in _ (by have := hpw.2; dsimp only at this; omega)
            have hcv2 : IntKind.u64.wrap ptg = ptg := IntWalk.u64_in _ (by have := hpw.1.2; dsimp only at this; omega)
            have hXb := ((Ext.refl wr).alloc (.cells #[.int .i64 ps, .slice x pb.length cx, .int .u16 ptg] 37)).alloc (.cells #[.int .u64 ps, .int .u64 ptg] 40)
            have hrn := Row.new (wr.alloc (.cells #[.int .i64 ps, .slice x pb.length cx, .int .u16 ptg] 37)) 40 [.int .u64 ps, .int .u64 ptg]
            have hsz : (wr.alloc (.cells #[.int .i64 ps, .slice x pb.length cx, .int .u16 ptg] 37)).heap.size = wr.heap.size + 1 := by simp
            rw [hsz] at hrn
            obtain ⟨a9, c9, w9, hap, ho9, hg9, _⟩ := run_append_s (P := Try.prog) _ wc.heap.size 1 (by decide) 88 88 40 _ 8 Try.underlying88 (show (Try.prog.info? 40).map (fun i => (i.zero, i.size, i.bytes)) = some (some (.int .u64 0), 1, 8) by kernel_rfl) rfl (ownS_ext HNU.out hXb) (a := some ⟨wr.heap.size + 1, 0, none⟩) (m := 2) 2 (news := ints .u64 [ps, ptg]) rfl hrn.sl0 (fun e => by cases e) (ints_oneCell' _ _) (by omega) (by omega) (HXI.out.trans hXb).size
            have hX9 : Ext wc w9 := Ext_grown (HXI.out.trans hXb) (Nat.le_refl _) (HXI.out.trans hXb).size hg9 (fun z hz => by
              cases an with
              | none => simp [Value.ownBlock] at hz
              | some a0 =>
                simp [Value.ownBlock] at hz
                subst hz
                exact (ownS_lt HNU.out a0 rfl).1)
            rw [← ints_append, ← HTS.out, show 2 * i + 2 = 2 * (i + 1) by omega] at ho9
            rw [show 2 * i + 2 = 2 * (i + 1) by omega] at hap
            have HO9 := Lib.hid ho9
            have HX9 := Lib.hid hX9
            clear hXb hrn hsz ho9 hg9 hX9 hp hp2 hpc hpw hiC hiL
            dsimp only at k0 k1 k2
            go_wp2_with (at_builtin; refine Guard.wpList_append_want _ rfl _ _ _ _ rfl _ _ rfl rfl _ _ hap ?_)
            go_roundw
            case rel => exact ⟨i + 1, a9, c9, hlk, by go_num, rfl, HO9.out, HX9.out⟩
            case measure => simp [intOf]; omega
          · obtain rfl : K = i := by omega
            have HNU := Lib.hid (show wr.ownsRow wc.heap.size 40 1 (.slice an (2 * K) cn) (2 * K) (ints .u64 (numsP C)) from by
              have := HNU.out
              rw [List.take_of_length_le (Nat.le_of_eq HKK.out.2.2.2)] at this
              exact this)
            have hnl : (numsP C).length = 2 * K := by rw [numsP_len, HKK.out.2.2.2]
            have hnb : ∀ x ∈ numsP C, 0 ≤ x ∧ x < 65536 := fun x hx => by
              obtain ⟨p, hp, hx⟩ := List.mem_flatMap.1 hx
              have h1 := HCW.out p hp
              have h2 := h1.1.2
              simp at hx
              rcases hx with rfl | rfl <;> omega
            have HLAY := Lib.hid (Lay_yes 2 an (2 * K) cn (numsP C) wr (by decide) (by decide) hnl (ownS_sl HNU.out) (fun x hx => by have := hnb x hx; omega) (okLay_of hnl (by omega) (fun x hx => by unfold fitsB; rw [p2]; exact decide_eq_true (hnb x hx).2)))
            have HL4 := Lib.hid (show (layed 2 (numsP C)).length = 2 * (2 * K) by rw [length_layed, hnl])
            clear hnb hlk hi
            go_wp2_with fail
            refine HLAY.out.mono ?_
            rintro e w2 ⟨rfl, hr2, h2⟩
            obtain ⟨bL, hbL⟩ : ∃ z, z = wr.heap.size := ⟨_, rfl⟩
            rw [← hbL] at hr2 ⊢
            have HX2 := Lib.hid (HXI.out.trans h2)
            have HFILL := Lib.hid (Fill_ok (some ⟨bL, 0, none⟩) (2 * (2 * K)) (2 * (2 * K)) 64 (layed 2 (numsP C)) w2 HL4.out hr2.sl0 (by omega) (by decide))
            clear hr2 h2 hbL HLAY
            go_wp2_with fail
            refine HFILL.out.mono ?_
            rintro e w3 ⟨rfl, hw3⟩
            have hrow3 := Row.new w2 5 (ints .u8 (filled (layed 2 (numsP C)) 64))
            rw [← hw3] at hrow3
            have hX3 : Ext w2 w3 := by rw [hw3]; exact (Ext.refl w2).alloc _
            obtain ⟨bF, hbF⟩ : ∃ z, z = w2.heap.size := ⟨_, rfl⟩
            rw [← hbF] at hrow3 ⊢
            have hlF : (hdrP C).bs.length = 64 := length_filled _ _ (by rw [HL4.out]; omega)
            obtain ⟨tH, htH⟩ : ∃ t : It, t = ⟨hdrP C, some ⟨bF, 0, none⟩, 64⟩ := ⟨_, rfl⟩
            have HTV := Lib.hid (show Value.agg #[.int .i64 0, .slice (some ⟨bF, 0, none⟩) 64 64, .int .u16 0] = .agg (itC tH).toArray by rw [htH]; unfold itC; dsimp only; rw [hlF]; rfl)
            have HXU3 := Lib.hid (HX.out.trans (HX2.out.trans hX3))
            have hO3 := (HO.out.ext (HX2.out.trans hX3)).ext ((Ext.refl w3).alloc (.cells (itC tH).toArray 37))
            have hXA := HXU3.out.alloc (.cells (itC tH).toArray 37)
            have hrH := Row.new w3 37 (itC tH)
            have hbd : O.length ≤ 11000 := by have := HLEN.out; omega
            obtain ⟨a4, c4, w4, hap4, ho4, hg4, ha4⟩ := run_append_s (P := Try.prog) _ u.heap.size 3 (by decide) 39 39 37 _ 40 Try.underlying39 infoPatZ rfl hO3.own (a := some ⟨w3.heap.size, 0, none⟩) (m := 1) 1 (news := itC tH) rfl hrH.sl0 (fun e => by cases e) (itC_one _) (by omega) (by omega) hXA.size
            have hownb : ∀ z, Value.ownBlock (.slice ao O.length c) = some z → u.heap.size ≤ z := fun z hz => by
              cases ao with
              | none => simp [Value.ownBlock] at hz
              | some a0 =>
                simp [Value.ownBlock] at hz
                subst hz
                exact (ownS_lt hO3.own a0 rfl).1
            have hX4 : Ext u w4 := Ext_grown hXA (Nat.le_refl _) hXA.size hg4 hownb
            have hI4 : ∀ t ∈ O ++ [tH], ItOK X u.heap.size w4 a4 t := fun t ht => by
              rcases List.mem_append.1 ht with ht | ht
              · exact (hO3.ok t ht).grown hg4 ha4
              · simp at ht
                subst ht
                refine ItOK.grown (ao := ao) (n := O.length) (c := c) ?_ hg4 ha4
                rw [htH]
                refine ⟨((hrow3.ext ((Ext.refl w3).alloc _)).sl0), ⟨Nat.le_of_eq hlF, by show 64 ≤ 9223372036854775807; decide⟩, ⟨isBytes_filled _ _ (isBytes_layed _ _), by show (0 : Int) ≤ 0; decide, by show (0 : Int) ≤ 65535; decide⟩, fun ad e => ?_⟩
                cases e
                refine ⟨.inr ?_, (hrow3.ext ((Ext.refl w3).alloc _)).lt, fun ad' e' => ?_⟩
                · show u.heap.size ≤ bF
                  rw [hbF]; exact (HX.out.trans HX2.out).size
                · have h1 := (ownS_lt HO.out.own ad' e').2
                  have h2 := HX2.out.size
                  show bF ≠ ad'.block
                  rw [hbF]; omega
            rw [show flat itC O ++ itC tH = flat itC (O ++ [tH]) by rw [flat_append]; show _ = _ ++ (itC tH ++ []); rw [List.append_nil]] at ho4
            have HI4 := Lib.hid hI4
            have HX4 := Lib.hid hX4
            have HOW4 := Lib.hid ho4
            have HA4 := Lib.hid hap4
            clear hO3 hXA hrH hownb hX4 hI4 ho4 hg4 ha4 hrow3 hX3 hw3 hbF hlF HFILL
            have hslp := part_sl HIP.out hb (Same.ofExt HA.out HX4.out) at' K (by rw [HILN.out]; exact HKK.out.1)
            have hpok := fun (v : World) (a' : Option Addr) (e : Ext u v) (ha : ∀ ad, a' = some ad → u.heap.size ≤ ad.block) => part_ok (lo' := u.heap.size) (v := v) (ao := a') HA.out HIP.out HIL.out HL.out.2.1 (Same.ofExt HA.out e) ha at' K
            have hmapP : ((IL.drop at').take K).map (·.p) = C := by
              rw [List.map_take, List.map_drop, HIL.out]
              exact HCC2.out
            obtain ⟨PI, hPI⟩ : ∃ z, z = (IL.drop at').take K := ⟨_, rfl⟩
            rw [← hPI] at hslp hpok hmapP
            have hPl : PI.length = K := by rw [hPI, List.length_take, List.length_drop, HILN.out]; have := HKK.out.1; omega
            obtain ⟨a5, c5, w5, hap5, ho5, hg5, ha5⟩ := run_append_s (P := Try.prog) w4 u.heap.size 3 (by decide) 39 39 37 _ 40 Try.underlying39 infoPatZ rfl HOW4.out (a := some ⟨b, off + at' * 3, none⟩) (m := K) (cap - at') (news := flat itC PI) (by rw [flat_length itC_len, hPl]) hslp (fun e => by cases e) (flat_one itC_one _) (by omega) (by omega) HX4.out.size
            have hX5 : Ext u w5 := Ext_grown HX4.out (Nat.le_refl _) HX4.out.size hg5 (fun z hz => by
              have h4 := ownS_lt HOW4.out
              cases a4 with
              | none => simp [Value.ownBlock] at hz
              | some a0 =>
                simp [Value.ownBlock] at hz
                subst hz
                exact (h4 a0 rfl).1)
            have hN5 : (O ++ [tH] ++ PI).length = O.length + 1 + K := by rw [List.length_append, List.length_append, hPl]; rfl
            have hO5 : OutAt X u.heap.size w5 a5 c5 (O ++ [tH] ++ PI) := by
              refine ⟨?_, fun t ht => ?_⟩
              · rw [hN5, flat_append]
                exact ho5
              · rcases List.mem_append.1 ht with ht | ht
                · exact (HI4.out t ht).grown hg5 ha5
                · exact hpok w5 a5 hX5 (fun ad e => (ownS_lt ho5 ad e).1) t ht
            have hM5 : (O ++ [tH] ++ PI).map (·.p) = chunksP L (j + 1) := by
              rw [HSUCC.out, List.map_append, List.map_append, HMAP.out, hmapP, htH]
              simp
            have HO5 := Lib.hid hO5
            have HM5 := Lib.hid hM5
            have HN5 := Lib.hid hN5
            have HX5 := Lib.hid hX5
            have HBJ := Lib.hid (show at' + 15 = 15 * (j + 1) ∧ j + 1 ≤ (m + 14) / 15 ∧ (O ++ [tH] ++ PI).length ≤ 16 * (j + 1) from ⟨by have := HAT.out; omega, by have := HAT.out; omega, by rw [hN5]; have := HLEN.out; omega⟩)
            clear hslp hpok hmapP hPI hPl ho5 hg5 ha5 hX5 hN5 hO5 hM5 htH hbd
            go_wp2_with (first
              | (refine wpList_onePat rfl _ rfl tH HTV.out ?_)
              | (at_builtin; refine Guard.wpList_append_want _ rfl _ _ _ _ rfl _ _ rfl rfl _ _ hap4 ?_)
              | (at_builtin; refine Guard.wpList_append_want _ rfl _ _ _ _ rfl _ _ rfl rfl _ _ hap5 ?_))
            go_roundw
            case rel => exact ⟨j + 1, at' + 15, O ++ [tH] ++ PI, a5, c5, HBJ.out.1, HBJ.out.2.1, by go_num, by rw [HN5.out], HO5.out, HM5.out, HBJ.out.2.2, HX5.out⟩
            case measure => simp [intOf]; omega
    · have hjq : j = (m + 14) / 15 := by have := HAT.out; have := HLEN.out; omega
      have HM3 := Lib.hid (show O.map (·.p) = chunksP L ((L.length + 14) / 15) by rw [HMAP.out, hjq, HL.out.1])
      have HLO := Lib.hid (show O.length ≤ 20000 by have := HLEN.out; omega)
      clear hjq
      go_wp2_with fail
      obtain ⟨wc, rfl⟩ : ∃ z, z = wr := ⟨_, rfl⟩
      go_loopw [65] (fun v wf => ∃ (k : Nat) (O' : List It), k ≤ O.length ∧ O'.length = O.length ∧ (∀ i, O'[i]? = (O[i]?).map fun t => if i < k then t.at_ f i else t) ∧ v = .int .i64 k ∧ OutAt X u.heap.size wf ao c O' ∧ Ext u wf) (fun v _ => O.length - (intOf v).toNat)
      case atStart => exact ⟨0, O, by omega, rfl, fun i => by simp, rfl, HO.out, HX.out⟩
      case round =>
        obtain ⟨k, O', hk, hl, hat, rfl, hO', hX'⟩ := hrel
        have HL' := Lib.hid hl
        have HAT' := Lib.hid hat
        have HO' := Lib.hid hO'
        have HX' := Lib.hid hX'
        have c1 := ((HJ.out.ext hX').cell? 1).trans rfl
        clear hl hat hO' hX'
        by_cases hlk : k < O.length
        · have hkO : k < O'.length := by rw [HL'.out]; exact hlk
          have hown := HO'.out.own
          obtain ⟨go, rfl, hgo, _, hth⟩ := ownS_elem itC_len hown rfl hkO
          obtain ⟨t0, hfz⟩ := hth 0 (by decide)
          obtain ⟨old, hold⟩ := Option.isSome_iff_exists.1 t0
          rw [Nat.add_zero] at hold hfz
          have hset := ownS_set1 (k := k * 3) hown (.int .i64 (f + 1 + k))
          rw [flat_set1 O' k hkO (f + 1 + k)] at hset
          have HSET := Lib.hid hset
          have hBy := By.set wr go (k * 3) (.int .i64 (f + 1 + k))
          have hO2 : OutAt X u.heap.size (wr.setCell ⟨go, k * 3, none⟩ (.int .i64 (f + 1 + k))) (some ⟨go, 0, none⟩) c (O'.set k { O'[k] with p := { O'[k].p with sec := f + 1 + k } }) := by
            refine ⟨by rw [List.length_set]; exact HSET.out, fun t ht => ?_⟩
            have key : ∀ t ∈ O', ItOK X u.heap.size (wr.setCell ⟨go, k * 3, none⟩ (.int .i64 (f + 1 + k))) (some ⟨go, 0, none⟩) t := fun t ht => by
              obtain ⟨h1, h2, h3, h4⟩ := HO'.out.ok t ht
              exact ⟨sl_kept h1 (fun ad e => hBy.block _ (h4 ad e).2.1 (by have := (h4 ad e).2.2 _ rfl; simpa using this)), h2, h3, fun ad e => ⟨(h4 ad e).1, Nat.lt_of_lt_of_le (h4 ad e).2.1 hBy.size, (h4 ad e).2.2⟩⟩
            rcases List.mem_or_eq_of_mem_set ht with ht | rfl
            · exact key t ht
            · obtain ⟨h1, h2, h3, h4⟩ := key _ (List.getElem_mem hkO)
              exact ⟨h1, h2, h3, h4⟩
          have hat2 : ∀ i, (O'.set k { O'[k] with p := { O'[k].p with sec := f + 1 + k } })[i]? = (O[i]?).map fun t => if i < k + 1 then t.at_ f i else t := fun i => by
            have hk1 := HAT'.out k
            rw [List.getElem?_eq_getElem hkO, List.getElem?_eq_getElem hlk] at hk1
            simp at hk1
            rw [List.getElem?_set]
            by_cases e : k = i
            · subst e
              rw [if_pos rfl, if_pos hkO, List.getElem?_eq_getElem hlk, hk1]
              simp [It.at_, atP]
            · rw [if_neg e, HAT'.out i]
              congr 1
              funext t
              by_cases h : i < k
              · rw [if_pos h, if_pos (by omega)]
              · rw [if_neg h, if_neg (by omega)]
          have HO2 := Lib.hid hO2
          have HAT2 := Lib.hid hat2
          have HX2 := Lib.hid (Ext.setCell HX'.out (p := ⟨go, k * 3, none⟩) hgo (.int .i64 (f + 1 + k)))
          have HN2 := Lib.hid (show (O'.set k { O'[k] with p := { O'[k].p with sec := f + 1 + k } }).length = O.length by rw [List.length_set]; exact HL'.out)
          have hlen2 : (k : Int) < O.length := by omega
          have hkb : (k : Int) ≤ 20000 := by have := HLO.out; omega
          clear hown hset hBy hO2 hat2 t0 hth
          go_wp2_with fail
          go_roundw
          case rel => exact ⟨k + 1, _, hlk, HN2.out, HAT2.out, by go_num, HO2.out, HX2.out⟩
          case measure => simp [intOf]; omega
        · obtain rfl : k = O.length := by omega
          have HFIN := Lib.hid (show O'.map (·.p) = layP f L by
            unfold layP
            rw [← HM3.out]
            apply List.ext_getElem?
            intro i
            rw [List.getElem?_map, HAT'.out i, List.getElem?_mapIdx, List.getElem?_map]
            by_cases h : i < O.length
            · rw [List.getElem?_eq_getElem h]; simp [h, It.at_]
            · rw [List.getElem?_eq_none (by omega)]; rfl)
          clear hlk hk c1
          go_wp2
          go_ret
          exact ⟨ao, c, O', by rw [HL'.out]; rfl, HO'.out, HFIN.out, HX'.out⟩
end Go.Proofs.Ytfodpphbdbeciaa.Jn
