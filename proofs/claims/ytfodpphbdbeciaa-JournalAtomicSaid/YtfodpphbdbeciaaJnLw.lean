/- JnLd; JnLw -/
import Derived.Test.YtfodpphbdbeciaaJnTg
import Derived.Test.YtfodpphbdbeciaaTakeP
import Derived.Test.YtfodpphbdbeciaaSplP
import Derived.Deep.DeepCutAuto
/- What lies in the journal's sectors: plain. -/
namespace Go.Proofs.Ytfodpphbdbeciaa.Jn
open Go.RowKit Words Mem Plain Ops Agg OwnS Dk
open Go.Proofs.Ytfodpphbdbeciaa.Field Go.Proofs.Ytfodpphbdbeciaa.Sum
set_option maxRecDepth 100000
set_option linter.ambiguousOpen false
set_option linter.unusedVariables false
set_option linter.unusedSimpArgs false

theorem chunkP_len (L : List PT) (j : Nat) : (chunkP L j).length = min 15 (L.length - 15 * j) := by unfold chunkP; rw [List.length_take, List.length_drop]
theorem chunksP_more (L : List PT) {i q : Nat} (hi : i < (chunksP L q).length) : ∀ d, (chunksP L (q + d))[i]? = (chunksP L q)[i]?
  | 0 => rfl
  | d + 1 => by
    rw [← Nat.add_assoc, chunksP_succ, List.getElem?_append_left (by rw [chunksP_length]; rw [chunksP_length] at hi; omega)]
    exact chunksP_more L hi d
theorem chunksP_hdr {L : List PT} {j q : Nat} (h : 15 * j < L.length) (hq : j < q) : (chunksP L q)[16 * j]? = some (hdrP (chunkP L j)) := by
  obtain ⟨d, rfl⟩ : ∃ d, q = j + 1 + d := ⟨q - j - 1, by omega⟩
  rw [chunksP_more L (by rw [chunksP_length]; omega) d, chunksP_succ, List.getElem?_append_right (by rw [chunksP_length]; omega), chunksP_length, show 16 * j - (j + min (15 * j) L.length) = 0 by omega]
  rfl
theorem chunksP_pat {L : List PT} {j q k : Nat} (h : 15 * j + k < L.length) (hk : k < 15) (hq : j < q) : (chunksP L q)[16 * j + 1 + k]? = some L[15 * j + k] := by
  obtain ⟨d, rfl⟩ : ∃ d, q = j + 1 + d := ⟨q - j - 1, by omega⟩
  rw [chunksP_more L (by rw [chunksP_length]; omega) d, chunksP_succ, List.getElem?_append_right (by rw [chunksP_length]; omega), chunksP_length, show 16 * j + 1 + k - (j + min (15 * j) L.length) = k + 1 by omega, List.getElem?_cons_succ]
  unfold chunkP
  rw [List.getElem?_take, if_pos hk, List.getElem?_drop, List.getElem?_eq_getElem h]
theorem layP_at {f : Int} {L : List PT} {i : Nat} {p : PT} (h : (chunksP L ((L.length + 14) / 15))[i]? = some p) : (layP f L)[i]? = some (atP f i p) := by
  unfold layP
  rw [List.getElem?_mapIdx, h]
  rfl
/-- The patches lie there. -/
def LiesP (D : Dsk) (f : Int) (L : List PT) : Prop := ∀ (k : Nat) (p : PT), (layP f L)[k]? = some p → readR D (f + 1 + k) = (p.bs, 0)
theorem LiesP.hdr {D : Dsk} {f : Int} {L : List PT} (h : LiesP D f L) {j : Nat} (hj : 15 * j < L.length) : readR D (f + 1 + (16 * j : Nat)) = (filled (layed 2 (numsP (chunkP L j))) 64, 0) :=
  h _ _ (layP_at (chunksP_hdr hj (by omega)))
theorem LiesP.pat {D : Dsk} {f : Int} {L : List PT} (h : LiesP D f L) {j k : Nat} (hj : 15 * j + k < L.length) (hk : k < 15) : readR D (f + 1 + (16 * j + 1 + k : Nat)) = (L[15 * j + k].bs, 0) :=
  by
  have := h _ _ (layP_at (f := f) (chunksP_pat hj hk (by omega)))
  exact this
theorem numsP_get : ∀ {L : List PT} {k : Nat} (h : k < L.length), (numsP L)[2 * k]? = some L[k].sec ∧ (numsP L)[2 * k + 1]? = some L[k].tag
  | p :: L, 0, h => ⟨rfl, rfl⟩
  | p :: L, k + 1, h => by
    have ih := numsP_get (L := L) (k := k) (by simpa using h)
    have e : numsP (p :: L) = p.sec :: p.tag :: numsP L := rfl
    rw [e, show 2 * (k + 1) = 2 * k + 1 + 1 by omega, show 2 * k + 1 + 1 + 1 = (2 * k + 1) + 1 + 1 by omega]
    exact ih
/-- The numbers of a filled list. -/
theorem take_filled {l : List Int} {i : Nat} (h : i < l.length) (hl : l.length ≤ 32) (hb : ∀ x ∈ l, 0 ≤ x ∧ x ≤ 65535) : (takenL 2 (filled (layed 2 l) 64) 32)[i]? = some l[i] := by
  rw [getElem_takenL _ _ _ _ (by omega)]
  have e : ((filled (layed 2 l) 64).drop (2 * i)).take 2 = ((layed 2 l).drop (2 * i)).take 2 := by
    unfold filled
    rw [List.drop_append_of_le_length (by rw [length_layed]; omega), List.take_append_of_le_length (by rw [List.length_drop, length_layed]; omega)]
  rw [e, drop_layed 2 l i h]
  have := hb _ (List.getElem_mem h)
  rw [numOf_bytesOf_of 2 _ this.1 (by rw [p2]; omega)]
theorem lies_nums {L : List PT} {j k : Nat} (hb : ∀ p ∈ L, 0 ≤ p.sec ∧ p.sec ≤ 65535 ∧ 0 ≤ p.tag ∧ p.tag ≤ 65535) (h : 15 * j + k < L.length) (hk : k < 15) :
    (takenL 2 (filled (layed 2 (numsP (chunkP L j))) 64) 32)[2 * k]? = some L[15 * j + k].sec ∧ (takenL 2 (filled (layed 2 (numsP (chunkP L j))) 64) 32)[2 * k + 1]? = some L[15 * j + k].tag := by
  have hc := chunkP_len L j
  have hi : k < (chunkP L j).length := by omega
  have e : (chunkP L j)[k] = L[15 * j + k] := by
    have h2 : (chunkP L j)[k]? = L[15 * j + k]? := by
      unfold chunkP
      rw [List.getElem?_take, if_pos hk, List.getElem?_drop]
    rw [List.getElem?_eq_getElem hi, List.getElem?_eq_getElem h] at h2
    exact Option.some.inj h2
  have hn : (numsP (chunkP L j)).length ≤ 32 := by rw [numsP_len]; omega
  have hbb : ∀ x ∈ numsP (chunkP L j), 0 ≤ x ∧ x ≤ 65535 := fun x hx => by
    obtain ⟨p, hp, hx⟩ := List.mem_flatMap.1 hx
    have := hb p (List.mem_of_mem_drop (List.mem_of_mem_take hp))
    simp at hx
    rcases hx with rfl | rfl
    · exact ⟨this.1, this.2.1⟩
    · exact this.2.2
  have hg := numsP_get hi
  have h0 : 2 * k < (numsP (chunkP L j)).length := by rw [numsP_len]; omega
  have h1 : 2 * k + 1 < (numsP (chunkP L j)).length := by rw [numsP_len]; omega
  rw [e] at hg
  rw [take_filled h0 hn hbb, take_filled h1 hn hbb, ← List.getElem?_eq_getElem h0, ← List.getElem?_eq_getElem h1]
  exact hg
theorem hdr_len (L : List PT) (j : Nat) : (filled (layed 2 (numsP (chunkP L j))) 64).length = 64 := length_filled _ _ (by rw [length_layed, numsP_len, chunkP_len]; omega)
theorem hdr_bytes (L : List PT) (j : Nat) : isBytes (filled (layed 2 (numsP (chunkP L j))) 64) := isBytes_filled _ _ (isBytes_layed _ _)
end Go.Proofs.Ytfodpphbdbeciaa.Jn
/- (*Journal).laid (printed by gen_jnlw.py). -/
namespace Go.Proofs.Ytfodpphbdbeciaa.Jn
open Go.RowKit Words Mem Plain Ops Agg OwnS Dk
open Go.Proofs.Ytfodpphbdbeciaa.Field Go.Proofs.Ytfodpphbdbeciaa.Sum
set_option maxRecDepth 100000
set_option linter.ambiguousOpen false
set_option linter.unusedVariables false
set_option linter.unusedSimpArgs false

set_option maxHeartbeats 16000000 in
theorem laid_ok {w0 u : World} {g gs sc gj : Nat} {X : Nat → Prop} {D : Dsk} {s : Int} {f n : Nat} (hA : AtM w0 g gs sc D X u) (hj : Row u gj 67 (jRow g f n s)) (hf : f ≤ 100000) (hn : n ≤ 100000) (L : List PT) (m : Nat) (hm : L.length = m) (hm4 : m ≤ 4096)
    (hL : ∀ p ∈ L, p.wf ∧ 0 ≤ p.sec ∧ p.sec ≤ 65535 ∧ outB D.secs.length f n p.sec = true ∧ p.bs.length = 64) (hlies : LiesP D f L) :
    Calls Try.prog 29 #[.pointer (some ⟨gj, 0, none⟩), .int .i64 m] u fun e w' => ∃ ao c O, e = .returned (.tuple #[.slice ao O.length c, .bool true]) ∧ OutAt (fun _ => False) u.heap.size w' ao c O ∧ O.map (·.p) = L ∧ Ext u w' := by
  have HA := Lib.hid hA
  have HJ := Lib.hid hj
  have HL := Lib.hid hL
  have HM := Lib.hid hm
  have HLIES := Lib.hid hlies
  have HREAD := Lib.hid (fun (v : World) (e : Ext u v) (i : Int) => read_ok (hA.ext e) (hj.ext e) i)
  have HOUT := Lib.hid (fun (v : World) (e : Ext u v) (i : Int) => outside_ok (hA.ext e) (hj.ext e) (by omega) (by omega) i)
  have c1 := (hj.cell? 1).trans rfl
  clear hA hj hL hm hlies
  go_enter Try.func29, Try.ntmps29
  go_wp2_with fail
  clear c1
  go_loopw [6, 7] (fun ov av wr => ∃ (j : Nat) (O : List It) (ao : Option Addr) (c : Nat), 15 * j ≤ m + 14 ∧ ov = .slice ao O.length c ∧ O.length = min (15 * j) m ∧ av = .int .i64 ((f : Int) + 1 + (j + O.length : Nat)) ∧ OutAt (fun _ => False) u.heap.size wr ao c O ∧ O.map (·.p) = L.take (15 * j) ∧ Ext u wr) (fun _ av _ => 1000000 - (intOf av).toNat)
  case atStart => exact ⟨0, [], none, 0, by omega, rfl, by simp, by go_num, ⟨ownS_nil _ _ _ _, fun t ht => by cases ht⟩, by simp, Ext.refl _⟩
  case round =>
    obtain ⟨j, O, ao, c, hj15, rfl, hOl, rfl, hO, hmap, hX⟩ := hrel
    have HO := Lib.hid hO
    have HMAP := Lib.hid hmap
    have HX := Lib.hid hX
    have HOL := Lib.hid hOl
    clear hO hmap hX hOl
    by_cases hlt : 15 * j < m
    · have hol : O.length = 15 * j := by have := HOL.out; omega
      have hhdr := HLIES.out.hdr (j := j) (by rw [HM.out]; exact hlt)
      have hrd := HREAD.out wr HX.out ((f : Int) + 1 + (16 * j : Nat))
      rw [hhdr] at hrd
      dsimp only at hrd
      have hB := hdr_bytes L j
      have hBl := hdr_len L j
      have HNUM := Lib.hid (show ∀ k (h : 15 * j + k < L.length), k < 15 → (takenL 2 (filled (layed 2 (numsP (chunkP L j))) 64) 32)[2 * k]? = some L[15 * j + k].sec ∧ (takenL 2 (filled (layed 2 (numsP (chunkP L j))) 64) 32)[2 * k + 1]? = some L[15 * j + k].tag from fun k h hk => lies_nums (fun p hp => by
        have := HL.out p hp
        exact ⟨this.2.1, this.2.2.1, this.1.2⟩) h hk)
      generalize filled (layed 2 (numsP (chunkP L j))) 64 = B at *
      obtain ⟨ln, hln⟩ : ∃ z, z = O.length := ⟨_, rfl⟩
      rw [← hln]
      rw [← hln] at hol
      subst hol
      have hatE : ((f : Int) + 1 + (j + 15 * j : Nat)) = (f : Int) + 1 + (16 * j : Nat) := by omega
      rw [hatE]
      rw [hBl] at hrd
      have HRD := Lib.hid hrd
      have HB := Lib.hid hB
      have HBL := Lib.hid hBl
      have hjm : ((15 * j : Nat) : Int) < m := by omega
      obtain ⟨tj, htj⟩ : ∃ z, z = 15 * j := ⟨_, rfl⟩
      obtain ⟨av, hav⟩ : ∃ z : Int, z = (f : Int) + 1 + (16 * j : Nat) := ⟨_, rfl⟩
      rw [← htj] at hjm hln ⊢
      rw [← hav] at HRD ⊢
      have HLN := Lib.hid hln
      have HTJ := Lib.hid htj
      have HAV := Lib.hid hav
      clear hhdr hrd hB hBl hatE hln htj hav
      go_wp2_with fail
      refine HRD.out.mono ?_
      rintro e w2 ⟨a2, c2, rfl, ho2, h2⟩
      have hcap2 := ownS_cap ho2
      have HTAKE := Lib.hid (Take_yes a2 64 c2 2 32 B w2 (by decide) (by decide) HBL.out (by decide) rfl HB.out (ownS_sl ho2) hcap2.1 hcap2.2)
      have HX2 := Lib.hid (HX.out.trans h2)
      have HXR2 := Lib.hid h2
      clear ho2 h2 hcap2 HRD
      go_wp2_with fail
      refine HTAKE.out.mono ?_
      rintro e w3 ⟨a3, c3, rfl, ho3, h3⟩
      rw [length_takenL] at ho3 ⊢
      obtain ⟨bn, rfl, hcn, hbn⟩ : ∃ bn, a3 = some ⟨bn, 0, none⟩ ∧ (∀ t (x : Int), (takenL 2 B 32)[t]? = some x → w3.cell? ⟨bn, t, none⟩ = some (.int .u64 x)) ∧ w2.heap.size ≤ bn := by
        rcases ownS_cases ho3 with ⟨_, h, _⟩ | ⟨bn, M, e, hb, hM, _, _, _, hMt⟩
        · omega
        · refine ⟨bn, e, fun t x hx => ?_, hb⟩
          have ht : t < 32 := by
            have := (List.getElem?_eq_some_iff.1 hx).1
            rw [length_takenL] at this; exact this
          rw [hM.cell?]
          have h1 : (M.take (32 * 1))[t]? = some (.int .u64 x) := by rw [hMt, ints_getElem?, hx]; rfl
          rw [List.getElem?_take, if_pos (by omega)] at h1
          exact h1
      have HCN := Lib.hid hcn
      have HX3 := Lib.hid (HX2.out.trans h3)
      have HAB := Lib.hid (show ∀ ad, ao = some ad → ad.block ≠ bn from fun ad e => by
        have h1 := (ownS_lt HO.out.own ad e).2
        have h2 := HXR2.out.size
        omega)
      have HBL2 := Lib.hid (show bn < w3.heap.size from (ownS_lt ho3 _ rfl).2)
      have HO3 := Lib.hid (HO.out.ext ((show Ext wr w3 from Ext.trans HXR2.out h3)))
      clear hcn h3 ho3 HTAKE HX2 hbn HXR2
      go_upto_region 6 with fail
      obtain ⟨KN, hKN⟩ : ∃ KN : Nat, KN = min 15 (m - tj) := ⟨_, rfl⟩
      have HK := Lib.hid (show 1 ≤ KN ∧ KN ≤ 15 ∧ tj + KN ≤ m ∧ (KN = 15 ∨ tj + KN = m) from by
        have := HTJ.out
        omega)
      rw [show (if (m : Int) - tj < 15 then (m : Int) - tj else 15) = (KN : Int) from by
        have := HTJ.out
        split <;> omega]
      have hK15 : KN ≤ 15 := HK.out.2.1
      clear hKN
      obtain ⟨wc, rfl⟩ : ∃ z, z = wr := ⟨_, rfl⟩
      go_wp2_with fail
      go_loopw [35, 6] (fun v ov wl => ∃ (i : Nat) (P : List It) (ap : Option Addr) (cp : Nat), i ≤ KN ∧ v = .int .i64 i ∧ ov = .slice ap P.length cp ∧ P.length = tj + i ∧ OutAt (fun _ => False) u.heap.size wl ap cp P ∧ P.map (·.p) = L.take (tj + i) ∧ Ext u wl ∧ (∀ t (x : Int), (takenL 2 B 32)[t]? = some x → wl.cell? ⟨bn, t, none⟩ = some (.int .u64 x)) ∧ (∀ ad, ap = some ad → ad.block ≠ bn) ∧ bn < wl.heap.size) (fun v _ _ => KN - (intOf v).toNat)
      case atStart => exact ⟨0, O, ao, c, by omega, rfl, by rw [← HLN.out], by rw [← HLN.out]; rfl, HO3.out, by have := HMAP.out; rw [HTJ.out]; exact this, HX3.out, HCN.out, HAB.out, HBL2.out⟩
      case round =>
        obtain ⟨i, P, ap, cp, hiK, rfl, rfl, hPl, hP, hPm, hXi, hCi, hAi, hBi⟩ := hrel
        have HPL := Lib.hid hPl
        have HP := Lib.hid hP
        have HPM := Lib.hid hPm
        have HXI := Lib.hid hXi
        have HCI := Lib.hid hCi
        have HAI := Lib.hid hAi
        have HBI := Lib.hid hBi
        clear hPl hP hPm hXi hCi hAi hBi
        by_cases hlk : i < KN
        · have hti : 15 * j + i < L.length := by rw [HM.out]; have := HK.out; have := HTJ.out; omega
          have hnum := HNUM.out i hti (by omega)
          have hpat := HLIES.out.pat (j := j) (k := i) hti (by omega)
          have hgood := HL.out _ (List.getElem_mem hti)
          have HTS := Lib.hid (show L.take (tj + (i + 1)) = L.take (tj + i) ++ [L[15 * j + i]] by
            have e : tj + i = 15 * j + i := by rw [HTJ.out]
            rw [← Nat.add_assoc, e, List.take_succ_eq_append_getElem hti])
          have q0 := HCI.out _ _ hnum.1
          have q1 := HCI.out _ _ hnum.2
          generalize L[15 * j + i] = pt at *
          obtain ⟨ps, pb, ptg⟩ := pt
          dsimp only at hgood q0 q1 hpat
          have HRDP := Lib.hid (show ∀ v, Ext u v → Calls Try.prog 39 #[.pointer (some ⟨gj, 0, none⟩), .int .i64 (av + 1 + i)] v fun e w' => ∃ a c, e = .returned (.slice a 64 c) ∧ w'.ownsRow v.heap.size 5 1 (.slice a 64 c) 64 (ints .u8 pb) ∧ Ext v w' from fun v hv => by
            have h := HREAD.out v hv ((f : Int) + 1 + (16 * j + 1 + i : Nat))
            rw [hpat] at h
            dsimp only at h
            rw [hgood.2.2.2.2] at h
            rw [show av + 1 + (i : Int) = (f : Int) + 1 + (16 * j + 1 + i : Nat) by rw [HAV.out]; omega]
            exact h)
          have HG := Lib.hid hgood
          have hil : (i : Int) < 15 := by omega
          have hiK' : (i : Int) < KN := by omega
          have hzp := zeroPatch
          have hav0 : (0 : Int) ≤ av ∧ av ≤ 300000 := by have := HAV.out; have := HTJ.out; omega
          have hps : 0 ≤ ps ∧ ps ≤ 65535 := ⟨hgood.2.1, hgood.2.2.1⟩
          have hpt : 0 ≤ ptg ∧ ptg ≤ 65535 := hgood.1.2
          obtain ⟨t2, ht2⟩ : ∃ z, z = 2 * i := ⟨_, rfl⟩
          obtain ⟨t3, ht3⟩ : ∃ z, z = 2 * i + 1 := ⟨_, rfl⟩
          rw [← ht2] at q0
          rw [← ht3] at q1
          have Q0 := Lib.hid q0
          have Q1 := Lib.hid q1
          have HW2 := Lib.hid (show IntKind.i64.wrap (2 * (i : Int)) = (t2 : Int) ∧ (t2 : Int) < 32 from ⟨by rw [IntWalk.i64_in _ (by omega)]; omega, by omega⟩)
          have HW3 := Lib.hid (show IntKind.i64.wrap ((t2 : Int) + 1) = (t3 : Int) ∧ (t3 : Int) < 32 from ⟨by rw [IntWalk.i64_in _ (by omega)]; omega, by omega⟩)
          have HCV := Lib.hid (show IntKind.i64.wrap ps = ps ∧ IntKind.u16.wrap ptg = ptg ∧ IntKind.i64.wrap (av + 1) = av + 1 ∧ IntKind.i64.wrap (av + 1 + i) = av + 1 + i from ⟨IntWalk.i64_in _ (by omega), IntWalk.u16_in _ (by omega), IntWalk.i64_in _ (by omega), IntWalk.i64_in _ (by omega)⟩)
          clear ht2 ht3
          clear hti hnum hpat hgood q0 q1
          go_upto_region 9 with fail
          refine wp_region_held_drew (S := (fun v => Ext wr v)) (by kernel_rfl) ((Ext.refl _).drew) (fun hHeld => ?_)
          generalize wr.drew = v5 at *
          refine takeD (i := 0) (v := ?_) rfl rfl (by kernel_rfl) (by kernel_rfl) (by kernel_rfl) (fun _ _ _ h => h) (Or.inl ⟨by rfl, ?_⟩) hHeld ?_
          rotate_left
          · (intro v hv; (have q0 := hv.keep Q0.out; have q1 := hv.keep Q1.out; obtain ⟨hw2, hw2b⟩ := HW2.out; obtain ⟨hw3, hw3b⟩ := HW3.out; obtain ⟨hcv1, hcv2, hcv3, hcv4⟩ := HCV.out); go_simp; try (with_reducible rfl))
          (try simp only [List.setIfInBounds_toArray, List.set_cons_zero, List.set_cons_succ])
          refine takeD (i := 1) (v := ?_) rfl rfl (by kernel_rfl) (by kernel_rfl) (by kernel_rfl) (fun _ _ _ h => h) (Or.inl ⟨by rfl, ?_⟩) hHeld ?_
          rotate_left
          · (intro v hv; (have q0 := hv.keep Q0.out; have q1 := hv.keep Q1.out; obtain ⟨hw2, hw2b⟩ := HW2.out; obtain ⟨hw3, hw3b⟩ := HW3.out; obtain ⟨hcv1, hcv2, hcv3, hcv4⟩ := HCV.out); go_simp; try (with_reducible rfl))
          (try simp only [List.setIfInBounds_toArray, List.set_cons_zero, List.set_cons_succ])
          refine takeD (i := 2) (v := ?_) rfl rfl (by kernel_rfl) (by kernel_rfl) (by kernel_rfl) (fun _ _ _ h => h) (Or.inl ⟨by rfl, ?_⟩) hHeld ?_
          rotate_left
          · (intro v hv; (have q0 := hv.keep Q0.out; have q1 := hv.keep Q1.out; obtain ⟨hw2, hw2b⟩ := HW2.out; obtain ⟨hw3, hw3b⟩ := HW3.out; obtain ⟨hcv1, hcv2, hcv3, hcv4⟩ := HCV.out); go_simp; try (with_reducible rfl))
          (try simp only [List.setIfInBounds_toArray, List.set_cons_zero, List.set_cons_succ])
          refine takeD (i := 3) (v := ?_) rfl rfl (by kernel_rfl) (by kernel_rfl) (by kernel_rfl) (fun _ _ _ h => h) (Or.inl ⟨by rfl, ?_⟩) hHeld ?_
          rotate_left
          · (intro v hv; (have q0 := hv.keep Q0.out; have q1 := hv.keep Q1.out; obtain ⟨hw2, hw2b⟩ := HW2.out; obtain ⟨hw3, hw3b⟩ := HW3.out; obtain ⟨hcv1, hcv2, hcv3, hcv4⟩ := HCV.out); go_simp; try (with_reducible rfl))
          (try simp only [List.setIfInBounds_toArray, List.set_cons_zero, List.set_cons_succ])
          refine takeD (i := 4) (v := ?_) rfl rfl (by kernel_rfl) (by kernel_rfl) (by kernel_rfl) (fun _ _ _ h => h) (Or.inl ⟨by rfl, ?_⟩) hHeld ?_
          rotate_left
          · (intro v hv; (have q0 := hv.keep Q0.out; have q1 := hv.keep Q1.out; obtain ⟨hw2, hw2b⟩ := HW2.out; obtain ⟨hw3, hw3b⟩ := HW3.out; obtain ⟨hcv1, hcv2, hcv3, hcv4⟩ := HCV.out); go_simp; try (with_reducible rfl))
          (try simp only [List.setIfInBounds_toArray, List.set_cons_zero, List.set_cons_succ])
          refine takeD (i := 5) (v := ?_) rfl rfl (by kernel_rfl) (by kernel_rfl) (by kernel_rfl) (fun _ _ _ h => h) (Or.inl ⟨by rfl, ?_⟩) hHeld ?_
          rotate_left
          · (intro v hv; (have q0 := hv.keep Q0.out; have q1 := hv.keep Q1.out; obtain ⟨hw2, hw2b⟩ := HW2.out; obtain ⟨hw3, hw3b⟩ := HW3.out; obtain ⟨hcv1, hcv2, hcv3, hcv4⟩ := HCV.out); go_simp; try (with_reducible rfl))
          (try simp only [List.setIfInBounds_toArray, List.set_cons_zero, List.set_cons_succ])
          refine takeD (i := 6) (v := ?_) rfl rfl (by kernel_rfl) (by kernel_rfl) (by kernel_rfl) (fun _ _ _ h => h) (Or.inl ⟨by rfl, ?_⟩) hHeld ?_
          rotate_left
          · (intro v hv; (have q0 := hv.keep Q0.out; have q1 := hv.keep Q1.out; obtain ⟨hw2, hw2b⟩ := HW2.out; obtain ⟨hw3, hw3b⟩ := HW3.out; obtain ⟨hcv1, hcv2, hcv3, hcv4⟩ := HCV.out); go_simp; try (with_reducible rfl))
          (try simp only [List.setIfInBounds_toArray, List.set_cons_zero, List.set_cons_succ])
          refine takeD (i := 7) (v := ?_) rfl rfl (by kernel_rfl) (by kernel_rfl) (by kernel_rfl) (fun _ _ _ h => h) (Or.inl ⟨by rfl, ?_⟩) hHeld ?_
          rotate_left
          · (intro v hv; (have q0 := hv.keep Q0.out; have q1 := hv.keep Q1.out; obtain ⟨hw2, hw2b⟩ := HW2.out; obtain ⟨hw3, hw3b⟩ := HW3.out; obtain ⟨hcv1, hcv2, hcv3, hcv4⟩ := HCV.out); go_simp; try (with_reducible rfl))
          (try simp only [List.setIfInBounds_toArray, List.set_cons_zero, List.set_cons_succ])
          refine takeD (i := 8) (v := ?_) rfl rfl (by kernel_rfl) (by kernel_rfl) (by kernel_rfl) (fun _ _ _ h => h) (Or.inl ⟨by rfl, ?_⟩) hHeld ?_
          rotate_left
          · (intro v hv; (have q0 := hv.keep Q0.out; have q1 := hv.keep Q1.out; obtain ⟨hw2, hw2b⟩ := HW2.out; obtain ⟨hw3, hw3b⟩ := HW3.out; obtain ⟨hcv1, hcv2, hcv3, hcv4⟩ := HCV.out); go_simp; try (with_reducible rfl))
          (try simp only [List.setIfInBounds_toArray, List.set_cons_zero, List.set_cons_succ])
          refine takeD (i := 9) (v := ?_) rfl rfl (by kernel_rfl) (by kernel_rfl) (by kernel_rfl) (fun _ _ _ h => h) (Or.inl ⟨by rfl, ?_⟩) hHeld ?_
          rotate_left
          · (intro v hv; (have q0 := hv.keep Q0.out; have q1 := hv.keep Q1.out; obtain ⟨hw2, hw2b⟩ := HW2.out; obtain ⟨hw3, hw3b⟩ := HW3.out; obtain ⟨hcv1, hcv2, hcv3, hcv4⟩ := HCV.out); go_simp; try (with_reducible rfl))
          (try simp only [List.setIfInBounds_toArray, List.set_cons_zero, List.set_cons_succ])
          refine takeD (i := 10) (v := ?_) rfl rfl (by kernel_rfl) (by kernel_rfl) (by kernel_rfl) (fun _ _ _ h => h) (Or.inl ⟨by rfl, ?_⟩) hHeld ?_
          rotate_left
          · (intro v hv; (have q0 := hv.keep Q0.out; have q1 := hv.keep Q1.out; obtain ⟨hw2, hw2b⟩ := HW2.out; obtain ⟨hw3, hw3b⟩ := HW3.out; obtain ⟨hcv1, hcv2, hcv3, hcv4⟩ := HCV.out); go_simp; try (with_reducible rfl))
          (try simp only [List.setIfInBounds_toArray, List.set_cons_zero, List.set_cons_succ])
          refine takeD (i := 12) (v := ?_) rfl rfl (by kernel_rfl) (by kernel_rfl) (by kernel_rfl) (fun _ _ _ h => h) (Or.inl ⟨by rfl, ?_⟩) hHeld ?_
          rotate_left
          · (intro v hv; (have q0 := hv.keep Q0.out; have q1 := hv.keep Q1.out; obtain ⟨hw2, hw2b⟩ := HW2.out; obtain ⟨hw3, hw3b⟩ := HW3.out; obtain ⟨hcv1, hcv2, hcv3, hcv4⟩ := HCV.out); go_simp; try (with_reducible rfl))
          (try simp only [List.setIfInBounds_toArray, List.set_cons_zero, List.set_cons_succ])
          refine takeD (i := 13) (v := ?_) rfl rfl (by kernel_rfl) (by kernel_rfl) (by kernel_rfl) (fun _ _ _ h => h) (Or.inl ⟨by rfl, ?_⟩) hHeld ?_
          rotate_left
          · (intro v hv; (have q0 := hv.keep Q0.out; have q1 := hv.keep Q1.out; obtain ⟨hw2, hw2b⟩ := HW2.out; obtain ⟨hw3, hw3b⟩ := HW3.out; obtain ⟨hcv1, hcv2, hcv3, hcv4⟩ := HCV.out); go_simp; try (with_reducible rfl))
          (try simp only [List.setIfInBounds_toArray, List.set_cons_zero, List.set_cons_succ])
          refine takeD (i := 14) (v := ?_) rfl rfl (by kernel_rfl) (by kernel_rfl) (by kernel_rfl) (fun _ _ _ h => h) (Or.inl ⟨by rfl, ?_⟩) hHeld ?_
          rotate_left
          · (intro v hv; (have q0 := hv.keep Q0.out; have q1 := hv.keep Q1.out; obtain ⟨hw2, hw2b⟩ := HW2.out; obtain ⟨hw3, hw3b⟩ := HW3.out; obtain ⟨hcv1, hcv2, hcv3, hcv4⟩ := HCV.out); go_simp; try (with_reducible rfl))
          (try simp only [List.setIfInBounds_toArray, List.set_cons_zero, List.set_cons_succ])
          refine takeD (i := 15) (v := ?_) rfl rfl (by kernel_rfl) (by kernel_rfl) (by kernel_rfl) (fun _ _ _ h => h) (Or.inl ⟨by rfl, ?_⟩) hHeld ?_
          rotate_left
          · (intro v hv; (have q0 := hv.keep Q0.out; have q1 := hv.keep Q1.out; obtain ⟨hw2, hw2b⟩ := HW2.out; obtain ⟨hw3, hw3b⟩ := HW3.out; obtain ⟨hcv1, hcv2, hcv3, hcv4⟩ := HCV.out); go_simp; try (with_reducible rfl))
          (try simp only [List.setIfInBounds_toArray, List.set_cons_zero, List.set_cons_succ])
          refine takeD (i := 16) (v := ?_) rfl rfl (by kernel_rfl) (by kernel_rfl) (by kernel_rfl) (fun _ _ _ h => h) (Or.inl ⟨by rfl, ?_⟩) hHeld ?_
          rotate_left
          · (intro v hv; (have q0 := hv.keep Q0.out; have q1 := hv.keep Q1.out; obtain ⟨hw2, hw2b⟩ := HW2.out; obtain ⟨hw3, hw3b⟩ := HW3.out; obtain ⟨hcv1, hcv2, hcv3, hcv4⟩ := HCV.out); go_simp; try (with_reducible rfl))
          (try simp only [List.setIfInBounds_toArray, List.set_cons_zero, List.set_cons_succ])
          refine takeD (i := 17) (v := ?_) rfl rfl (by kernel_rfl) (by kernel_rfl) (by kernel_rfl) (fun _ _ _ h => h) (Or.inl ⟨by rfl, ?_⟩) hHeld ?_
          rotate_left
          · (intro v hv; (have q0 := hv.keep Q0.out; have q1 := hv.keep Q1.out; obtain ⟨hw2, hw2b⟩ := HW2.out; obtain ⟨hw3, hw3b⟩ := HW3.out; obtain ⟨hcv1, hcv2, hcv3, hcv4⟩ := HCV.out); go_simp; try (with_reducible rfl))
          (try simp only [List.setIfInBounds_toArray, List.set_cons_zero, List.set_cons_succ])
          refine takeD (i := 18) (v := ?_) rfl rfl (by kernel_rfl) (by kernel_rfl) (by kernel_rfl) (fun _ _ _ h => h) (Or.inl ⟨by rfl, ?_⟩) hHeld ?_
          rotate_left
          · (intro v hv; (have q0 := hv.keep Q0.out; have q1 := hv.keep Q1.out; obtain ⟨hw2, hw2b⟩ := HW2.out; obtain ⟨hw3, hw3b⟩ := HW3.out; obtain ⟨hcv1, hcv2, hcv3, hcv4⟩ := HCV.out); go_simp; try (with_reducible rfl))
          (try simp only [List.setIfInBounds_toArray, List.set_cons_zero, List.set_cons_succ])
          refine wpAnyH_ready (rs := [11, 20]) (by kernel_rfl) (by simp) ?_
          refine AllReadyH.cons rfl (fun K hK => ?_) (AllReadyH.cons rfl (fun K hK => ?_) AllReadyH.nil)
          · go_simp
            refine (HRDP.out _ (HXI.out.trans hHeld)).mono ?_
            rintro e v6 ⟨a5, c5, rfl, ho5, h5⟩
            have HO5 := Lib.hid ho5
            have HS5 := Lib.hid hHeld.size
            have HS6 := Lib.hid (hHeld.trans h5).size
            have HX5 := Lib.hid h5
            refine hK.out _ _ (hHeld.trans h5) (fun hHeld => ?_)
            clear hK ho5 h5
            refine takeD (i := 19) (v := ?_) rfl rfl (by kernel_rfl) (by kernel_rfl) (by kernel_rfl) (fun _ _ _ h => h) (Or.inl ⟨by rfl, ?_⟩) hHeld ?_
            rotate_left
            · (intro v hv; (have q0 := hv.keep Q0.out; have q1 := hv.keep Q1.out; obtain ⟨hw2, hw2b⟩ := HW2.out; obtain ⟨hw3, hw3b⟩ := HW3.out; obtain ⟨hcv1, hcv2, hcv3, hcv4⟩ := HCV.out); go_simp; try (with_reducible rfl))
            (try simp only [List.setIfInBounds_toArray, List.set_cons_zero, List.set_cons_succ])
            refine wpAnyH_ready (rs := [20]) (by kernel_rfl) (by simp) ?_
            refine AllReadyH.cons rfl (fun K hK => ?_) AllReadyH.nil
            go_simp
            obtain ⟨gp, hgp⟩ : ∃ z, z = v6.heap.size := ⟨_, rfl⟩
            obtain ⟨v7, hv7⟩ : ∃ z, z = v6.alloc (.cells #[.int .i64 0, .slice none 0 0, .int .u16 0] 37) := ⟨_, rfl⟩
            have hr7 := Row.new v6 37 [.int .i64 0, .slice none 0 0, .int .u16 0]
            have h67 := (Ext.refl v6).alloc (.cells #[.int .i64 0, .slice none 0 0, .int .u16 0] 37)
            have hr7 : Row v7 gp 37 [.int .i64 0, .slice none 0 0, .int .u16 0] := by rw [hv7, hgp]; exact hr7
            rw [← hv7] at h67 ⊢
            rw [← hgp]
            have HR7 := Lib.hid hr7
            have HGP := Lib.hid (show wr.heap.size ≤ gp by rw [hgp]; exact hHeld.size)
            have HGQ := Lib.hid hgp
            have HX67 := Lib.hid h67
            refine hK.out _ _ (hHeld.trans h67) (fun hHeld => ?_)
            clear hK hr7 h67 hgp hv7
            have H57 := Lib.hid (ownS_ext HO5.out HX67.out)
            have HN5 := Lib.hid (show ∀ ad, a5 = some ad → ad.block ≠ gp from fun ad e => by have := (ownS_lt HO5.out ad e).2; have := HGQ.out; omega)
            refine wpAnyH_ready (rs := [21]) (by kernel_rfl) (by simp) ?_
            refine AllReadyH.cons rfl (fun K hK => ?_) AllReadyH.nil
            first | rw [if_pos (by rfl)] | skip
            refine store_rowN _ _ _ rfl rfl gp #[.int .i64 ps, .slice a5 64 c5, .int .u16 ptg] rfl rfl 37 _ HR7.out infoPatch rfl (by simp [Value.oneCell']) ?_
            have hr8 := HR7.out.setRow #[.int .i64 ps, .slice a5 64 c5, .int .u16 ptg]
            have hxr : Ext wr (v7.setRow gp #[.int .i64 ps, .slice a5 64 c5, .int .u16 ptg]) := hHeld.setRow HGP.out _
            have h8o : ∀ k, k ≠ gp → (v7.setRow gp #[.int .i64 ps, .slice a5 64 c5, .int .u16 ptg]).heap[k]? = v7.heap[k]? := fun k hk => setRow_other _ _ _ _ hk
            have h8s : v7.heap.size ≤ (v7.setRow gp #[.int .i64 ps, .slice a5 64 c5, .int .u16 ptg]).heap.size := Nat.le_of_eq (Agg.size_setRow _ _ _).symm
            refine hK.out _ _ hxr (fun hHeld => ?_)
            have HR8 := Lib.hid hr8
            have H5C := Lib.hid (ownS_cap HO5.out)
            have H5S := Lib.hid (sl_kept (w' := v7.setRow gp #[.int .i64 ps, .slice a5 64 c5, .int .u16 ptg]) (ownS_sl H57.out) (fun ad e => h8o _ (HN5.out ad e)))
            have H5B := Lib.hid (show ∀ ad, a5 = some ad → wr.heap.size ≤ ad.block ∧ ad.block < (v7.setRow gp #[.int .i64 ps, .slice a5 64 c5, .int .u16 ptg]).heap.size from fun ad e => ⟨Nat.le_trans HS5.out (ownS_lt H57.out ad e).1, Nat.lt_of_lt_of_le (ownS_lt H57.out ad e).2 h8s⟩)
            generalize v7.setRow gp #[.int .i64 ps, .slice a5 64 c5, .int .u16 ptg] = v8 at *
            clear hK hr8 hxr h8o h8s
            refine wpAnyH_done (by kernel_rfl) ?_ _
            have HXR8 := Lib.hid hHeld
            clear hHeld
            have HOU := Lib.hid (HOUT.out v8 (HXI.out.trans HXR8.out) ps)
            rw [show outB D.secs.length f n ps = true from HG.out.2.2.2.1] at HOU
            have r0 := (HR8.out.cell? 0).trans rfl
            go_wp2_with fail
            refine HOU.out.mono ?_
            rintro e v9 ⟨rfl, h9⟩
            have HXR9 := Lib.hid (HXR8.out.trans h9)
            obtain ⟨t1, ht1⟩ : ∃ t : It, t = ⟨⟨ps, pb, ptg⟩, a5, c5⟩ := ⟨_, rfl⟩
            have HT1V := Lib.hid (show Value.agg #[.int .i64 ps, .slice a5 64 c5, .int .u16 ptg] = .agg (itC t1).toArray by rw [ht1]; unfold itC; dsimp only; rw [HG.out.2.2.2.2])
            have hP9 := (HP.out.ext HXR9.out).ext ((Ext.refl v9).alloc (.cells (itC t1).toArray 37))
            have hXA := (HXI.out.trans HXR9.out).alloc (.cells (itC t1).toArray 37)
            have hXB := HXR9.out.alloc (.cells (itC t1).toArray 37)
            have hrH := Row.new v9 37 (itC t1)
            have hPlen : P.length ≤ 1000000 := by have := HPL.out; have := HK.out; omega
            obtain ⟨a9, c9, w9, hap, ho9, hg9, ha9⟩ := run_append_s (P := Try.prog) _ u.heap.size 3 (by decide) 39 39 37 _ 40 Try.underlying39 infoPatZ rfl hP9.own (a := some ⟨v9.heap.size, 0, none⟩) (m := 1) 1 (news := itC t1) rfl hrH.sl0 (fun e => by cases e) (itC_one _) (by omega) (by omega) hXA.size
            have hX9 : Ext u w9 := by
              refine Ext_grown (base := u.heap.size) hXA (Nat.le_refl _) hXA.size hg9 (fun z hz => ?_)
              have hown := ownS_lt HP.out.own
              cases ap with
              | none => simp [Value.ownBlock] at hz
              | some a0 =>
                simp [Value.ownBlock] at hz
                subst hz
                exact (hown a0 rfl).1
            have hbn : bn < (v9.alloc (.cells (itC t1).toArray 37)).heap.size := Nat.lt_of_lt_of_le HBI.out hXB.size
            have hIT : ∀ vz, Ext v8 vz → ItOK (fun _ => False) u.heap.size vz ap t1 := fun vz hx6 => by
              rw [ht1]
              refine ⟨(H5S.out.ext hx6 : Sl _ a5 (ints .u8 pb)), ⟨by show pb.length ≤ c5; rw [HG.out.2.2.2.2]; exact H5C.out.1, H5C.out.2⟩, HG.out.1, fun ad e => ?_⟩
              have hl5 := H5B.out ad e
              refine ⟨.inr (Nat.le_trans HXI.out.size hl5.1), Nat.lt_of_lt_of_le hl5.2 hx6.size, fun ad' e' => ?_⟩
              have h1 := (ownS_lt HP.out.own ad' e').2
              have := hl5.1
              omega
            have hI9 : ∀ t ∈ P ++ [t1], ItOK (fun _ => False) u.heap.size w9 a9 t := fun t ht => by
              rcases List.mem_append.1 ht with ht | ht
              · exact (hP9.ok t ht).grown hg9 ha9
              · rw [List.mem_singleton.1 ht]
                exact ItOK.grown (ao := ap) (n := P.length) (c := cp) (hIT _ (h9.alloc _)) hg9 ha9
            have HO9 := Lib.hid (show OutAt (fun _ => False) u.heap.size w9 a9 c9 (P ++ [t1]) from ⟨by rw [List.length_append, flat_append]; rw [show flat itC [t1] = itC t1 ++ [] from rfl, List.append_nil]; exact ho9, hI9⟩)
            have HX9 := Lib.hid hX9
            have HM9 := Lib.hid (show (P ++ [t1]).map (·.p) = L.take (tj + (i + 1)) by rw [List.map_append, HPM.out, HTS.out, ht1]; rfl)
            have HC9 := Lib.hid (show ∀ t (x : Int), (takenL 2 B 32)[t]? = some x → w9.cell? ⟨bn, t, none⟩ = some (.int .u64 x) from fun t x hx => by
              rw [World.cell?_of_block (w := v9.alloc (.cells (itC t1).toArray 37)) (hg9.block bn hbn (fun e => by
                cases ap with
                | none => simp [Value.ownBlock] at e
                | some a0 =>
                  simp [Value.ownBlock] at e
                  exact HAI.out a0 rfl e.symm))]
              exact hXB.keep (HCI.out t x hx))
            have HA9 := Lib.hid (show ∀ ad, a9 = some ad → ad.block ≠ bn from fun ad e => by
              rcases ha9 with h | h
              · rw [h] at e; exact HAI.out ad e
              · have h1 := h ad e
                omega)
            have HB9 := Lib.hid (show bn < w9.heap.size from Nat.lt_of_lt_of_le hbn hg9.size)
            have HL9 := Lib.hid (show (P ++ [t1]).length = tj + (i + 1) by rw [List.length_append, HPL.out]; rfl)
            have p0 := ((HR8.out.ext h9).cell? 0).trans rfl
            have p1 := ((HR8.out.ext h9).cell? 1).trans rfl
            have p2 := ((HR8.out.ext h9).cell? 2).trans rfl
            clear hP9 hXA hXB hrH hX9 hIT hI9 ho9 hg9 ha9 ht1 h9 hbn hPlen r0 hps hpt hav0
            go_wp2_with (first
              | (refine wpList_onePat rfl _ rfl t1 HT1V.out ?_)
              | (at_builtin; refine Guard.wpList_append_want _ rfl _ _ _ _ rfl _ _ rfl rfl _ _ hap ?_))
            go_roundw
            case rel => exact ⟨i + 1, P ++ [t1], a9, c9, hlk, by go_num, by rw [List.length_append]; rfl, HL9.out, HO9.out, HM9.out, HX9.out, HC9.out, HA9.out, HB9.out⟩
            case measure => simp [intOf]; omega
          · go_simp
            obtain ⟨gp, hgp⟩ : ∃ z, z = v5.heap.size := ⟨_, rfl⟩
            obtain ⟨v6, hv7⟩ : ∃ z, z = v5.alloc (.cells #[.int .i64 0, .slice none 0 0, .int .u16 0] 37) := ⟨_, rfl⟩
            have hr7 := Row.new v5 37 [.int .i64 0, .slice none 0 0, .int .u16 0]
            have h67 := (Ext.refl v5).alloc (.cells #[.int .i64 0, .slice none 0 0, .int .u16 0] 37)
            have hr7 : Row v6 gp 37 [.int .i64 0, .slice none 0 0, .int .u16 0] := by rw [hv7, hgp]; exact hr7
            rw [← hv7] at h67 ⊢
            rw [← hgp]
            have HR7 := Lib.hid hr7
            have HGP := Lib.hid (show wr.heap.size ≤ gp by rw [hgp]; exact hHeld.size)
            have HGQ := Lib.hid hgp
            have HX67 := Lib.hid h67
            refine hK.out _ _ (hHeld.trans h67) (fun hHeld => ?_)
            clear hK hr7 h67 hgp hv7
            refine wpAnyH_ready (rs := [11]) (by kernel_rfl) (by simp) ?_
            refine AllReadyH.cons rfl (fun K hK => ?_) AllReadyH.nil
            go_simp
            refine (HRDP.out _ (HXI.out.trans hHeld)).mono ?_
            rintro e v7 ⟨a5, c5, rfl, ho5, h5⟩
            have HO5 := Lib.hid ho5
            have HS5 := Lib.hid hHeld.size
            have HS6 := Lib.hid (hHeld.trans h5).size
            have HX5 := Lib.hid h5
            refine hK.out _ _ (hHeld.trans h5) (fun hHeld => ?_)
            clear hK ho5 h5
            have H57 := Lib.hid HO5.out
            have HN5 := Lib.hid (show ∀ ad, a5 = some ad → ad.block ≠ gp from fun ad e => by have := (ownS_lt HO5.out ad e).1; have := HR7.out.lt; omega)
            have HR7 := Lib.hid (HR7.out.ext HX5.out)
            refine takeD (i := 19) (v := ?_) rfl rfl (by kernel_rfl) (by kernel_rfl) (by kernel_rfl) (fun _ _ _ h => h) (Or.inl ⟨by rfl, ?_⟩) hHeld ?_
            rotate_left
            · (intro v hv; (have q0 := hv.keep Q0.out; have q1 := hv.keep Q1.out; obtain ⟨hw2, hw2b⟩ := HW2.out; obtain ⟨hw3, hw3b⟩ := HW3.out; obtain ⟨hcv1, hcv2, hcv3, hcv4⟩ := HCV.out); go_simp; try (with_reducible rfl))
            (try simp only [List.setIfInBounds_toArray, List.set_cons_zero, List.set_cons_succ])
            refine wpAnyH_ready (rs := [21]) (by kernel_rfl) (by simp) ?_
            refine AllReadyH.cons rfl (fun K hK => ?_) AllReadyH.nil
            first | rw [if_pos (by rfl)] | skip
            refine store_rowN _ _ _ rfl rfl gp #[.int .i64 ps, .slice a5 64 c5, .int .u16 ptg] rfl rfl 37 _ HR7.out infoPatch rfl (by simp [Value.oneCell']) ?_
            have hr8 := HR7.out.setRow #[.int .i64 ps, .slice a5 64 c5, .int .u16 ptg]
            have hxr : Ext wr (v7.setRow gp #[.int .i64 ps, .slice a5 64 c5, .int .u16 ptg]) := hHeld.setRow HGP.out _
            have h8o : ∀ k, k ≠ gp → (v7.setRow gp #[.int .i64 ps, .slice a5 64 c5, .int .u16 ptg]).heap[k]? = v7.heap[k]? := fun k hk => setRow_other _ _ _ _ hk
            have h8s : v7.heap.size ≤ (v7.setRow gp #[.int .i64 ps, .slice a5 64 c5, .int .u16 ptg]).heap.size := Nat.le_of_eq (Agg.size_setRow _ _ _).symm
            refine hK.out _ _ hxr (fun hHeld => ?_)
            have HR8 := Lib.hid hr8
            have H5C := Lib.hid (ownS_cap HO5.out)
            have H5S := Lib.hid (sl_kept (w' := v7.setRow gp #[.int .i64 ps, .slice a5 64 c5, .int .u16 ptg]) (ownS_sl H57.out) (fun ad e => h8o _ (HN5.out ad e)))
            have H5B := Lib.hid (show ∀ ad, a5 = some ad → wr.heap.size ≤ ad.block ∧ ad.block < (v7.setRow gp #[.int .i64 ps, .slice a5 64 c5, .int .u16 ptg]).heap.size from fun ad e => ⟨Nat.le_trans HS5.out (ownS_lt H57.out ad e).1, Nat.lt_of_lt_of_le (ownS_lt H57.out ad e).2 h8s⟩)
            generalize v7.setRow gp #[.int .i64 ps, .slice a5 64 c5, .int .u16 ptg] = v8 at *
            clear hK hr8 hxr h8o h8s
            refine wpAnyH_done (by kernel_rfl) ?_ _
            have HXR8 := Lib.hid hHeld
            clear hHeld
            have HOU := Lib.hid (HOUT.out v8 (HXI.out.trans HXR8.out) ps)
            rw [show outB D.secs.length f n ps = true from HG.out.2.2.2.1] at HOU
            have r0 := (HR8.out.cell? 0).trans rfl
            go_wp2_with fail
            refine HOU.out.mono ?_
            rintro e v9 ⟨rfl, h9⟩
            have HXR9 := Lib.hid (HXR8.out.trans h9)
            obtain ⟨t1, ht1⟩ : ∃ t : It, t = ⟨⟨ps, pb, ptg⟩, a5, c5⟩ := ⟨_, rfl⟩
            have HT1V := Lib.hid (show Value.agg #[.int .i64 ps, .slice a5 64 c5, .int .u16 ptg] = .agg (itC t1).toArray by rw [ht1]; unfold itC; dsimp only; rw [HG.out.2.2.2.2])
            have hP9 := (HP.out.ext HXR9.out).ext ((Ext.refl v9).alloc (.cells (itC t1).toArray 37))
            have hXA := (HXI.out.trans HXR9.out).alloc (.cells (itC t1).toArray 37)
            have hXB := HXR9.out.alloc (.cells (itC t1).toArray 37)
            have hrH := Row.new v9 37 (itC t1)
            have hPlen : P.length ≤ 1000000 := by have := HPL.out; have := HK.out; omega
            obtain ⟨a9, c9, w9, hap, ho9, hg9, ha9⟩ := run_append_s (P := Try.prog) _ u.heap.size 3 (by decide) 39 39 37 _ 40 Try.underlying39 infoPatZ rfl hP9.own (a := some ⟨v9.heap.size, 0, none⟩) (m := 1) 1 (news := itC t1) rfl hrH.sl0 (fun e => by cases e) (itC_one _) (by omega) (by omega) hXA.size
            have hX9 : Ext u w9 := by
              refine Ext_grown (base := u.heap.size) hXA (Nat.le_refl _) hXA.size hg9 (fun z hz => ?_)
              have hown := ownS_lt HP.out.own
              cases ap with
              | none => simp [Value.ownBlock] at hz
              | some a0 =>
                simp [Value.ownBlock] at hz
                subst hz
                exact (hown a0 rfl).1
            have hbn : bn < (v9.alloc (.cells (itC t1).toArray 37)).heap.size := Nat.lt_of_lt_of_le HBI.out hXB.size
            have hIT : ∀ vz, Ext v8 vz → ItOK (fun _ => False) u.heap.size vz ap t1 := fun vz hx6 => by
              rw [ht1]
              refine ⟨(H5S.out.ext hx6 : Sl _ a5 (ints .u8 pb)), ⟨by show pb.length ≤ c5; rw [HG.out.2.2.2.2]; exact H5C.out.1, H5C.out.2⟩, HG.out.1, fun ad e => ?_⟩
              have hl5 := H5B.out ad e
              refine ⟨.inr (Nat.le_trans HXI.out.size hl5.1), Nat.lt_of_lt_of_le hl5.2 hx6.size, fun ad' e' => ?_⟩
              have h1 := (ownS_lt HP.out.own ad' e').2
              have := hl5.1
              omega
            have hI9 : ∀ t ∈ P ++ [t1], ItOK (fun _ => False) u.heap.size w9 a9 t := fun t ht => by
              rcases List.mem_append.1 ht with ht | ht
              · exact (hP9.ok t ht).grown hg9 ha9
              · rw [List.mem_singleton.1 ht]
                exact ItOK.grown (ao := ap) (n := P.length) (c := cp) (hIT _ (h9.alloc _)) hg9 ha9
            have HO9 := Lib.hid (show OutAt (fun _ => False) u.heap.size w9 a9 c9 (P ++ [t1]) from ⟨by rw [List.length_append, flat_append]; rw [show flat itC [t1] = itC t1 ++ [] from rfl, List.append_nil]; exact ho9, hI9⟩)
            have HX9 := Lib.hid hX9
            have HM9 := Lib.hid (show (P ++ [t1]).map (·.p) = L.take (tj + (i + 1)) by rw [List.map_append, HPM.out, HTS.out, ht1]; rfl)
            have HC9 := Lib.hid (show ∀ t (x : Int), (takenL 2 B 32)[t]? = some x → w9.cell? ⟨bn, t, none⟩ = some (.int .u64 x) from fun t x hx => by
              rw [World.cell?_of_block (w := v9.alloc (.cells (itC t1).toArray 37)) (hg9.block bn hbn (fun e => by
                cases ap with
                | none => simp [Value.ownBlock] at e
                | some a0 =>
                  simp [Value.ownBlock] at e
                  exact HAI.out a0 rfl e.symm))]
              exact hXB.keep (HCI.out t x hx))
            have HA9 := Lib.hid (show ∀ ad, a9 = some ad → ad.block ≠ bn from fun ad e => by
              rcases ha9 with h | h
              · rw [h] at e; exact HAI.out ad e
              · have h1 := h ad e
                omega)
            have HB9 := Lib.hid (show bn < w9.heap.size from Nat.lt_of_lt_of_le hbn hg9.size)
            have HL9 := Lib.hid (show (P ++ [t1]).length = tj + (i + 1) by rw [List.length_append, HPL.out]; rfl)
            have p0 := ((HR8.out.ext h9).cell? 0).trans rfl
            have p1 := ((HR8.out.ext h9).cell? 1).trans rfl
            have p2 := ((HR8.out.ext h9).cell? 2).trans rfl
            clear hP9 hXA hXB hrH hX9 hIT hI9 ho9 hg9 ha9 ht1 h9 hbn hPlen r0 hps hpt hav0
            go_wp2_with (first
              | (refine wpList_onePat rfl _ rfl t1 HT1V.out ?_)
              | (at_builtin; refine Guard.wpList_append_want _ rfl _ _ _ _ rfl _ _ rfl rfl _ _ hap ?_))
            go_roundw
            case rel => exact ⟨i + 1, P ++ [t1], a9, c9, hlk, by go_num, by rw [List.length_append]; rfl, HL9.out, HO9.out, HM9.out, HX9.out, HC9.out, HA9.out, HB9.out⟩
            case measure => simp [intOf]; omega
        · obtain rfl : i = KN := by omega
          have HATN := Lib.hid (show av + ((i : Int) + 1) = (f : Int) + 1 + ((j + 1) + P.length : Nat) by have := HAV.out; have := HPL.out; have := HTJ.out; omega)
          have HPN := Lib.hid (show P.length = min (15 * (j + 1)) m by have := HPL.out; have := HTJ.out; have := HK.out; omega)
          have HMN := Lib.hid (show P.map (·.p) = L.take (15 * (j + 1)) by
            rw [HPM.out]
            rcases HK.out.2.2.2 with h | h
            · rw [show 15 * (j + 1) = tj + i by have := HTJ.out; omega]
            · rw [List.take_of_length_le (by rw [HM.out]; omega), List.take_of_length_le (by rw [HM.out]; have := HTJ.out; have := HK.out; omega)])
          have hav0 : (0 : Int) ≤ av ∧ av ≤ 300000 := by have := HAV.out; have := HTJ.out; omega
          have hwa : IntKind.i64.wrap (av + ((i : Int) + 1)) = av + ((i : Int) + 1) := IntWalk.i64_in _ (by omega)
          have hjn : 15 * (j + 1) ≤ m + 14 := by have := HTJ.out; omega
          go_wp2_with fail
          go_roundw
          case rel => exact ⟨j + 1, P, ap, cp, hjn, rfl, HPN.out, by rw [← HATN.out], HP.out, HMN.out, HXI.out⟩
          case measure =>
            have := HAV.out
            have := HTJ.out
            simp [intOf]; omega
    · have hol : O.length = m := by have := HOL.out; omega
      have HM2 := Lib.hid (show O.map (·.p) = L by have := HMAP.out; rw [List.take_of_length_le (by rw [HM.out]; omega)] at this; exact this)
      have hnl : ¬ ((O.length : Int) < m) := by omega
      clear hol
      go_wp2
      go_ret2
      exact ⟨ao, c, O, rfl, HO.out, HM2.out, HX.out⟩
end Go.Proofs.Ytfodpphbdbeciaa.Jn
