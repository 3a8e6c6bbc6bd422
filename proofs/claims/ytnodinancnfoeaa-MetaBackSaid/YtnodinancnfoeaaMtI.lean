/- meta.inodes. -/
import Derived.Test.YtnodinancnfoeaaMtOwn
import Derived.Test.YtnodinancnfoeaaITake
import Derived.Great.BuildSlice
namespace Go.Proofs.Ytnodinancnfoeaa.Mt
open Go.RowKit Words Mem Plain Ops Agg OwnS Intern Ino
open Go.Proofs.Ytnodinancnfoeaa.Field
set_option linter.ambiguousOpen false
set_option linter.unusedVariables false
set_option linter.unusedSimpArgs false

/-- The halves of sectors, one behind the other. -/
def chunk (L : List (List Int)) (m : Nat) : List Int := ((L.getD (m / 2) []).drop (32 * (m % 2))).take 32
noncomputable def inoAt (L : List (List Int)) (m : Nat) : Ino × Int := Ino.takeR (chunk L m)
noncomputable def inosN (L : List (List Int)) (m : Nat) : List Ino := (List.range m).map fun i => (inoAt L i).1
theorem inosN_succ (L : List (List Int)) (m : Nat) : inosN L (m + 1) = inosN L m ++ [(inoAt L m).1] := by
  unfold inosN; rw [List.range_succ, List.map_append]; rfl
theorem inosN_len (L : List (List Int)) (m : Nat) : (inosN L m).length = m := by simp [inosN]

theorem fill_oneIno (n : Ino) : Instr.fill (fun i => some (i * 14, 14)) ((Array.range (1 * 14)).map ((Value.agg Ino.zero.cs).cells[· % (Value.agg Ino.zero.cs).cells.size]!)) [(0, .agg n.cs)] = some n.cs := by
  kernel_rfl
theorem wpList_oneIno {ops : Array Oper} {rest : List Oper} {o : Oper} {a : Act} {w : World} {Q : Exit → Act → World → Prop} (hg : o.guard = none) (u : Operand) (ho : o.op = .buildSlice 27 1 #[(0, u)]) (n : Ino) (hx : a.eval u = .agg n.cs)
    (h : wpList Try.prog ops Q rest (a.put o.dst (.slice (some ⟨w.heap.size, 0, none⟩) 1 1)) (w.alloc (.cells n.cs 48))) : wpList Try.prog ops Q (o :: rest) a w := by
  obtain ⟨i, h2, h3, h4, h5⟩ := info_parts infoNC
  refine wpList_buildSlice hg 27 48 1 #[(0, u)] ho n.cs i _ Try.underlying27 h2 h3 (by rw [h4]; decide) (by rw [h4]; decide) ?_ h
  rw [h4]
  have e : ((#[(0, u)] : Array (Nat × Operand)).map fun (i, x) => (i, a.eval x)).toList = [(0, .agg n.cs)] := by simp [hx]
  rw [e]
  exact fill_oneIno n
set_option maxHeartbeats 8000000 in
set_option maxRecDepth 100000 in
theorem inodes_ok (a : Option Addr) (n cap : Nat) (L : List (List Int)) (w : World) (hL : LsIn w a n L) (h64 : ∀ xs ∈ L, xs.length = 64) (hn : n ≤ 100) :
    Calls Try.prog 43 #[.slice a n cap] w fun e w' => Ext w w' ∧ ((∃ ao c, e = .returned (.tuple #[.slice ao (2 * n) c, .bool true]) ∧ w'.ownsRow w.heap.size 48 14 (.slice ao (2 * n) c) (2 * n) (flat inoC (inosN L (2 * n))) ∧ ∀ m, m < 2 * n → (inoAt L m).2 = 0) ∨
      (e = .returned (.tuple #[.slice none 0 0, .bool false]) ∧ ∃ m, m < 2 * n ∧ (inoAt L m).2 ≠ 0)) := by
  have HL := Lib.hid hL
  have H64 := Lib.hid h64
  clear hL h64
  go_enter Try.func43, Try.ntmps43
  go_wp2
  go_loopw [12, 4] (fun v u wr => ∃ (k m c : Nat) (ao : Option Addr), k ≤ n ∧ m = 2 * k ∧ v = .int .i64 k ∧ u = .slice ao m c ∧ wr.ownsRow w.heap.size 48 14 (.slice ao m c) m (flat inoC (inosN L m)) ∧ Ext w wr ∧ ∀ q, q < m → (inoAt L q).2 = 0) (fun v _ _ => n - (intOf v).toNat)
  case atStart => exact ⟨0, 0, 0, none, by omega, rfl, rfl, rfl, ownS_nil _ _ _ _, Ext.refl _, fun q hq => absurd hq (by omega)⟩
  case round =>
    obtain ⟨k, m, c, ao, hk, hm, rfl, rfl, hown, hX, hok⟩ := hrel
    have HX := Lib.hid hX
    have HOWN := Lib.hid hown
    have HOK := Lib.hid hok
    have HM := Lib.hid hm
    clear hX hown hok hm
    by_cases hlt : k < n
    · have hkL : k < L.length := by rw [HL.out.1]; exact hlt
      obtain ⟨b, off, rfl, hi⟩ := HL.out.2 (by omega)
      obtain ⟨x, mm, cx, hc, hl, hle, hcm, hsx, hbx, _⟩ := hi k hkL
      have hl64 := H64.out _ (List.getElem_mem hkL)
      have hcell := HX.out.keep hc
      have HSX := Lib.hid hsx
      have HGD := Lib.hid (show L.getD k [] = L[k] by simp [hkL])
      generalize L[k] = xs at *
      obtain rfl : mm = 64 := by omega
      have HBX := Lib.hid (And.intro hl64 (And.intro hbx (And.intro hle hcm)))
      have hkn : (k : Int) < n := by omega
      clear hi hc hl hle hcm hsx hbx hl64 hkL
      go_wp2
      go_loopw [7, 4] (fun v u wi => ∃ (j at' m' c : Nat) (ao : Option Addr), j ≤ 2 ∧ at' = 32 * j ∧ m' = 2 * k + j ∧ v = .int .i64 at' ∧ u = .slice ao m' c ∧ wi.ownsRow w.heap.size 48 14 (.slice ao m' c) m' (flat inoC (inosN L m')) ∧ Ext w wi ∧ ∀ q, q < m' → (inoAt L q).2 = 0) (fun v _ _ => 64 - (intOf v).toNat)
      case atStart => exact ⟨0, 0, m, c, ao, by omega, by omega, by have := HM.out; omega, rfl, rfl, HOWN.out, HX.out, HOK.out⟩
      case round =>
        obtain ⟨j, at', m', c', ao', hj, hat, hm', rfl, rfl, hown, hX2, hok⟩ := hrel
        have HX2 := Lib.hid hX2
        have HOWN2 := Lib.hid hown
        have HOK2 := Lib.hid hok
        have HA := Lib.hid hat
        have HM2 := Lib.hid hm'
        have hat64 : at' ≤ 64 := by omega
        clear hX2 hown hok hat hm'
        by_cases hlj : at' < 64
        · have hch : chunk L m' = (xs.drop at').take 32 := by
            unfold chunk
            have e1 : m' / 2 = k := by have := HM2.out; have := HA.out; omega
            have e2 : 32 * (m' % 2) = at' := by have := HM2.out; have := HA.out; omega
            rw [e1, e2, HGD.out]
          have hslc := fun v : World => run_slice_mid (P := Try.prog) v 26 5 Try.underlying26 (by kernel_rfl) x 64 cx at' (at' + 32) .i64 .i64 at' ((at' : Int) + 32) rfl (by omega) (by omega) (by have := HBX.out; have := HA.out; omega)
          rw [show at' + 32 - at' = 32 by omega] at hslc
          have hwa : IntKind.i64.wrap ((at' : Int) + 32) = (at' : Int) + 32 := IntWalk.i64_in _ (by omega)
          have htk := Take_ino (cutA x cx at') 32 (cx - at') ((xs.drop at').take 32) wr (by rw [List.length_take, List.length_drop]; have := HBX.out.1; have := HA.out; omega) (by decide) (fun y hy => HBX.out.2.1 y (List.mem_of_mem_drop (List.mem_of_mem_take hy))) ((HSX.out.ext HX2.out).mid cx at' 32 (fun e => by have := HBX.out; omega)) (by have := HBX.out; have := HA.out; omega) (by have := HBX.out; omega)
          rw [← hch] at htk
          have HIA := Lib.hid (show inoAt L m' = Ino.takeR (chunk L m') from rfl)
          have HSUC := Lib.hid (inosN_succ L m')
          rw [← HIA.out] at htk
          have hal : (at' : Int) < 64 := by omega
          have hz := zeroIno
          generalize inoAt L m' = R at *
          obtain ⟨n1, code⟩ := R
          dsimp only at *
          clear hch
          generalize cutA x cx at' = xc at *
          generalize cx - at' = cc at *
          go_wp2_with fail
          refine htk.mono ?_
          rintro e w5 ⟨rfl, h5⟩
          obtain ⟨NC, hNC⟩ : ∃ z, z = n1.cs := ⟨_, rfl⟩
          have hns : NC.size = 14 := by rw [hNC]; rfl
          have h1c : NC.all (·.oneCell') = true := by rw [hNC]; exact oneIno _ _ _ _ _ _ _ _ _ _ _ _ _ _
          have hns2 : (Try.prog.info? 48).map (·.size) = some NC.size := by rw [hns]; exact Mt.infoIno
          have HI := Lib.hid (And.intro hns (And.intro h1c hns2))
          have r0 : Row (w5.alloc (.cells Ino.zero.cs 48)) w5.heap.size 48 (Ino.zero.cs).toList := Row.new w5 48 (Ino.zero.cs).toList
          have h6 : Ext wr ((w5.alloc (.cells Ino.zero.cs 48)).setRow w5.heap.size NC) := ((h5.alloc _).setRow h5.size NC)
          have r6 : Row ((w5.alloc (.cells Ino.zero.cs 48)).setRow w5.heap.size NC) w5.heap.size 48 NC.toList := r0.setRow NC
          obtain ⟨g5, hg5⟩ : ∃ z, z = w5.heap.size := ⟨_, rfl⟩
          have HR0 := Lib.hid r0
          dsimp only
          rw [show n1.v = .agg NC by rw [hNC]]
          have HNC := Lib.hid hNC
          clear hNC hns h1c hns2 r0
          obtain ⟨w6, hw6⟩ : ∃ z, z = (w5.alloc (.cells Ino.zero.cs 48)).setRow w5.heap.size NC := ⟨_, rfl⟩
          rw [← hw6] at h6 r6
          have HX6 := Lib.hid h6; have HR6 := Lib.hid r6
          have HW6 := Lib.hid hw6
          clear h6 r6 h5 htk hslc hw6 hg5 g5
          by_cases hcd : code = 0
          · subst hcd
            have hL6 := HR6.out
            obtain ⟨g5, hg5⟩ : ∃ z, z = w5.heap.size := ⟨_, rfl⟩
            have HG5 := Lib.hid hg5
            have hg6 : w6.heap[w5.heap.size]? = some (.cells NC 48 (0, 0)) := HR6.out
            have HG6 := Lib.hid hg6
            clear hg5 hL6 hg6
            have HX7 := Lib.hid (HX6.out.alloc (.cells n1.cs 48))
            have HO7 := Lib.hid (ownS_ext HOWN2.out HX7.out)
            have hrow7 : Row (w6.alloc (.cells n1.cs 48)) w6.heap.size 48 n1.cs.toList := Row.new w6 48 n1.cs.toList
            have hSl7 : Sl (w6.alloc (.cells n1.cs 48)) (some ⟨w6.heap.size, 0, none⟩) (inoC n1) := hrow7.sl0
            have hm' : m' < 2 * n := by have := HM2.out; have := HA.out; omega
            have hbs : w.heap.size ≤ (w6.alloc (.cells n1.cs 48)).heap.size := (HX2.out.trans HX7.out).size
            obtain ⟨a8, c8, w8, hap, ho8, hg8, _⟩ := run_append_s (P := Try.prog) (w6.alloc (.cells n1.cs 48)) w.heap.size 14 (by decide) 27 27 48 _ 104 Try.underlying27 infoNC rfl HO7.out (a := some ⟨w6.heap.size, 0, none⟩) (m := 1) 1 (news := inoC n1) rfl hSl7 (fun e => by cases e) (inoC_one _) (by omega) (by omega) hbs
            have hX8 : Ext w w8 := Ext_grown (HX2.out.trans HX7.out) (Nat.le_refl _) (HX2.out.trans HX7.out).size hg8 (fun z hz => by
              cases ao' with
              | none => simp [Value.ownBlock] at hz
              | some a0 =>
                simp [Value.ownBlock] at hz
                subst hz
                exact (ownS_lt HO7.out a0 rfl).1)
            rw [show flat inoC (inosN L m') ++ inoC n1 = flat inoC (inosN L (m' + 1)) by rw [HSUC.out, flat_append]; rw [show flat inoC [n1] = inoC n1 ++ [] from rfl, List.append_nil]] at ho8
            have HO8 := Lib.hid ho8
            have HX8 := Lib.hid hX8
            have HK8 := Lib.hid (show ∀ q, q < m' + 1 → (inoAt L q).2 = 0 from fun q hq => by
              by_cases hqm : q < m'
              · exact HOK2.out q hqm
              · rw [show q = m' by omega]
                show (Ino.takeR (chunk L m')).2 = 0
                rw [← HIA.out])
            rw [show (Value.slice (some ⟨w6.heap.size, 0, none⟩) 1 1) = (Value.slice (some ⟨w6.heap.size, 0, none⟩) 1 1) from rfl] at hap
            have hwq : IntKind.i64.wrap ((at' : Int) + 32) = (at' : Int) + 32 := hwa
            clear ho8 hX8 hg8 hbs hSl7 hrow7 hm'
            go_wp2_with (first
              | (refine wpList_store_row rfl _ _ _ rfl w5.heap.size NC rfl rfl 48 Ino.zero.cs HR0.out HI.out.2.2 HI.out.1.symm HI.out.2.1 ?_; rw [← HW6.out])
              | (refine wpList_load_row rfl 48 _ rfl w5.heap.size rfl 48 NC (0, 0) _ HG6.out Try.underlying48 rfl HI.out.2.2 ?_)
              | (refine wpList_oneIno rfl _ rfl n1 (congrArg Value.agg HNC.out) ?_)
              | (at_builtin; refine Guard.wpList_append_want _ rfl _ _ _ _ rfl _ _ rfl rfl _ _ hap ?_))
            go_roundw
            case rel => exact ⟨j + 1, at' + 32, m' + 1, c8, a8, by have := HA.out; omega, by have := HA.out; omega, by have := HM2.out; omega, by go_num, rfl, HO8.out, HX8.out, HK8.out⟩
            case measure => simp [intOf]; omega
          · have hcd' : (code != 0) = true := by simp [hcd]
            have HH := Lib.hid (show inoAt L m' = Ino.takeR (chunk L m') from rfl)
            have hm' : m' < 2 * n := by have := HM2.out; have := HA.out; omega
            have HBAD := Lib.hid (show ∃ m, m < 2 * n ∧ (inoAt L m).2 ≠ 0 from ⟨m', hm', by rw [HH.out, ← HIA.out]; exact hcd⟩)
            have HXE := Lib.hid (HX2.out.trans HX6.out)
            clear hm' hcd
            go_wp2_with (refine wpList_store_row rfl _ _ _ rfl w5.heap.size NC rfl rfl 48 Ino.zero.cs HR0.out HI.out.2.2 HI.out.1.symm HI.out.2.1 ?_; rw [← HW6.out])
            go_ret2
            exact ⟨HXE.out, .inr ⟨rfl, HBAD.out⟩⟩
        · have hj2 : j = 2 := by have := HA.out; omega
          have hm2 : m' = 2 * (k + 1) := by have := HM2.out; omega
          have HM4 := Lib.hid hm2
          have HXE := HX2
          have hat2 : at' = 64 := by omega
          clear hj2 hm2
          go_wp2
          go_roundw
          case rel => exact ⟨k + 1, m', c', ao', by omega, HM4.out, by go_num, rfl, HOWN2.out, HXE.out, HOK2.out⟩
          case measure => simp [intOf]; omega
    · have hkn : k = n := by omega
      have HM4 := Lib.hid (show m = 2 * n by have := HM.out; omega)
      clear hkn
      go_wp2
      go_ret2
      rw [← HM4.out]
      exact ⟨HX.out, .inl ⟨ao, c, rfl, HOWN.out, HOK.out⟩⟩
end Go.Proofs.Ytnodinancnfoeaa.Mt
