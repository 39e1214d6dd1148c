/- The reference's sound as the machine runs it: streams. Printed by gen_rsnd3.py. -/
import Derived.Test.YtkcdckcckpgliaaDoorRSndK
import Derived.Outline
namespace Go.Proofs.YtkcdckcckpgliaaDoor
open Go.RowKit Go.Shelf

set_option maxHeartbeats 6400000 in
set_option maxRecDepth 100000 in
theorem rsnd_9_good (D : Int) (hD2 : D ≤ 1000) (f : PO → Bool) (H : RSndAt (D - 1) f) (s : Bool) (o : PO) (v : Array Value) (w : World) (ho : ORd w o v) (hk : o.k = 9) (hD : 0 < D) (hb : bareB o false false true true true = true) (hkl : o.ks.length = o.l.length) (hs : s = true) (hdd : o.d.length ≤ 1048576) :
    Calls Tryd.prog 18 #[.agg v, .int .i64 D, .bool s] w fun e w' => e = .returned (.bool (keysB true [] o.ks && allB f o.l)) ∧ Below w.heap.size w w' := by
  obtain ⟨cs, hks, hkc, hkm, hl, hc, hlc, hlm, hd, hdc, hdm, htz, hkt⟩ := ho
  rename_i k n t ks l d Ak Al Ad ck cl cd
  obtain rfl : k = 9 := hk
  simp only [bareB, Bool.and_eq_true, Bool.or_eq_true, Bool.false_eq_true, false_or, or_true, true_or, true_and, and_true] at hb
  obtain ⟨h2, h3⟩ := hb
  subst hs
  obtain rfl := eq_of_beq h2
  have HKS := Lib.hid (fun W (h : Below w.heap.size w W) => hks.keep h); have HL := Lib.hid hl; have HC := Lib.hid hc; have HH := Lib.hid H; have HKT := Lib.hid hkt
  have HB := Lib.hid (fun X => below_alloc w X)
  simp only at *
  clear hks hl hc hd hkt H h2
  have hkl1 : ks.length ≤ l.length := by omega
  have hkl2 : l.length ≤ ks.length := by omega
  have HKL := Lib.hid hkl
  clear hkl
  generalize hrr : (keysB true [] ks && allB f l) = RR
  have HRR := Lib.hid hrr
  clear hrr
  generalize hr : allB f l = R at HRR
  have HRN := Lib.hid (fun h => hr ▸ allB_no f l h)
  have HRY := Lib.hid (fun h => hr ▸ allB_yes f l h)
  clear hr
  obtain ⟨X, hX⟩ : ∃ X, X = #[Value.int .i64 9, .int .i64 0, .string t, .slice Ak ks.length ck, .slice Al l.length cl, .slice Ad d.length cd] := ⟨_, rfl⟩
  have hX0 : X[0]? = some (.int .i64 9) := by rw [hX]; rfl
  have hX3 : X[3]? = some (.slice Ak ks.length ck) := by rw [hX]; rfl
  have hX4 : X[4]? = some (.slice Al l.length cl) := by rw [hX]; rfl
  rw [← hX]
  have HX := Lib.hid hX
  have c0 : (w.alloc (.cells X 26)).cell? ⟨w.heap.size, 0, none⟩ = some (.int .i64 9) := by rw [Lib.cell_of_heap (heap_alloc_new w _)]; exact hX0
  have c3 : (w.alloc (.cells X 26)).cell? ⟨w.heap.size, 3, none⟩ = some (.slice Ak ks.length ck) := by rw [Lib.cell_of_heap (heap_alloc_new w _)]; exact hX3
  have HC4 := Lib.hid (show (w.alloc (.cells X 26)).cell? ⟨w.heap.size, 4, none⟩ = some (.slice Al l.length cl) by rw [Lib.cell_of_heap (heap_alloc_new w _)]; exact hX4)
  clear hX hX0 hX3 hX4
  have hnum : IntKind.i64.wrap (D - 1) = D - 1 := by rw [IntKind.wrap_i64]; omega
  go_enter Tryd.func18, Tryd.ntmps18
  rw [HX.out]
  go_wp2_with fail
  rw [← HX.out]
  clear hkl1 hkl2
  try (rename (ks.length : Int) = (l.length : Int) => hq9; clear hq9)
  have HK0 : Hid ((keysB true (ks.take 0) (ks.drop 0) && R) = RR) := HRR
  have HB1 := Lib.hid (Below.refl (w.alloc (.cells X 26)).heap.size (w.alloc (.cells X 26)))
  go_loopw [12, 13] (fun v _ wr => ∃ i : Nat, i ≤ ks.length ∧ v = .int .i64 i ∧ Hid ((keysB true (ks.take i) (ks.drop i) && R) = RR) ∧ Hid (Below (w.alloc (.cells X 26)).heap.size (w.alloc (.cells X 26)) wr)) (fun v _ _ => ks.length - (intOf v).toNat)
  case atStart => exact ⟨0, Nat.zero_le _, rfl, HK0, HB1⟩
  case round =>
    clear HK0 HB1
    obtain ⟨i, hi, rfl, hK, hw⟩ := hrel
    have hb0 : Below w.heap.size w wr := (HB.out (.cells X 26)).trans (hw.out.mono (by simp))
    have hc0 := (hw.out.cell (p := ⟨w.heap.size, 0, none⟩) (by simp)).trans c0
    have hc3 := (hw.out.cell (p := ⟨w.heap.size, 3, none⟩) (by simp)).trans c3
    clear c0 c3
    by_cases hlt : i < ks.length
    · obtain ⟨kb, koff, hA, -⟩ := StrsAt.elem (HKS.out wr hb0) i hlt
      have hcells : ∀ j (h : j < ks.length), wr.cell? ⟨kb, koff + j, none⟩ = some (.string ks[j]) := by
        intro j hj
        obtain ⟨b', off', hA', hc'⟩ := StrsAt.elem (HKS.out wr hb0) j hj
        rw [hA] at hA'
        cases hA'
        exact hc'
      have HCS := Lib.hid hcells
      have hci := hcells i hlt
      have hkz := HKT.out _ (List.getElem_mem hlt)
      have hst := keysB_step true ks i hlt
      subst hA
      generalize ks[i] = kk at *
      generalize hcb : (ks.take i).any (fun x => x.toList == kk.toList) = cb at hst
      have HST := Lib.hid hst
      have HCB : Hid (((ks.take i).drop 0).any (fun x => x.toList == kk.toList) = cb) := hcb
      generalize hnb : namedB kk = nb at HST
      have HN := Lib.hid (fun W => hnb ▸ rname_calls kk W hkz)
      have HB0 := Lib.hid hb0
      clear hcells hst hcb hnb hb0
      cases nb with
      | false =>
        go_wp2_with fail
        refine (HN.out _).mono ?_
        rintro e w9 ⟨rfl, rfl⟩
        have hfin : RR = false := by
          rw [← hK.out, HST.out]; rfl
        have HFIN := Lib.hid hfin
        clear hfin
        go_wp2_with fail
        go_ret
        exact ⟨ret_bool HFIN.out.symm, HB0.out⟩
      | true =>
        go_wp2_with fail
        refine (HN.out _).mono ?_
        rintro e w9 ⟨rfl, rfl⟩
        have hl0 : lengthName.toList = [76, 101, 110, 103, 116, 104] := by rw [Lib.toList_data]; rfl
        by_cases hL : (kk.toList == [76, 101, 110, 103, 116, 104]) = true
        · have HFIN : Hid (RR = false) := by
            show RR = false
            rw [← hK.out, HST.out, hl0, hL]
            simp
          clear hl0
          go_wp2_with fail
          go_ret
          exact ⟨ret_bool HFIN.out.symm, HB0.out⟩
        have hL2 : (kk.toList == [76, 101, 110, 103, 116, 104]) = false := by simpa using hL
        have HLN : Hid ((kk.toList == lengthName.toList) = false) := by
          show _ = _
          rw [hl0]
          exact hL2
        clear hl0 hL
        go_wp2_with fail
        have HB2 := Lib.hid (Below.refl wr.heap.size wr)
        have HDD := Lib.hid (show ∀ W, Below wr.heap.size wr W → W.cell? ⟨w.heap.size, 3, none⟩ = some (.slice (some ⟨kb, koff, none⟩) ks.length ck) ∧ W.cell? ⟨w.heap.size, 0, none⟩ = some (.int .i64 9) ∧ (∀ j (h : j < ks.length), W.cell? ⟨kb, koff + j, none⟩ = some (.string ks[j])) ∧ W.cell? ⟨kb, koff + i, none⟩ = some (.string kk) ∧ Below w.heap.size w W ∧ Below (w.alloc (.cells X 26)).heap.size (w.alloc (.cells X 26)) W from fun W h => by
          have hwz := hw.out.size
          rw [World.size_alloc] at hwz
          exact ⟨(h.cell (p := ⟨w.heap.size, 3, none⟩) (by show w.heap.size < _; omega)).trans hc3, (h.cell (p := ⟨w.heap.size, 0, none⟩) (by show w.heap.size < _; omega)).trans hc0, fun j hj => (h.cell (World.block_lt_of_cell? wr _ (HCS.out j hj))).trans (HCS.out j hj), (h.cell (World.block_lt_of_cell? wr _ hci)).trans hci, HB0.out.trans (h.mono HB0.out.size), hw.out.trans (h.mono hw.out.size)⟩)
        clear hc3 hc0 hci
        go_loopw [13] (fun v w3 => ∃ j : Nat, j ≤ i ∧ v = .int .i64 j ∧ Hid (((ks.take i).drop j).any (fun x => x.toList == kk.toList) = cb) ∧ Hid (Below wr.heap.size wr w3)) (fun v _ => i - (intOf v).toNat)
        case atStart => exact ⟨0, Nat.zero_le _, rfl, HCB, HB2⟩
        case round =>
          clear HB2 HCB
          obtain ⟨j, hj, rfl, hC, hw3⟩ := hrel
          obtain ⟨hd3, hd0, hds, hdi, hbw, hbx⟩ := HDD.out _ hw3.out
          have HBX := Lib.hid hbx
          have HD0 := Lib.hid hd0
          have HBW := Lib.hid hbw
          clear hbx hd0 hbw
          by_cases hlj : j < i
          · have hlj2 : j < ks.length := by omega
            have hdj := hds j hlj2
            have hstj : ((ks[j].toList == kk.toList) || ((ks.take i).drop (j + 1)).any (fun x => x.toList == kk.toList)) = cb := by
              have hjl : j < (ks.take i).length := by rw [List.length_take]; omega
              rw [← hC.out, List.drop_eq_getElem_cons hjl, List.any_cons, List.getElem_take]
            generalize ks[j] = kj at *
            have HSJ := Lib.hid hstj
            clear hstj hds
            cases hkk : (kj.toList == kk.toList) with
            | true =>
              have HFIN : Hid (RR = false) := by
                show RR = false
                rw [← hK.out, HST.out, ← HSJ.out, hkk]
                simp
              clear HSJ
              go_wp2_with fail
              go_region
              all_goals (
                go_wp2_with fail
                go_ret
                exact ⟨ret_bool HFIN.out.symm, below_drew HBW.out⟩)
            | false =>
              have HC2 : Hid (((ks.take i).drop (j + 1)).any (fun x => x.toList == kk.toList) = cb) := by
                show _ = cb
                rw [← HSJ.out, hkk]
                rfl
              have HW4 := Lib.hid (below_drew hw3.out)
              clear HSJ
              go_wp2_with fail
              go_region
              all_goals (
                go_wp2_with fail
                go_roundw
                case rel => exact ⟨j + 1, by omega, by go_num, HC2, HW4⟩
                case measure => simp [intOf]; omega)
          · obtain rfl : j = i := by omega
            have HK2 : Hid ((keysB true (ks.take (j + 1)) (ks.drop (j + 1)) && R) = RR) := by
              have hcb := hC.out
              rw [List.drop_of_length_le (by rw [List.length_take]; omega)] at hcb
              have h1 := hK.out
              rw [HST.out, ← hcb] at h1
              show _ = RR
              rw [← h1]
              simp [HLN.out]
            go_wp2_with fail
            go_roundw
            case rel => exact ⟨j + 1, by omega, by go_num, HK2, HBX⟩
            case measure => simp [intOf]; omega
    · obtain rfl : i = ks.length := by omega
      have hRR : R = RR := by
        have := hK.out
        rw [List.drop_of_length_le (Nat.le_refl _)] at this
        simpa [keysB] using this
      subst hRR
      have hc4 := (hw.out.cell (p := ⟨w.heap.size, 4, none⟩) (by simp)).trans HC4.out
      have HW1 := Lib.hid hb0
      clear hK HRR hb0
      by_cases hlen : 65535 < l.length
      · go_wp2_with fail
        go_ret
        exact ⟨ret_bool (HRN.out hlen).symm, HW1.out⟩
      go_wp2_with fail
      clear hc4 hc3 hc0
      have HB1 := hw
      have HE0 : Hid (elemsB f (l.drop 0) = R) := (HRY.out (by omega)).symm
      go_loopw [14] (fun v wr => ∃ i : Nat, i ≤ l.length ∧ v = .int .i64 i ∧ Hid (elemsB f (l.drop i) = R) ∧ Hid (Below (w.alloc (.cells X 26)).heap.size (w.alloc (.cells X 26)) wr)) (fun v _ => l.length - (intOf v).toNat)
      case atStart => exact ⟨0, Nat.zero_le _, rfl, HE0, HB1⟩
      case round =>
        clear HB1 HE0
        obtain ⟨i, hi, rfl, hE, hw⟩ := hrel
        have hc4 := (hw.out.cell (p := ⟨w.heap.size, 4, none⟩) (by simp)).trans HC4.out
        by_cases hlt : i < l.length
        · have hb0 : Below w.heap.size w wr := (HB.out (.cells X 26)).trans (hw.out.mono (by simp))
          obtain ⟨lb, loff, hAl, hcell⟩ := RowAt.elem HC.out i hlt
          have hx := HL.out i hlt
          have HXX := Lib.hid (fun W (h : Below w.heap.size w W) => hx.keep h)
          have hstep : ((f l[i] && !(l[i].k == 9)) && elemsB f (l.drop (i + 1))) = R := by
            rw [← hE.out, List.drop_eq_getElem_cons hlt]; rfl
          generalize l[i] = x at *
          generalize cs i = ci at *
          obtain ⟨xn, xt, xAk, xck, xAl, xcl, xAd, xcd, rfl⟩ := hx.agg
          have hcc : ∀ j v, _ → wr.cell? ⟨lb, loff + i * 6 + j, none⟩ = some v := fun j v hj => (hb0.cell (World.block_lt_of_cell? w _ (hcell j v hj))).trans (hcell j v hj)
          have e0 := hcc 0 _ rfl
          have e1 := hcc 1 _ rfl
          have e2 := hcc 2 _ rfl
          have e3 := hcc 3 _ rfl
          have e4 := hcc 4 _ rfl
          have e5 := hcc 5 _ rfl
          simp only [Nat.add_zero] at e0
          have HB0 := Lib.hid hb0
          subst hAl
          have HHC := Lib.hid (fun v (h : ORd wr x v) => HH.out x v wr h)
          generalize hbb : (f x && !(x.k == 9)) = bb at hstep HHC
          have HST := Lib.hid hstep
          clear hx hcell hcc hb0 hbb hstep
          go_wp2_with fail
          refine (HHC.out _ (HXX.out _ HB0.out)).mono ?_
          rintro e w2 ⟨rfl, h2⟩
          have hn : Hid (Below (w.alloc (.cells X 26)).heap.size (w.alloc (.cells X 26)) w2) := hw.out.trans (h2.mono hw.out.size)
          have HF := Lib.hid ((HB.out (.cells X 26)).trans (hn.out.mono (by simp)))
          clear h2 e0 e1 e2 e3 e4 e5 hc4
          cases bb with
          | false =>
            go_wp2_with fail
            go_ret
            exact ⟨ret_bool (by rw [← HST.out]; rfl), HF.out⟩
          | true =>
            have hE2 : Hid (elemsB f (l.drop (i + 1)) = R) := by
              have := HST.out
              rwa [Bool.true_and] at this
            go_wp2_with fail
            go_roundw
            case rel => exact ⟨i + 1, by omega, by go_num, hE2, hn⟩
            case measure => simp [intOf]; omega
        · obtain rfl : i = l.length := by omega
          have HF := Lib.hid ((HB.out (.cells X 26)).trans (hw.out.mono (by simp)))
          have HT : Hid (R = true) := by
            have := hE.out
            rw [List.drop_of_length_le (Nat.le_refl _)] at this
            exact this.symm
          go_wp2_with fail
          go_ret
          exact ⟨ret_bool HT.out.symm, HF.out⟩
end Go.Proofs.YtkcdckcckpgliaaDoor
