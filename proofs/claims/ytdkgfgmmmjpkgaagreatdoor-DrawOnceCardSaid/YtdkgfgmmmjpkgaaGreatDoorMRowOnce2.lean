/-
  DrawOnce: the law returns true for every item: an item that stands twice behind itself is written the second time without its clips, its colour and its pen. Conditions: none beyond the row's own (the listed package variables as the program lays them; the card ties them).
-/
import Derived.StillTailTactics
import Derived.Test.YtdkgfgmmmjpkgaaGreatDoorMRowOnce1

namespace Go.Proofs.YtdkgfgmmmjpkgaaGreatDoor
open Go.RowKit Go.Shelf

theorem lettersOk_eq2 (it : ItemP) : (lettersOk it && (it.path.isEmpty && noPen it.pen)) = (fitsB it.m0 && (fitsB it.m1 && (fitsB it.m2 && (fitsB it.m3 && (fitsB it.m4 && (fitsB it.m5 && (decide (0 ≤ it.font) && (decide (it.font ≤ 13) && (decide (1 ≤ it.bytes.length) && (decide (it.bytes.length ≤ 65535) && (it.path.isEmpty && noPen it.pen))))))))))) := by
  rw [lettersOk, matFit]
  simp only [Bool.and_assoc]
  generalize fitsB it.m0 = a0
  generalize fitsB it.m1 = a1
  generalize fitsB it.m2 = a2
  generalize fitsB it.m3 = a3
  generalize fitsB it.m4 = a4
  generalize fitsB it.m5 = a5
  generalize decide (0 ≤ it.font) = b0
  generalize decide (it.font ≤ 13) = b1
  generalize decide (1 ≤ it.bytes.length) = b2
  generalize decide (it.bytes.length ≤ 65535) = b3
  cases a0 <;> cases a1 <;> cases a2 <;> cases a3 <;> cases a4 <;> cases a5 <;> cases b0 <;> cases b1 <;> cases b2 <;> cases b3 <;> rfl
def fitR (it : ItemP) (F : Bool) : Nat → Bool
  | 0 => fitsB it.m0 && (fitsB it.m1 && (fitsB it.m2 && (fitsB it.m3 && (fitsB it.m4 && (fitsB it.m5 && F)))))
  | 1 => fitsB it.m1 && (fitsB it.m2 && (fitsB it.m3 && (fitsB it.m4 && (fitsB it.m5 && F))))
  | 2 => fitsB it.m2 && (fitsB it.m3 && (fitsB it.m4 && (fitsB it.m5 && F)))
  | 3 => fitsB it.m3 && (fitsB it.m4 && (fitsB it.m5 && F))
  | 4 => fitsB it.m4 && (fitsB it.m5 && F)
  | 5 => fitsB it.m5 && F
  | _ => F
theorem clips_step (l : List ClipP) (k : Nat) (h : k < l.length) : (l.drop k).all clipOk = (clipOk l[k] && (l.drop (k + 1)).all clipOk) := all_drop l clipOk k h

set_option maxHeartbeats 25600000 in
set_option maxRecDepth 100000 in
theorem rItem_calls (it : ItemP) (v : Array Value) (w : World) (hv : ItemRd w it v) : Calls Tryz.prog 25 #[.agg v] w fun e w' => e = .returned (.bool (itemOk it)) ∧ Below w.heap.size w w' := by
  have hv0 := hv
  obtain ⟨Ap, cp, Ac, cc, Ad, cd, Ab, cb, hve, ⟨hp1, hp2, hp3⟩, ⟨hc1, hc2, hc3⟩, ⟨hd1, hd2, hd3⟩, ⟨hb1, hb2, hb3⟩⟩ := hv
  obtain ⟨X, hX⟩ : ∃ X, X = v := ⟨_, rfl⟩
  rw [← hX] at hve hv0 ⊢
  clear hX
  have HCE := Lib.hid (show ∀ W, Below (w.heap.size + 1) (w.alloc (.cells X 50)) W → ∀ j v, X[j]? = some v → W.cell? ⟨w.heap.size, j, none⟩ = some v from fun W hW j v hj => by
    rw [hW.cell (by simp), Lib.cell_of_heap (heap_alloc_new w _)]
    exact hj)
  have HBW := Lib.hid (show ∀ W, Below (w.heap.size + 1) (w.alloc (.cells X 50)) W → Below w.heap.size w W from fun W hW => (below_alloc w _).trans (hW.mono (by omega)))
  have HB0 := Lib.hid (Below.refl (w.heap.size + 1) (w.alloc (.cells X 50)))
  have HX0 := Lib.hid (show ∀ W, Below (w.heap.size + 1) (w.alloc (.cells X 50)) W → W.cell? ⟨w.heap.size, 0, none⟩ = some (.int .i64 it.k) from fun W hW => HCE.out W hW 0 _ (by rw [hve]; rfl))
  have HX1 := Lib.hid (show ∀ W, Below (w.heap.size + 1) (w.alloc (.cells X 50)) W → W.cell? ⟨w.heap.size, 1, none⟩ = some (.slice Ap it.path.length cp) from fun W hW => HCE.out W hW 1 _ (by rw [hve]; rfl))
  have HX2 := Lib.hid (show ∀ W, Below (w.heap.size + 1) (w.alloc (.cells X 50)) W → W.cell? ⟨w.heap.size, 2, none⟩ = some (.int .i64 it.col.sp) from fun W hW => HCE.out W hW 2 _ (by rw [hve]; rfl))
  have HX3 := Lib.hid (show ∀ W, Below (w.heap.size + 1) (w.alloc (.cells X 50)) W → W.cell? ⟨w.heap.size, 3, none⟩ = some (.int .i64 it.col.p0) from fun W hW => HCE.out W hW 3 _ (by rw [hve]; rfl))
  have HX4 := Lib.hid (show ∀ W, Below (w.heap.size + 1) (w.alloc (.cells X 50)) W → W.cell? ⟨w.heap.size, 4, none⟩ = some (.int .i64 it.col.p1) from fun W hW => HCE.out W hW 4 _ (by rw [hve]; rfl))
  have HX5 := Lib.hid (show ∀ W, Below (w.heap.size + 1) (w.alloc (.cells X 50)) W → W.cell? ⟨w.heap.size, 5, none⟩ = some (.int .i64 it.col.p2) from fun W hW => HCE.out W hW 5 _ (by rw [hve]; rfl))
  have HX6 := Lib.hid (show ∀ W, Below (w.heap.size + 1) (w.alloc (.cells X 50)) W → W.cell? ⟨w.heap.size, 6, none⟩ = some (.int .i64 it.col.p3) from fun W hW => HCE.out W hW 6 _ (by rw [hve]; rfl))
  have HX7 := Lib.hid (show ∀ W, Below (w.heap.size + 1) (w.alloc (.cells X 50)) W → W.cell? ⟨w.heap.size, 7, none⟩ = some (.slice Ac it.clips.length cc) from fun W hW => HCE.out W hW 7 _ (by rw [hve]; rfl))
  have HX8 := Lib.hid (show ∀ W, Below (w.heap.size + 1) (w.alloc (.cells X 50)) W → W.cell? ⟨w.heap.size, 8, none⟩ = some (.int .i64 it.pen.wd) from fun W hW => HCE.out W hW 8 _ (by rw [hve]; rfl))
  have HX9 := Lib.hid (show ∀ W, Below (w.heap.size + 1) (w.alloc (.cells X 50)) W → W.cell? ⟨w.heap.size, 9, none⟩ = some (.int .i64 it.pen.cap) from fun W hW => HCE.out W hW 9 _ (by rw [hve]; rfl))
  have HX10 := Lib.hid (show ∀ W, Below (w.heap.size + 1) (w.alloc (.cells X 50)) W → W.cell? ⟨w.heap.size, 10, none⟩ = some (.int .i64 it.pen.join) from fun W hW => HCE.out W hW 10 _ (by rw [hve]; rfl))
  have HX11 := Lib.hid (show ∀ W, Below (w.heap.size + 1) (w.alloc (.cells X 50)) W → W.cell? ⟨w.heap.size, 11, none⟩ = some (.int .i64 it.pen.miter) from fun W hW => HCE.out W hW 11 _ (by rw [hve]; rfl))
  have HX12 := Lib.hid (show ∀ W, Below (w.heap.size + 1) (w.alloc (.cells X 50)) W → W.cell? ⟨w.heap.size, 12, none⟩ = some (.slice Ad it.pen.dash.length cd) from fun W hW => HCE.out W hW 12 _ (by rw [hve]; rfl))
  have HX13 := Lib.hid (show ∀ W, Below (w.heap.size + 1) (w.alloc (.cells X 50)) W → W.cell? ⟨w.heap.size, 13, none⟩ = some (.int .i64 it.pen.phase) from fun W hW => HCE.out W hW 13 _ (by rw [hve]; rfl))
  have HX14 := Lib.hid (show ∀ W, Below (w.heap.size + 1) (w.alloc (.cells X 50)) W → W.cell? ⟨w.heap.size, 14, none⟩ = some (.int .i64 it.font) from fun W hW => HCE.out W hW 14 _ (by rw [hve]; rfl))
  have HX15 := Lib.hid (show ∀ W, Below (w.heap.size + 1) (w.alloc (.cells X 50)) W → W.cell? ⟨w.heap.size, 15, none⟩ = some (.int .i64 it.m0) from fun W hW => HCE.out W hW 15 _ (by rw [hve]; rfl))
  have HX16 := Lib.hid (show ∀ W, Below (w.heap.size + 1) (w.alloc (.cells X 50)) W → W.cell? ⟨w.heap.size, 16, none⟩ = some (.int .i64 it.m1) from fun W hW => HCE.out W hW 16 _ (by rw [hve]; rfl))
  have HX17 := Lib.hid (show ∀ W, Below (w.heap.size + 1) (w.alloc (.cells X 50)) W → W.cell? ⟨w.heap.size, 17, none⟩ = some (.int .i64 it.m2) from fun W hW => HCE.out W hW 17 _ (by rw [hve]; rfl))
  have HX18 := Lib.hid (show ∀ W, Below (w.heap.size + 1) (w.alloc (.cells X 50)) W → W.cell? ⟨w.heap.size, 18, none⟩ = some (.int .i64 it.m3) from fun W hW => HCE.out W hW 18 _ (by rw [hve]; rfl))
  have HX19 := Lib.hid (show ∀ W, Below (w.heap.size + 1) (w.alloc (.cells X 50)) W → W.cell? ⟨w.heap.size, 19, none⟩ = some (.int .i64 it.m4) from fun W hW => HCE.out W hW 19 _ (by rw [hve]; rfl))
  have HX20 := Lib.hid (show ∀ W, Below (w.heap.size + 1) (w.alloc (.cells X 50)) W → W.cell? ⟨w.heap.size, 20, none⟩ = some (.int .i64 it.m5) from fun W hW => HCE.out W hW 20 _ (by rw [hve]; rfl))
  have HX21 := Lib.hid (show ∀ W, Below (w.heap.size + 1) (w.alloc (.cells X 50)) W → W.cell? ⟨w.heap.size, 21, none⟩ = some (.slice Ab it.bytes.length cb) from fun W hW => HCE.out W hW 21 _ (by rw [hve]; rfl))
  have HQ := Lib.hid (itemOk_eq it)
  have HCOL := Lib.hid (colOk_eq it.col.sp it.col.p0 it.col.p1 it.col.p2 it.col.p3)
  have HLQ := Lib.hid (lettersOk_eq2 it)
  have HCQ := Lib.hid (show clipsOk it.clips = (decide (it.clips.length ≤ 16) && (it.clips.drop 0).all clipOk) from rfl)
  have HR := Lib.hid (show itemR it = (it.font == 0 && (mat0 it && (it.bytes.isEmpty && (!it.path.isEmpty && pathOk it.path)))) from rfl)
  have HS := Lib.hid (show itemS it = if it.k == 3 then penOk it.pen else (it.k == 1 || it.k == 2) && noPen it.pen from rfl)
  have HM0 := Lib.hid (mat0_eq it)
  have HBE := Lib.hid (isEmpty_int it.bytes)
  have HPE := Lib.hid (isEmpty_int it.path)
  have HCS := Lib.hid (fun k (hk : k < it.clips.length) => clips_step it.clips k hk)
  have HCLI := Lib.hid (show ∀ W, Below (w.heap.size + 1) (w.alloc (.cells X 50)) W → ClipsAt W Ac it.clips from fun W hW => hc1.keep (HBW.out W hW))
  have HPA := Lib.hid (fun (cl : ClipP) A cap W (h : PathAt W A cl.path) h1 h2 => rPath_calls cl.path A cap W h h1 h2)
  have HNO := Lib.hid (show ∀ W, Below (w.heap.size + 1) (w.alloc (.cells X 50)) W → Calls _ _ _ _ _ from fun W hW => samePen0_calls it.pen Ad cd W (hd1.keep (HBW.out W hW)) hd2 hd3)
  have HPS := Lib.hid (show ∀ W, Below (w.heap.size + 1) (w.alloc (.cells X 50)) W → Calls _ _ _ _ _ from fun W hW => rPath_calls it.path Ap cp W (hp1.keep (HBW.out W hW)) hp2 hp3)
  have HPN := Lib.hid (show ∀ W, Below (w.heap.size + 1) (w.alloc (.cells X 50)) W → Calls _ _ _ _ _ from fun W hW => rPen_calls it.pen Ad cd W (hd1.keep (HBW.out W hW)) hd2 hd3)
  have HMA := fun W : World => neq_arr6 it.m0 it.m1 it.m2 it.m3 it.m4 it.m5 0 0 0 0 0 0 W
  have HXE := Lib.hid hve
  have hcm' := hc3
  unfold maxLen at hcm'
  clear hv0 hve hp1 hc1 hd1 hb1 hc3 hp3 hd3 hb3
  unfold penA at HPN
  rw [HM0.out] at HR
  clear HM0
  have hsp : ∃ q, q = it.col.sp := ⟨_, rfl⟩
  obtain ⟨RE, hRE⟩ : ∃ RE, RE = (if it.k == 4 then lettersOk it && (it.path.isEmpty && noPen it.pen) else itemR it && itemS it) := ⟨_, rfl⟩
  have HRE := Lib.hid hRE
  have HQ1 := Lib.hid (show itemOk it = (colOk it.col && (clipsOk it.clips && RE)) from by rw [HQ.out, hRE])
  clear HQ hRE hsp
  have HRF := Lib.hid (show (lettersOk it && (it.path.isEmpty && noPen it.pen)) = fitR it (decide (0 ≤ it.font) && (decide (it.font ≤ 13) && (decide (1 ≤ it.bytes.length) && (decide (it.bytes.length ≤ 65535) && (it.path.isEmpty && noPen it.pen))))) 0 from HLQ.out)
  clear HLQ
  rw [show colOk it.col = ((it.col.sp == 1 || it.col.sp == 3 || it.col.sp == 4) && colR it.col.sp it.col.p0 it.col.p1 it.col.p2 it.col.p3 0) from HCOL.out] at HQ1
  rw [HRF.out] at HRE
  clear HCOL HRF
  generalize itemOk it = Q at *
  generalize itemR it = R at *
  generalize itemS it = S at *
  generalize noPen it.pen = qn at *
  generalize penOk it.pen = qp at *
  generalize pathOk it.path = qs at *
  have y2 := HX2.out _ HB0.out
  have y3 := HX3.out _ HB0.out
  have y4 := HX4.out _ HB0.out
  have y5 := HX5.out _ HB0.out
  have y6 := HX6.out _ HB0.out
  have HBC := Lib.hid (show Below (w.heap.size + 1) (w.alloc (.cells X 50)) ((w.alloc (.cells X 50)).alloc (.cells #[.int .i64 it.col.sp, .int .i64 it.col.p0, .int .i64 it.col.p1, .int .i64 it.col.p2, .int .i64 it.col.p3] 44)) from by have := below_alloc (w.alloc (.cells X 50)) (.cells #[.int .i64 it.col.sp, .int .i64 it.col.p0, .int .i64 it.col.p1, .int .i64 it.col.p2, .int .i64 it.col.p3] 44); rw [World.size_alloc] at this; exact this)
  generalize hsp : it.col.sp = sp at *
  generalize it.col.p0 = p0 at *
  generalize it.col.p1 = p1 at *
  generalize it.col.p2 = p2 at *
  generalize it.col.p3 = p3 at *
  clear hsp
  have HSZ := Lib.hid (show ∀ W, Below (w.heap.size + 1) (w.alloc (.cells X 50)) W → w.heap.size + 1 ≤ W.heap.size from fun W hW => by have := hW.size; simp only [World.size_alloc] at this; exact this)
  have HZC := Lib.hid (show ∀ j v, (#[Value.int .i64 sp, .int .i64 p0, .int .i64 p1, .int .i64 p2, .int .i64 p3])[j]? = some v → ((w.alloc (.cells X 50)).alloc (.cells #[.int .i64 sp, .int .i64 p0, .int .i64 p1, .int .i64 p2, .int .i64 p3] 44)).cell? ⟨w.heap.size + 1, j, none⟩ = some v from fun j v hj => by
    have := Lib.cell_of_heap (j := j) (heap_alloc_new (w.alloc (.cells X 50)) (.cells #[.int .i64 sp, .int .i64 p0, .int .i64 p1, .int .i64 p2, .int .i64 p3] 44))
    rw [World.size_alloc] at this
    rw [this]
    exact hj)
  obtain ⟨RWX, hRW⟩ : ∃ RWX, RWX = (w.alloc (.cells X 50)).alloc (.cells #[.int .i64 sp, .int .i64 p0, .int .i64 p1, .int .i64 p2, .int .i64 p3] 44) := ⟨_, rfl⟩
  rw [← hRW] at HZC HBC
  go_enter Tryz.func25, Tryz.ntmps25
  rw [HXE.out]
  have hwc : Hid (RWX = (w.alloc (.cells X 50)).alloc (.cells #[.int .i64 sp, .int .i64 p0, .int .i64 p1, .int .i64 p2, .int .i64 p3] 44)) := hRW
  clear hRW
  go_upto_region 2 with fail
  rw [← HXE.out]
  go_cut [22] (fun s22 wx => s22 = .bool (!(sp == 1 || sp == 3 || sp == 4)) ∧ Hid (wx = RWX))
  case first =>
    have x0 : ((w.alloc (.cells X 50)).alloc (.cells #[.int .i64 sp, .int .i64 p0, .int .i64 p1, .int .i64 p2, .int .i64 p3] 44)).cell? ⟨w.heap.size + 1, 0, none⟩ = some (.int .i64 sp) := by rw [← hwc.out]; exact HZC.out 0 _ rfl
    by_cases h1 : sp = 1
    · subst h1
      go_wp2_with fail
      go_meet
      exact ⟨rfl, Lib.hid hwc.out.symm⟩
    · by_cases h3 : sp = 3
      · subst h3
        go_wp2_with fail
        go_meet
        exact ⟨rfl, Lib.hid hwc.out.symm⟩
      · by_cases h4 : sp = 4
        · subst h4
          go_wp2_with fail
          go_meet
          exact ⟨rfl, Lib.hid hwc.out.symm⟩
        · have g1 : (sp != 1) = true := bne_iff_ne.2 h1
          have g3 : (sp != 3) = true := bne_iff_ne.2 h3
          have g4 : (sp != 4) = true := bne_iff_ne.2 h4
          have HE := Lib.hid (show (sp == 1 || sp == 3 || sp == 4) = false from by rw [beq_eq_false_iff_ne.2 h1, beq_eq_false_iff_ne.2 h3, beq_eq_false_iff_ne.2 h4]; rfl)
          clear h1 h3 h4
          go_wp2_with fail
          go_meet
          exact ⟨by rw [HE.out]; rfl, Lib.hid hwc.out.symm⟩
  case rest =>
    obtain ⟨rfl, hwx⟩ := hcut
    have hwx2 := hwx.out
    subst hwx2
    generalize (sp == 1 || sp == 3 || sp == 4) = qsp at *
    cases qsp with
    | false =>
      have HE := Lib.hid (show Q = false from by rw [HQ1.out]; rfl)
      go_wp2_with fail
      go_ret
      exact ⟨ret_bool HE.out.symm, HBW.out _ HBC.out⟩
    | true =>
      have hK0 : Hid (Q = (colR sp p0 p1 p2 p3 0 && (clipsOk it.clips && RE))) := HQ1.out
      clear HQ1
      have x0 := HZC.out 0 _ rfl
      have x1 := HZC.out 1 _ rfl
      have x2 := HZC.out 2 _ rfl
      have x3 := HZC.out 3 _ rfl
      have x4 := HZC.out 4 _ rfl
      go_wp2_with fail
      go_loop [4] (fun v4 => ∃ i : Nat, i ≤ 4 ∧ v4 = .int .i64 i ∧ Hid (Q = (colR sp p0 p1 p2 p3 i && (clipsOk it.clips && RE)))) (fun v => 4 - (intOf v).toNat)
      case atStart => exact ⟨0, by omega, rfl, hK0⟩
      case round =>
        clear hK0
        obtain ⟨i, hi, rfl, hK⟩ := hrel
        match i, hi with
        | 0, _ =>
          have HSX := Lib.hid (show Q = (((decide (0 ≤ p0) && decide (p0 ≤ 65536) && (decide ((0 : Int) < sp) || p0 == 0))) && (colR sp p0 p1 p2 p3 1 && (clipsOk it.clips && RE))) from hK.out.trans (Bool.and_assoc (partOk 0 sp p0) _ _))
          clear hK
          cases h1 : decide (p0 < 0) with
          | true =>
            have HE := Lib.hid (show Q = false from by rw [HSX.out, decide_eq_false (show ¬ 0 ≤ p0 from by have := of_decide_eq_true h1; omega)]; rfl)
            go_wp2_with fail
            go_ret
            exact ⟨ret_bool HE.out.symm, HBW.out _ HBC.out⟩
          | false =>
            have hx := Lib.hid (show decide (0 ≤ p0) = true from decide_eq_true (by have := of_decide_eq_false h1; omega))
            cases h2 : decide (65536 < p0) with
            | true =>
              have HE := Lib.hid (show Q = false from by rw [HSX.out, hx.out, decide_eq_false (show ¬ p0 ≤ 65536 from by have := of_decide_eq_true h2; omega)]; rfl)
              go_wp2_with fail
              go_ret
              exact ⟨ret_bool HE.out.symm, HBW.out _ HBC.out⟩
            | false =>
              have hy := Lib.hid (show decide (p0 ≤ 65536) = true from decide_eq_true (by have := of_decide_eq_false h2; omega))
              have HSY := Lib.hid (show Q = ((decide ((0 : Int) < sp) || p0 == 0) && (colR sp p0 p1 p2 p3 1 && (clipsOk it.clips && RE))) from by rw [HSX.out, hx.out, hy.out]; rfl)
              clear HSX hx hy
              cases h3 : decide (sp ≤ 0) with
              | false =>
                have hN : Hid (Q = (colR sp p0 p1 p2 p3 1 && (clipsOk it.clips && RE))) := by
                  show _ = _
                  rw [HSY.out, decide_eq_true (show (0 : Int) < sp from by have := of_decide_eq_false h3; omega)]
                  rfl
                go_wp2_with fail
                go_round
                case rel => exact ⟨1, by omega, by go_num, hN⟩
                case measure => simp [intOf]
              | true =>
                have HSZ2 := Lib.hid (show Q = ((p0 == 0) && (colR sp p0 p1 p2 p3 1 && (clipsOk it.clips && RE))) from by rw [HSY.out, decide_eq_false (show ¬ (0 : Int) < sp from by have := of_decide_eq_true h3; omega)]; rfl)
                clear HSY
                have HSY := HSZ2
                cases h4 : (p0 != 0) with
                | true =>
                  have HE := Lib.hid (show Q = false from by rw [HSZ2.out, beq_eq_false_iff_ne.2 (bne_iff_ne.1 h4)]; rfl)
                  go_wp2_with fail
                  go_ret
                  exact ⟨ret_bool HE.out.symm, HBW.out _ HBC.out⟩
                | false =>
                  have hz := Lib.hid (show (p0 == 0) = true from by rw [bne, Bool.not_eq_false'] at h4; exact h4)
                  have hN : Hid (Q = (colR sp p0 p1 p2 p3 1 && (clipsOk it.clips && RE))) := by
                    show _ = _
                    rw [HSY.out, hz.out]
                    rfl
                  go_wp2_with fail
                  go_round
                  case rel => exact ⟨1, by omega, by go_num, hN⟩
                  case measure => simp [intOf]
        | 1, _ =>
          have HSX := Lib.hid (show Q = (((decide (0 ≤ p1) && decide (p1 ≤ 65536) && (decide ((1 : Int) < sp) || p1 == 0))) && (colR sp p0 p1 p2 p3 2 && (clipsOk it.clips && RE))) from hK.out.trans (Bool.and_assoc (partOk 1 sp p1) _ _))
          clear hK
          cases h1 : decide (p1 < 0) with
          | true =>
            have HE := Lib.hid (show Q = false from by rw [HSX.out, decide_eq_false (show ¬ 0 ≤ p1 from by have := of_decide_eq_true h1; omega)]; rfl)
            go_wp2_with fail
            go_ret
            exact ⟨ret_bool HE.out.symm, HBW.out _ HBC.out⟩
          | false =>
            have hx := Lib.hid (show decide (0 ≤ p1) = true from decide_eq_true (by have := of_decide_eq_false h1; omega))
            cases h2 : decide (65536 < p1) with
            | true =>
              have HE := Lib.hid (show Q = false from by rw [HSX.out, hx.out, decide_eq_false (show ¬ p1 ≤ 65536 from by have := of_decide_eq_true h2; omega)]; rfl)
              go_wp2_with fail
              go_ret
              exact ⟨ret_bool HE.out.symm, HBW.out _ HBC.out⟩
            | false =>
              have hy := Lib.hid (show decide (p1 ≤ 65536) = true from decide_eq_true (by have := of_decide_eq_false h2; omega))
              have HSY := Lib.hid (show Q = ((decide ((1 : Int) < sp) || p1 == 0) && (colR sp p0 p1 p2 p3 2 && (clipsOk it.clips && RE))) from by rw [HSX.out, hx.out, hy.out]; rfl)
              clear HSX hx hy
              cases h3 : decide (sp ≤ 1) with
              | false =>
                have hN : Hid (Q = (colR sp p0 p1 p2 p3 2 && (clipsOk it.clips && RE))) := by
                  show _ = _
                  rw [HSY.out, decide_eq_true (show (1 : Int) < sp from by have := of_decide_eq_false h3; omega)]
                  rfl
                go_wp2_with fail
                go_round
                case rel => exact ⟨2, by omega, by go_num, hN⟩
                case measure => simp [intOf]
              | true =>
                have HSZ2 := Lib.hid (show Q = ((p1 == 0) && (colR sp p0 p1 p2 p3 2 && (clipsOk it.clips && RE))) from by rw [HSY.out, decide_eq_false (show ¬ (1 : Int) < sp from by have := of_decide_eq_true h3; omega)]; rfl)
                clear HSY
                have HSY := HSZ2
                cases h4 : (p1 != 0) with
                | true =>
                  have HE := Lib.hid (show Q = false from by rw [HSZ2.out, beq_eq_false_iff_ne.2 (bne_iff_ne.1 h4)]; rfl)
                  go_wp2_with fail
                  go_ret
                  exact ⟨ret_bool HE.out.symm, HBW.out _ HBC.out⟩
                | false =>
                  have hz := Lib.hid (show (p1 == 0) = true from by rw [bne, Bool.not_eq_false'] at h4; exact h4)
                  have hN : Hid (Q = (colR sp p0 p1 p2 p3 2 && (clipsOk it.clips && RE))) := by
                    show _ = _
                    rw [HSY.out, hz.out]
                    rfl
                  go_wp2_with fail
                  go_round
                  case rel => exact ⟨2, by omega, by go_num, hN⟩
                  case measure => simp [intOf]
        | 2, _ =>
          have HSX := Lib.hid (show Q = (((decide (0 ≤ p2) && decide (p2 ≤ 65536) && (decide ((2 : Int) < sp) || p2 == 0))) && (colR sp p0 p1 p2 p3 3 && (clipsOk it.clips && RE))) from hK.out.trans (Bool.and_assoc (partOk 2 sp p2) _ _))
          clear hK
          cases h1 : decide (p2 < 0) with
          | true =>
            have HE := Lib.hid (show Q = false from by rw [HSX.out, decide_eq_false (show ¬ 0 ≤ p2 from by have := of_decide_eq_true h1; omega)]; rfl)
            go_wp2_with fail
            go_ret
            exact ⟨ret_bool HE.out.symm, HBW.out _ HBC.out⟩
          | false =>
            have hx := Lib.hid (show decide (0 ≤ p2) = true from decide_eq_true (by have := of_decide_eq_false h1; omega))
            cases h2 : decide (65536 < p2) with
            | true =>
              have HE := Lib.hid (show Q = false from by rw [HSX.out, hx.out, decide_eq_false (show ¬ p2 ≤ 65536 from by have := of_decide_eq_true h2; omega)]; rfl)
              go_wp2_with fail
              go_ret
              exact ⟨ret_bool HE.out.symm, HBW.out _ HBC.out⟩
            | false =>
              have hy := Lib.hid (show decide (p2 ≤ 65536) = true from decide_eq_true (by have := of_decide_eq_false h2; omega))
              have HSY := Lib.hid (show Q = ((decide ((2 : Int) < sp) || p2 == 0) && (colR sp p0 p1 p2 p3 3 && (clipsOk it.clips && RE))) from by rw [HSX.out, hx.out, hy.out]; rfl)
              clear HSX hx hy
              cases h3 : decide (sp ≤ 2) with
              | false =>
                have hN : Hid (Q = (colR sp p0 p1 p2 p3 3 && (clipsOk it.clips && RE))) := by
                  show _ = _
                  rw [HSY.out, decide_eq_true (show (2 : Int) < sp from by have := of_decide_eq_false h3; omega)]
                  rfl
                go_wp2_with fail
                go_round
                case rel => exact ⟨3, by omega, by go_num, hN⟩
                case measure => simp [intOf]
              | true =>
                have HSZ2 := Lib.hid (show Q = ((p2 == 0) && (colR sp p0 p1 p2 p3 3 && (clipsOk it.clips && RE))) from by rw [HSY.out, decide_eq_false (show ¬ (2 : Int) < sp from by have := of_decide_eq_true h3; omega)]; rfl)
                clear HSY
                have HSY := HSZ2
                cases h4 : (p2 != 0) with
                | true =>
                  have HE := Lib.hid (show Q = false from by rw [HSZ2.out, beq_eq_false_iff_ne.2 (bne_iff_ne.1 h4)]; rfl)
                  go_wp2_with fail
                  go_ret
                  exact ⟨ret_bool HE.out.symm, HBW.out _ HBC.out⟩
                | false =>
                  have hz := Lib.hid (show (p2 == 0) = true from by rw [bne, Bool.not_eq_false'] at h4; exact h4)
                  have hN : Hid (Q = (colR sp p0 p1 p2 p3 3 && (clipsOk it.clips && RE))) := by
                    show _ = _
                    rw [HSY.out, hz.out]
                    rfl
                  go_wp2_with fail
                  go_round
                  case rel => exact ⟨3, by omega, by go_num, hN⟩
                  case measure => simp [intOf]
        | 3, _ =>
          have HSX := Lib.hid (show Q = (((decide (0 ≤ p3) && decide (p3 ≤ 65536) && (decide ((3 : Int) < sp) || p3 == 0))) && (colR sp p0 p1 p2 p3 4 && (clipsOk it.clips && RE))) from hK.out.trans (Bool.and_assoc (partOk 3 sp p3) _ _))
          clear hK
          cases h1 : decide (p3 < 0) with
          | true =>
            have HE := Lib.hid (show Q = false from by rw [HSX.out, decide_eq_false (show ¬ 0 ≤ p3 from by have := of_decide_eq_true h1; omega)]; rfl)
            go_wp2_with fail
            go_ret
            exact ⟨ret_bool HE.out.symm, HBW.out _ HBC.out⟩
          | false =>
            have hx := Lib.hid (show decide (0 ≤ p3) = true from decide_eq_true (by have := of_decide_eq_false h1; omega))
            cases h2 : decide (65536 < p3) with
            | true =>
              have HE := Lib.hid (show Q = false from by rw [HSX.out, hx.out, decide_eq_false (show ¬ p3 ≤ 65536 from by have := of_decide_eq_true h2; omega)]; rfl)
              go_wp2_with fail
              go_ret
              exact ⟨ret_bool HE.out.symm, HBW.out _ HBC.out⟩
            | false =>
              have hy := Lib.hid (show decide (p3 ≤ 65536) = true from decide_eq_true (by have := of_decide_eq_false h2; omega))
              have HSY := Lib.hid (show Q = ((decide ((3 : Int) < sp) || p3 == 0) && (colR sp p0 p1 p2 p3 4 && (clipsOk it.clips && RE))) from by rw [HSX.out, hx.out, hy.out]; rfl)
              clear HSX hx hy
              cases h3 : decide (sp ≤ 3) with
              | false =>
                have hN : Hid (Q = (colR sp p0 p1 p2 p3 4 && (clipsOk it.clips && RE))) := by
                  show _ = _
                  rw [HSY.out, decide_eq_true (show (3 : Int) < sp from by have := of_decide_eq_false h3; omega)]
                  rfl
                go_wp2_with fail
                go_round
                case rel => exact ⟨4, by omega, by go_num, hN⟩
                case measure => simp [intOf]
              | true =>
                have HSZ2 := Lib.hid (show Q = ((p3 == 0) && (colR sp p0 p1 p2 p3 4 && (clipsOk it.clips && RE))) from by rw [HSY.out, decide_eq_false (show ¬ (3 : Int) < sp from by have := of_decide_eq_true h3; omega)]; rfl)
                clear HSY
                have HSY := HSZ2
                cases h4 : (p3 != 0) with
                | true =>
                  have HE := Lib.hid (show Q = false from by rw [HSZ2.out, beq_eq_false_iff_ne.2 (bne_iff_ne.1 h4)]; rfl)
                  go_wp2_with fail
                  go_ret
                  exact ⟨ret_bool HE.out.symm, HBW.out _ HBC.out⟩
                | false =>
                  have hz := Lib.hid (show (p3 == 0) = true from by rw [bne, Bool.not_eq_false'] at h4; exact h4)
                  have hN : Hid (Q = (colR sp p0 p1 p2 p3 4 && (clipsOk it.clips && RE))) := by
                    show _ = _
                    rw [HSY.out, hz.out]
                    rfl
                  go_wp2_with fail
                  go_round
                  case rel => exact ⟨4, by omega, by go_num, hN⟩
                  case measure => simp [intOf]
        | 4, _ =>
          have HQ2 := Lib.hid (show Q = (decide (it.clips.length ≤ 16) && ((it.clips.drop 0).all clipOk && RE)) from hK.out.trans (by show (true && (clipsOk it.clips && RE)) = _; rw [Bool.true_and, HCQ.out, Bool.and_assoc]))
          clear hK HCQ x0 x1 x2 x3 x4
          have y7 := HX7.out _ HBC.out
          cases h16 : decide ((16 : Int) < (it.clips.length : Int)) with
          | true =>
            have HE := Lib.hid (show Q = false from by rw [HQ2.out, decide_eq_false (show ¬ it.clips.length ≤ 16 from by have := of_decide_eq_true h16; omega)]; rfl)
            go_wp2_with fail
            go_ret
            exact ⟨ret_bool HE.out.symm, HBW.out _ HBC.out⟩
          | false =>
            have hN : Hid (Q = ((it.clips.drop 0).all clipOk && RE)) := by
              show _ = _
              rw [HQ2.out, decide_eq_true (show it.clips.length ≤ 16 from by have := of_decide_eq_false h16; omega)]
              rfl
            clear HQ2
            go_wp2_with fail
            clear h16 y7
            go_loopw [5] (fun v5 wr => ∃ k : Nat, k ≤ it.clips.length ∧ v5 = .int .i64 k ∧ Hid (Q = ((it.clips.drop k).all clipOk && RE)) ∧ Hid (Below (w.heap.size + 1) (w.alloc (.cells X 50)) wr)) (fun v _ => it.clips.length - (intOf v).toNat)
            case atStart => exact ⟨0, Nat.zero_le _, rfl, hN, HBC⟩
            case round =>
              clear hN HBC HZC
              obtain ⟨k, hk, rfl, hK, hB⟩ := hrel
              have y7 := HX7.out _ hB.out
              by_cases hkl : k < it.clips.length
              · obtain ⟨b, off, Ap2, cap2, hA, z0, z1, hp, hp2, hp3⟩ := (HCLI.out _ hB.out).elem k hkl
                subst hA
                have hst := HCS.out k hkl
                generalize it.clips[k] = cl at *
                have HST := Lib.hid (show Q = ((decide (0 < cl.path.length) && pathOk cl.path) && ((it.clips.drop (k + 1)).all clipOk && RE)) from by rw [hK.out, hst, Bool.and_assoc]; rfl)
                have HPC := Lib.hid (HPA.out cl Ap2 cap2 _ hp hp2 hp3)
                have hk2 : (k : Int) < (it.clips.length : Int) := by omega
                clear hst z1 hp hp3 hK
                generalize pathOk cl.path = qcp at *
                cases h0 : ((cl.path.length : Int) == 0) with
                | true =>
                  have HE := Lib.hid (show Q = false from by rw [HST.out, decide_eq_false (show ¬ 0 < cl.path.length from by have := eq_of_beq h0; omega)]; rfl)
                  go_wp2_with fail
                  go_ret
                  exact ⟨ret_bool HE.out.symm, HBW.out _ hB.out⟩
                | false =>
                  have HST2 := Lib.hid (show Q = (qcp && ((it.clips.drop (k + 1)).all clipOk && RE)) from by rw [HST.out, decide_eq_true (show 0 < cl.path.length from by have := beq_eq_false_iff_ne.1 h0; omega)]; rfl)
                  go_wp2_with fail
                  refine (HPC.out).mono ?_
                  rintro e w5 ⟨rfl, b5⟩
                  have HB5 := Lib.hid (hB.out.trans (b5.mono (HSZ.out _ hB.out)))
                  clear b5
                  cases qcp with
                  | false =>
                    have HE := Lib.hid (show Q = false from by rw [HST2.out]; rfl)
                    go_wp2_with fail
                    go_ret
                    exact ⟨ret_bool HE.out.symm, HBW.out _ HB5.out⟩
                  | true =>
                    have hN : Hid (Q = ((it.clips.drop (k + 1)).all clipOk && RE)) := by
                      show _ = _
                      rw [HST2.out]
                      rfl
                    go_wp2_with fail
                    go_roundw
                    case rel => exact ⟨k + 1, by omega, by go_num, hN, HB5⟩
                    case measure => simp [intOf]; omega
              obtain rfl : k = it.clips.length := by omega
              have HQ3 := Lib.hid (show Q = RE from by rw [hK.out, List.drop_of_length_le (Nat.le_refl _)]; rfl)
              clear hK
              have y8 := HX8.out _ hB.out
              have y9 := HX9.out _ hB.out
              have y10 := HX10.out _ hB.out
              have y11 := HX11.out _ hB.out
              have y12 := HX12.out _ hB.out
              have y13 := HX13.out _ hB.out
              go_wp2_with fail
              clear y7 y8 y9 y10 y11 y12 y13
              refine (HNO.out _ hB.out).mono ?_
              rintro e w6 ⟨rfl, b6⟩
              have HB6 := Lib.hid (hB.out.trans (b6.mono (HSZ.out _ hB.out)))
              clear b6
              have y0 := HX0.out _ HB6.out
              cases hk4 : (it.k == 4) with
              | true =>
                have hN : Hid (Q = fitR it (decide (0 ≤ it.font) && (decide (it.font ≤ 13) && (decide (1 ≤ it.bytes.length) && (decide (it.bytes.length ≤ 65535) && (it.path.isEmpty && qn))))) 0) := by
                  show _ = _
                  rw [HQ3.out, HRE.out, hk4]
                  rfl
                have y14 := HX14.out _ HB6.out
                have y15 := HX15.out _ HB6.out
                have y16 := HX16.out _ HB6.out
                have y17 := HX17.out _ HB6.out
                have y18 := HX18.out _ HB6.out
                have y19 := HX19.out _ HB6.out
                have y20 := HX20.out _ HB6.out
                have y21 := HX21.out _ HB6.out
                have y1 := HX1.out _ HB6.out
                clear HQ3 HRE
                go_wp2_with fail
                clear hk4
                go_loop [7] (fun v7 => ∃ i : Nat, i ≤ 6 ∧ v7 = .int .i64 i ∧ Hid (Q = fitR it (decide (0 ≤ it.font) && (decide (it.font ≤ 13) && (decide (1 ≤ it.bytes.length) && (decide (it.bytes.length ≤ 65535) && (it.path.isEmpty && qn))))) i)) (fun v => 6 - (intOf v).toNat)
                case atStart => exact ⟨0, by omega, rfl, hN⟩
                case round =>
                  clear hN
                  obtain ⟨i, hi, rfl, hK⟩ := hrel
                  match i, hi with
                  | 0, _ =>
                    have HSX := Lib.hid (show Q = (fitsB it.m0 && fitR it (decide (0 ≤ it.font) && (decide (it.font ≤ 13) && (decide (1 ≤ it.bytes.length) && (decide (it.bytes.length ≤ 65535) && (it.path.isEmpty && qn))))) 1) from hK.out)
                    clear hK
                    go_wp2_with fail
                    refine (rfits_calls it.m0 _).mono ?_
                    rintro e w7 ⟨rfl, rfl⟩
                    generalize fitsB it.m0 = qf at *
                    cases qf with
                    | false =>
                      have HE := Lib.hid (show Q = false from by rw [HSX.out]; rfl)
                      go_wp2_with fail
                      go_ret
                      exact ⟨ret_bool HE.out.symm, HBW.out _ HB6.out⟩
                    | true =>
                      have hN : Hid (Q = fitR it (decide (0 ≤ it.font) && (decide (it.font ≤ 13) && (decide (1 ≤ it.bytes.length) && (decide (it.bytes.length ≤ 65535) && (it.path.isEmpty && qn))))) 1) := by
                        show _ = _
                        rw [HSX.out]
                        rfl
                      go_wp2_with fail
                      go_round
                      case rel => exact ⟨1, by omega, by go_num, hN⟩
                      case measure => simp [intOf]
                  | 1, _ =>
                    have HSX := Lib.hid (show Q = (fitsB it.m1 && fitR it (decide (0 ≤ it.font) && (decide (it.font ≤ 13) && (decide (1 ≤ it.bytes.length) && (decide (it.bytes.length ≤ 65535) && (it.path.isEmpty && qn))))) 2) from hK.out)
                    clear hK
                    go_wp2_with fail
                    refine (rfits_calls it.m1 _).mono ?_
                    rintro e w7 ⟨rfl, rfl⟩
                    generalize fitsB it.m1 = qf at *
                    cases qf with
                    | false =>
                      have HE := Lib.hid (show Q = false from by rw [HSX.out]; rfl)
                      go_wp2_with fail
                      go_ret
                      exact ⟨ret_bool HE.out.symm, HBW.out _ HB6.out⟩
                    | true =>
                      have hN : Hid (Q = fitR it (decide (0 ≤ it.font) && (decide (it.font ≤ 13) && (decide (1 ≤ it.bytes.length) && (decide (it.bytes.length ≤ 65535) && (it.path.isEmpty && qn))))) 2) := by
                        show _ = _
                        rw [HSX.out]
                        rfl
                      go_wp2_with fail
                      go_round
                      case rel => exact ⟨2, by omega, by go_num, hN⟩
                      case measure => simp [intOf]
                  | 2, _ =>
                    have HSX := Lib.hid (show Q = (fitsB it.m2 && fitR it (decide (0 ≤ it.font) && (decide (it.font ≤ 13) && (decide (1 ≤ it.bytes.length) && (decide (it.bytes.length ≤ 65535) && (it.path.isEmpty && qn))))) 3) from hK.out)
                    clear hK
                    go_wp2_with fail
                    refine (rfits_calls it.m2 _).mono ?_
                    rintro e w7 ⟨rfl, rfl⟩
                    generalize fitsB it.m2 = qf at *
                    cases qf with
                    | false =>
                      have HE := Lib.hid (show Q = false from by rw [HSX.out]; rfl)
                      go_wp2_with fail
                      go_ret
                      exact ⟨ret_bool HE.out.symm, HBW.out _ HB6.out⟩
                    | true =>
                      have hN : Hid (Q = fitR it (decide (0 ≤ it.font) && (decide (it.font ≤ 13) && (decide (1 ≤ it.bytes.length) && (decide (it.bytes.length ≤ 65535) && (it.path.isEmpty && qn))))) 3) := by
                        show _ = _
                        rw [HSX.out]
                        rfl
                      go_wp2_with fail
                      go_round
                      case rel => exact ⟨3, by omega, by go_num, hN⟩
                      case measure => simp [intOf]
                  | 3, _ =>
                    have HSX := Lib.hid (show Q = (fitsB it.m3 && fitR it (decide (0 ≤ it.font) && (decide (it.font ≤ 13) && (decide (1 ≤ it.bytes.length) && (decide (it.bytes.length ≤ 65535) && (it.path.isEmpty && qn))))) 4) from hK.out)
                    clear hK
                    go_wp2_with fail
                    refine (rfits_calls it.m3 _).mono ?_
                    rintro e w7 ⟨rfl, rfl⟩
                    generalize fitsB it.m3 = qf at *
                    cases qf with
                    | false =>
                      have HE := Lib.hid (show Q = false from by rw [HSX.out]; rfl)
                      go_wp2_with fail
                      go_ret
                      exact ⟨ret_bool HE.out.symm, HBW.out _ HB6.out⟩
                    | true =>
                      have hN : Hid (Q = fitR it (decide (0 ≤ it.font) && (decide (it.font ≤ 13) && (decide (1 ≤ it.bytes.length) && (decide (it.bytes.length ≤ 65535) && (it.path.isEmpty && qn))))) 4) := by
                        show _ = _
                        rw [HSX.out]
                        rfl
                      go_wp2_with fail
                      go_round
                      case rel => exact ⟨4, by omega, by go_num, hN⟩
                      case measure => simp [intOf]
                  | 4, _ =>
                    have HSX := Lib.hid (show Q = (fitsB it.m4 && fitR it (decide (0 ≤ it.font) && (decide (it.font ≤ 13) && (decide (1 ≤ it.bytes.length) && (decide (it.bytes.length ≤ 65535) && (it.path.isEmpty && qn))))) 5) from hK.out)
                    clear hK
                    go_wp2_with fail
                    refine (rfits_calls it.m4 _).mono ?_
                    rintro e w7 ⟨rfl, rfl⟩
                    generalize fitsB it.m4 = qf at *
                    cases qf with
                    | false =>
                      have HE := Lib.hid (show Q = false from by rw [HSX.out]; rfl)
                      go_wp2_with fail
                      go_ret
                      exact ⟨ret_bool HE.out.symm, HBW.out _ HB6.out⟩
                    | true =>
                      have hN : Hid (Q = fitR it (decide (0 ≤ it.font) && (decide (it.font ≤ 13) && (decide (1 ≤ it.bytes.length) && (decide (it.bytes.length ≤ 65535) && (it.path.isEmpty && qn))))) 5) := by
                        show _ = _
                        rw [HSX.out]
                        rfl
                      go_wp2_with fail
                      go_round
                      case rel => exact ⟨5, by omega, by go_num, hN⟩
                      case measure => simp [intOf]
                  | 5, _ =>
                    have HSX := Lib.hid (show Q = (fitsB it.m5 && fitR it (decide (0 ≤ it.font) && (decide (it.font ≤ 13) && (decide (1 ≤ it.bytes.length) && (decide (it.bytes.length ≤ 65535) && (it.path.isEmpty && qn))))) 6) from hK.out)
                    clear hK
                    go_wp2_with fail
                    refine (rfits_calls it.m5 _).mono ?_
                    rintro e w7 ⟨rfl, rfl⟩
                    generalize fitsB it.m5 = qf at *
                    cases qf with
                    | false =>
                      have HE := Lib.hid (show Q = false from by rw [HSX.out]; rfl)
                      go_wp2_with fail
                      go_ret
                      exact ⟨ret_bool HE.out.symm, HBW.out _ HB6.out⟩
                    | true =>
                      have hN : Hid (Q = fitR it (decide (0 ≤ it.font) && (decide (it.font ≤ 13) && (decide (1 ≤ it.bytes.length) && (decide (it.bytes.length ≤ 65535) && (it.path.isEmpty && qn))))) 6) := by
                        show _ = _
                        rw [HSX.out]
                        rfl
                      go_wp2_with fail
                      go_round
                      case rel => exact ⟨6, by omega, by go_num, hN⟩
                      case measure => simp [intOf]
                  | 6, _ =>
                    have HSX := Lib.hid (show Q = (decide (0 ≤ it.font) && (decide (it.font ≤ 13) && (decide (1 ≤ it.bytes.length) && (decide (it.bytes.length ≤ 65535) && (it.path.isEmpty && qn))))) from hK.out)
                    clear hK y15 y16 y17 y18 y19 y20
                    cases g1 : decide (0 ≤ it.font) with
                    | false =>
                      have HE := Lib.hid (show Q = false from by rw [HSX.out, g1]; rfl)
                      go_wp2_with fail
                      go_ret
                      exact ⟨ret_bool HE.out.symm, HBW.out _ HB6.out⟩
                    | true =>
                      cases g2 : decide (it.font ≤ 13) with
                      | false =>
                        have HE := Lib.hid (show Q = false from by rw [HSX.out, g1, g2]; rfl)
                        go_wp2_with fail
                        go_ret
                        exact ⟨ret_bool HE.out.symm, HBW.out _ HB6.out⟩
                      | true =>
                        have HSY := Lib.hid (show Q = (decide (1 ≤ it.bytes.length) && (decide (it.bytes.length ≤ 65535) && (((it.path.length : Int) == 0) && qn))) from by rw [HSX.out, g1, g2, HPE.out]; rfl)
                        clear HSX HBE
                        generalize it.bytes.length = nb at *
                        by_cases h1 : 1 ≤ nb
                        rotate_left
                        · have HE := Lib.hid (show Q = false from by rw [HSY.out, decide_eq_false h1]; rfl)
                          obtain rfl : nb = 0 := by omega
                          go_wp2_with fail
                          go_ret
                          exact ⟨ret_bool HE.out.symm, HBW.out _ HB6.out⟩
                        have q1 : decide ((1 : Int) ≤ (nb : Int)) = true := decide_eq_true (by omega)
                        have q1' : decide (1 ≤ nb) = true := decide_eq_true h1
                        have q1'' : decide (0 < nb) = true := decide_eq_true h1
                        by_cases h2 : nb ≤ 65535
                        rotate_left
                        · have HE := Lib.hid (show Q = false from by rw [HSY.out, decide_eq_false h2, decide_eq_true h1]; rfl)
                          have q2 : decide ((nb : Int) ≤ 65535) = false := decide_eq_false (by omega)
                          have q2' : decide (nb ≤ 65535) = false := decide_eq_false h2
                          clear h2
                          go_wp2_with fail
                          go_ret
                          exact ⟨ret_bool HE.out.symm, HBW.out _ HB6.out⟩
                        have HSZ3 := Lib.hid (show Q = (((it.path.length : Int) == 0) && qn) from by rw [HSY.out, decide_eq_true h2, decide_eq_true h1]; rfl)
                        have q2 : decide ((nb : Int) ≤ 65535) = true := decide_eq_true (by omega)
                        have q2' : decide (nb ≤ 65535) = true := decide_eq_true h2
                        clear HSY
                        cases hp : ((it.path.length : Int) == 0) with
                        | false =>
                          have HE := Lib.hid (show Q = false from by rw [HSZ3.out, hp]; rfl)
                          go_wp2_with fail
                          go_ret
                          exact ⟨ret_bool HE.out.symm, HBW.out _ HB6.out⟩
                        | true =>
                          have HE := Lib.hid (show Q = qn from by rw [HSZ3.out, hp]; rfl)
                          go_wp2_with fail
                          go_ret
                          exact ⟨ret_bool HE.out.symm, HBW.out _ HB6.out⟩
                  | n + 7, hn => exact absurd hn (by omega)
              | false =>
                have HQ4 := Lib.hid (show Q = (R && S) from by rw [HQ3.out, HRE.out, hk4]; rfl)
                clear HQ3 HRE
                have y1 := HX1.out _ HB6.out
                have y14 := HX14.out _ HB6.out
                have y15 := HX15.out _ HB6.out
                have y16 := HX16.out _ HB6.out
                have y17 := HX17.out _ HB6.out
                have y18 := HX18.out _ HB6.out
                have y19 := HX19.out _ HB6.out
                have y20 := HX20.out _ HB6.out
                have y21 := HX21.out _ HB6.out
                cases k1 : decide (it.k < 1) with
                | true =>
                  have HE := Lib.hid (show Q = false from by rw [HQ4.out, HS.out, beq_eq_false_iff_ne.2 (show it.k ≠ 3 from by have := of_decide_eq_true k1; omega), beq_eq_false_iff_ne.2 (show it.k ≠ 1 from by have := of_decide_eq_true k1; omega), beq_eq_false_iff_ne.2 (show it.k ≠ 2 from by have := of_decide_eq_true k1; omega)]; simp)
                  go_wp2_with fail
                  go_ret
                  exact ⟨ret_bool HE.out.symm, HBW.out _ HB6.out⟩
                | false =>
                  cases k3 : decide (3 < it.k) with
                  | true =>
                    have HE := Lib.hid (show Q = false from by rw [HQ4.out, HS.out, beq_eq_false_iff_ne.2 (show it.k ≠ 3 from by have := of_decide_eq_true k3; omega), beq_eq_false_iff_ne.2 (show it.k ≠ 1 from by have := of_decide_eq_true k3; omega), beq_eq_false_iff_ne.2 (show it.k ≠ 2 from by have := of_decide_eq_true k3; omega)]; simp)
                    go_wp2_with fail
                    go_ret
                    exact ⟨ret_bool HE.out.symm, HBW.out _ HB6.out⟩
                  | false =>
                    cases hf : (it.font != 0) with
                    | true =>
                      have HE := Lib.hid (show Q = false from by rw [HQ4.out, HR.out, beq_eq_false_iff_ne.2 (bne_iff_ne.1 hf)]; rfl)
                      go_wp2_with fail
                      go_ret
                      exact ⟨ret_bool HE.out.symm, HBW.out _ HB6.out⟩
                    | false =>
                      have hf' : (it.font == 0) = true := by rw [bne, Bool.not_eq_false'] at hf; exact hf
                      have HR1 := Lib.hid (show R = ((it.m0 == 0 && (it.m1 == 0 && (it.m2 == 0 && (it.m3 == 0 && (it.m4 == 0 && it.m5 == 0))))) && (it.bytes.isEmpty && (!it.path.isEmpty && qs))) from by rw [HR.out, hf']; rfl)
                      clear HR hf'
                      generalize (it.m0 == 0 && (it.m1 == 0 && (it.m2 == 0 && (it.m3 == 0 && (it.m4 == 0 && it.m5 == 0))))) = qm at *
                      cases qm with
                      | false =>
                        have HE := Lib.hid (show Q = false from by rw [HQ4.out, HR1.out]; rfl)
                        go_wp2_with fail
                        go_ret
                        exact ⟨ret_bool HE.out.symm, HBW.out _ HB6.out⟩
                      | true =>
                        by_cases hb : 0 < it.bytes.length
                        · have hb' : ((it.bytes.length : Int) == 0) = false := beq_eq_false_iff_ne.2 (by omega)
                          have hbb : decide ((0 : Int) < (it.bytes.length : Int)) = true := decide_eq_true (by omega)
                          have HE := Lib.hid (show Q = false from by rw [HQ4.out, HR1.out, HBE.out, hb']; rfl)
                          clear hb'
                          go_wp2_with fail
                          go_ret
                          exact ⟨ret_bool HE.out.symm, HBW.out _ HB6.out⟩
                        have hb' : ((it.bytes.length : Int) == 0) = true := beq_iff_eq.2 (by omega)
                        have hbb : decide ((0 : Int) < (it.bytes.length : Int)) = false := decide_eq_false (by omega)
                        cases hp : ((it.path.length : Int) == 0) with
                        | true =>
                          have HE := Lib.hid (show Q = false from by rw [HQ4.out, HR1.out, HBE.out, HPE.out, hb', hp]; rfl)
                          go_wp2_with fail
                          go_ret
                          exact ⟨ret_bool HE.out.symm, HBW.out _ HB6.out⟩
                        | false =>
                          have HR2 := Lib.hid (show R = qs from by rw [HR1.out, HBE.out, HPE.out, hb', hp]; rfl)
                          clear hb'
                          go_wp2_with fail
                          refine (HPS.out _ HB6.out).mono ?_
                          rintro e w8 ⟨rfl, b8⟩
                          have HB8 := Lib.hid (HB6.out.trans (b8.mono (HSZ.out _ HB6.out)))
                          clear b8
                          cases qs with
                          | false =>
                            have HE := Lib.hid (show Q = false from by rw [HQ4.out, HR2.out]; rfl)
                            go_wp2_with fail
                            go_ret
                            exact ⟨ret_bool HE.out.symm, HBW.out _ HB8.out⟩
                          | true =>
                            clear y0 y1 y14 y15 y16 y17 y18 y19 y20 y21
                            have HQ5 := Lib.hid (show Q = S from by rw [HQ4.out, HR2.out]; rfl)
                            have y0 := HX0.out _ HB8.out
                            cases h3 : (it.k == 3) with
                            | true =>
                              have HE := Lib.hid (show Q = qp from by rw [HQ5.out, HS.out, h3]; rfl)
                              have y8 := HX8.out _ HB8.out
                              have y9 := HX9.out _ HB8.out
                              have y10 := HX10.out _ HB8.out
                              have y11 := HX11.out _ HB8.out
                              have y12 := HX12.out _ HB8.out
                              have y13 := HX13.out _ HB8.out
                              go_wp2_with fail
                              refine (HPN.out _ HB8.out).mono ?_
                              rintro e w9 ⟨rfl, b9⟩
                              have HB9 := Lib.hid (HB8.out.trans (b9.mono (HSZ.out _ HB8.out)))
                              clear b9
                              go_wp2_with fail
                              go_ret
                              exact ⟨ret_bool HE.out.symm, HBW.out _ HB9.out⟩
                            | false =>
                              have hk12 : it.k = 1 ∨ it.k = 2 := by have h1 := of_decide_eq_false k1; have h2 := of_decide_eq_false k3; have h3' := beq_eq_false_iff_ne.1 h3; omega
                              have HE := Lib.hid (show Q = qn from by
                                rw [HQ5.out, HS.out, h3]
                                rcases hk12 with h | h <;> rw [h] <;> rfl)
                              clear hk12
                              go_wp2_with fail
                              go_ret
                              exact ⟨ret_bool HE.out.symm, HBW.out _ HB8.out⟩
        | n + 5, hn => exact absurd hn (by omega)
end Go.Proofs.YtdkgfgmmmjpkgaaGreatDoor

namespace Go.Proofs.YtdkgfgmmmjpkgaaGreatDoor
open Go.RowKit Go.Shelf

theorem pageOk_eq2 (p : PageP) : pageOk p = (sideOk p.w && (sideOk p.h && (decide (p.items.length ≤ 4096) && (p.items.drop 0).all itemOk))) := by
  rw [pageOk, List.drop_zero]
  simp only [Bool.and_assoc]
set_option maxHeartbeats 3200000 in
set_option maxRecDepth 100000 in
theorem rSound20_calls (p : PageP) (v : Array Value) (w : World) (hv : PageRd w p v) : Calls Tryz.prog 11 #[.agg v] w fun e w' => e = .returned (.bool (pageOk p)) ∧ Below w.heap.size w w' := by
  obtain ⟨A, c, rfl, hI, hlc, hcm⟩ := hv
  unfold maxLen at hcm
  have HQ := Lib.hid (pageOk_eq2 p)
  have HI := Lib.hid hI
  have HS1 := Lib.hid (fun W => rSide_calls p.w W)
  have HS2 := Lib.hid (fun W => rSide_calls p.h W)
  have HBW := Lib.hid (show ∀ W, Below (w.heap.size + 1) (w.alloc (.cells #[.int .i64 p.w, .int .i64 p.h, .slice A p.items.length c] 24)) W → Below w.heap.size w W from fun W hW => (below_alloc w _).trans (hW.mono (by omega)))
  have HC2 := Lib.hid (show ∀ W, Below (w.heap.size + 1) (w.alloc (.cells #[.int .i64 p.w, .int .i64 p.h, .slice A p.items.length c] 24)) W → W.cell? ⟨w.heap.size, 2, none⟩ = some (.slice A p.items.length c) from fun W hW => by
    rw [hW.cell (by simp), Lib.cell_of_heap (heap_alloc_new w _)]
    rfl)
  have HSZ := Lib.hid (show ∀ W, Below (w.heap.size + 1) (w.alloc (.cells #[.int .i64 p.w, .int .i64 p.h, .slice A p.items.length c] 24)) W → w.heap.size + 1 ≤ W.heap.size from fun W hW => by have := hW.size; simp only [World.size_alloc] at this; exact this)
  have HB0 := Lib.hid (Below.refl (w.heap.size + 1) (w.alloc (.cells #[.int .i64 p.w, .int .i64 p.h, .slice A p.items.length c] 24)))
  have HIS := Lib.hid (fun i (hi : i < p.items.length) => all_drop p.items itemOk i hi)
  clear hI
  generalize pageOk p = Q at *
  generalize sideOk p.w = q1 at *
  generalize sideOk p.h = q2 at *
  go_enter Tryz.func11, Tryz.ntmps11
  go_wp2_with fail
  refine (HS1.out _).mono ?_
  rintro e w1 ⟨rfl, rfl⟩
  cases q1 with
  | false =>
    have HE := Lib.hid (show Q = false from by rw [HQ.out]; rfl)
    go_wp2_with fail
    go_ret
    exact ⟨ret_bool HE.out.symm, below_alloc w _⟩
  | true =>
    go_wp2_with fail
    refine (HS2.out _).mono ?_
    rintro e w2 ⟨rfl, rfl⟩
    cases q2 with
    | false =>
      have HE := Lib.hid (show Q = false from by rw [HQ.out]; rfl)
      go_wp2_with fail
      go_ret
      exact ⟨ret_bool HE.out.symm, below_alloc w _⟩
    | true =>
      cases h0 : decide ((4096 : Int) < (p.items.length : Int)) with
      | true =>
        have HE := Lib.hid (show Q = false from by rw [HQ.out, decide_eq_false (show ¬ p.items.length ≤ 4096 from by have := of_decide_eq_true h0; omega)]; rfl)
        go_wp2_with fail
        go_ret
        exact ⟨ret_bool HE.out.symm, below_alloc w _⟩
      | false =>
        have hN : Hid (Q = (p.items.drop 0).all itemOk) := by
          show _ = _
          rw [HQ.out, decide_eq_true (show p.items.length ≤ 4096 from by have := of_decide_eq_false h0; omega)]
          rfl
        clear HQ
        go_wp2_with fail
        clear h0
        go_loopw [3] (fun v3 wr => ∃ i : Nat, i ≤ p.items.length ∧ v3 = .int .i64 i ∧ Hid (Q = (p.items.drop i).all itemOk) ∧ Hid (Below (w.heap.size + 1) (w.alloc (.cells #[.int .i64 p.w, .int .i64 p.h, .slice A p.items.length c] 24)) wr)) (fun v _ => p.items.length - (intOf v).toNat)
        case atStart => exact ⟨0, Nat.zero_le _, rfl, hN, HB0⟩
        case round =>
          clear hN HB0
          obtain ⟨i, hi, rfl, hE, hB⟩ := hrel
          have y2 := HC2.out wr hB.out
          by_cases hlt : i < p.items.length
          · obtain ⟨b, off, X, hA, hX, hcells⟩ := (HI.out.keep (HBW.out _ hB.out)).elem i hlt
            subst hA
            have hst := HIS.out i hlt
            have hi2 : (i : Int) < (p.items.length : Int) := by omega
            generalize p.items[i] = it at *
            have HRG := Lib.hid (show wr.rangeAt b (off + i * 22) X.toList from fun j u hj => hcells j u (by rw [← hj]; exact Array.getElem?_toList.symm))
            have HIC := Lib.hid (rItem_calls it X wr hX)
            obtain ⟨Ap, cp, Ac, cc, Ad, cd, Ab, cb, hve, -⟩ := hX
            have HXI := Lib.hid (show (Tryz.prog.info? 50).map (·.size) = some X.toList.length from by rw [show X.toList.length = 22 from by rw [hve]; rfl]; kernel_rfl)
            have HST := Lib.hid (show Q = (itemOk it && (p.items.drop (i + 1)).all itemOk) from by rw [hE.out, hst])
            clear hcells hve hst hE
            generalize itemOk it = qi at *
            go_wp2_with (refine wpList_load_mid rfl 50 _ rfl b (off + i * 22) rfl X.toList _ HRG.out Tryz.underlying50 rfl HXI.out ?_; simp only [Array.toArray_toList])
            refine HIC.out.mono ?_
            rintro e w5 ⟨rfl, b5⟩
            have B5 := Lib.hid (hB.out.trans (b5.mono (HSZ.out _ hB.out)))
            clear b5 HIC
            cases qi with
            | false =>
              have HE := Lib.hid (show Q = false from by rw [HST.out]; rfl)
              go_wp2_with fail
              go_ret
              exact ⟨ret_bool HE.out.symm, HBW.out _ B5.out⟩
            | true =>
              have hN : Hid (Q = (p.items.drop (i + 1)).all itemOk) := by
                show _ = _
                rw [HST.out]
                rfl
              go_wp2_with fail
              go_roundw
              case rel => exact ⟨i + 1, by omega, by go_num, hN, B5⟩
              case measure => simp [intOf]; omega
          · obtain rfl : i = p.items.length := by omega
            have HE := Lib.hid (show Q = true from by rw [hE.out, List.drop_of_length_le (Nat.le_refl _)]; rfl)
            go_wp2_with fail
            go_ret
            exact ⟨ret_bool HE.out.symm, HBW.out _ hB.out⟩
end Go.Proofs.YtdkgfgmmmjpkgaaGreatDoor

namespace Go.Proofs.YtdkgfgmmmjpkgaaGreatDoor
open Go.RowKit Go.Shelf

/-- The item's box and the page's box, as DrawOnce holds them. -/
def OnceAt (w : World) (X : Array Value) (v2 : Value) (W : World) : Prop :=
  Below w.heap.size w W ∧ W.heap[w.heap.size]? = some (.cells X 50 (0, 0)) ∧ W.heap[w.heap.size + 1 + 1]? = some (.cells #[.int .i64 65536, .int .i64 65536, v2] 24 (0, 0))
section
variable {w W W' : World} {X : Array Value} {v2 : Value}
theorem OnceAt.below (h : OnceAt w X v2 W) (hb : Below W.heap.size W W') : OnceAt w X v2 W' :=
  ⟨h.1.trans (hb.mono h.1.size), (hb.block _ (Lib.lt_of_heap h.2.1)).trans h.2.1, (hb.block _ (Lib.lt_of_heap h.2.2)).trans h.2.2⟩
theorem OnceAt.lt (h : OnceAt w X v2 W) : w.heap.size + 1 + 1 < W.heap.size := Lib.lt_of_heap h.2.2
theorem OnceAt.alloc (h : OnceAt w X v2 W) (o : Obj) : OnceAt w X v2 (W.alloc o) := h.below (below_alloc W o)
theorem OnceAt.store (h : OnceAt w X v2 W) (v : Value) : OnceAt w X v (W.setCell ⟨w.heap.size + 1 + 1, 2, none⟩ v) :=
  ⟨h.1.setCell (by simp; omega) v, (Below.heap_setCell _ _ _ _ (by simp; omega)).trans h.2.1, Lib.heap_setCell_same (i := 2) h.2.2 v⟩
theorem OnceAt.other (h : OnceAt w X v2 W) (p : Addr) (hp : w.heap.size + 1 + 1 < p.block) (v : Value) : OnceAt w X v2 (W.setCell p v) :=
  ⟨h.1.setCell (by omega) v, (Below.heap_setCell _ _ _ _ (by omega)).trans h.2.1, (Below.heap_setCell _ _ _ _ (by omega)).trans h.2.2⟩
theorem OnceAt.c0 (h : OnceAt w X v2 W) : W.cell? ⟨w.heap.size + 1 + 1, 0, none⟩ = some (.int .i64 65536) := (Lib.cell_of_heap h.2.2 _).trans rfl
theorem OnceAt.c1 (h : OnceAt w X v2 W) : W.cell? ⟨w.heap.size + 1 + 1, 1, none⟩ = some (.int .i64 65536) := (Lib.cell_of_heap h.2.2 _).trans rfl
theorem OnceAt.c2 (h : OnceAt w X v2 W) : W.cell? ⟨w.heap.size + 1 + 1, 2, none⟩ = some v2 := (Lib.cell_of_heap h.2.2 _).trans rfl
theorem OnceAt.f2 (h : OnceAt w X v2 W) : W.frozen? ⟨w.heap.size + 1 + 1, 2, none⟩ = false := Lib.frozen_of_heap h.2.2 2
theorem OnceAt.range (h : OnceAt w X v2 W) : W.rangeAt w.heap.size 0 X.toList := fun j u hj => by
  rw [Nat.zero_add, Lib.cell_of_heap h.2.1, ← hj]
  exact Array.getElem?_toList.symm
theorem OnceAt.item (h : OnceAt w X v2 W) (j : Nat) (v : Value) (hj : X[j]? = some v) : W.cell? ⟨w.heap.size, j, none⟩ = some v := (Lib.cell_of_heap h.2.1 _).trans hj
end
theorem build1 (c0 c1 c2 c3 c4 c5 c6 c7 c8 c9 c10 c11 c12 c13 c14 c15 c16 c17 c18 c19 c20 c21 : Value) (w : World) :
    (Instr.buildSlice 22 1 #[(0, .agg #[c0, c1, c2, c3, c4, c5, c6, c7, c8, c9, c10, c11, c12, c13, c14, c15, c16, c17, c18, c19, c20, c21])]).run Tryz.prog w = .ok (.slice (some ⟨w.heap.size, 0, none⟩) 1 1) (w.alloc (.cells #[c0, c1, c2, c3, c4, c5, c6, c7, c8, c9, c10, c11, c12, c13, c14, c15, c16, c17, c18, c19, c20, c21] 50)) := by kernel_rfl
theorem build2 (c0 c1 c2 c3 c4 c5 c6 c7 c8 c9 c10 c11 c12 c13 c14 c15 c16 c17 c18 c19 c20 c21 : Value) (w : World) :
    (Instr.buildSlice 22 2 #[(0, .agg #[c0, c1, c2, c3, c4, c5, c6, c7, c8, c9, c10, c11, c12, c13, c14, c15, c16, c17, c18, c19, c20, c21]), (1, .agg #[c0, c1, c2, c3, c4, c5, c6, c7, c8, c9, c10, c11, c12, c13, c14, c15, c16, c17, c18, c19, c20, c21])]).run Tryz.prog w = .ok (.slice (some ⟨w.heap.size, 0, none⟩) 2 2) (w.alloc (.cells (#[c0, c1, c2, c3, c4, c5, c6, c7, c8, c9, c10, c11, c12, c13, c14, c15, c16, c17, c18, c19, c20, c21] ++ #[c0, c1, c2, c3, c4, c5, c6, c7, c8, c9, c10, c11, c12, c13, c14, c15, c16, c17, c18, c19, c20, c21]) 50)) := by kernel_rfl
theorem build3 (c0 c1 c2 c3 c4 c5 c6 c7 c8 c9 c10 c11 c12 c13 c14 c15 c16 c17 c18 c19 c20 c21 : Value) (w : World) :
    (Instr.buildSlice 22 3 #[(0, .agg #[c0, c1, c2, c3, c4, c5, c6, c7, c8, c9, c10, c11, c12, c13, c14, c15, c16, c17, c18, c19, c20, c21]), (1, .agg #[c0, c1, c2, c3, c4, c5, c6, c7, c8, c9, c10, c11, c12, c13, c14, c15, c16, c17, c18, c19, c20, c21]), (2, .agg #[c0, c1, c2, c3, c4, c5, c6, c7, c8, c9, c10, c11, c12, c13, c14, c15, c16, c17, c18, c19, c20, c21])]).run Tryz.prog w = .ok (.slice (some ⟨w.heap.size, 0, none⟩) 3 3) (w.alloc (.cells (#[c0, c1, c2, c3, c4, c5, c6, c7, c8, c9, c10, c11, c12, c13, c14, c15, c16, c17, c18, c19, c20, c21] ++ (#[c0, c1, c2, c3, c4, c5, c6, c7, c8, c9, c10, c11, c12, c13, c14, c15, c16, c17, c18, c19, c20, c21] ++ #[c0, c1, c2, c3, c4, c5, c6, c7, c8, c9, c10, c11, c12, c13, c14, c15, c16, c17, c18, c19, c20, c21])) 50)) := by kernel_rfl
theorem wpList_bslice {P : Program} {ops : Array Oper} {rest : List Oper} {op : Oper} {a : Act} {W W' : World} {Q : Exit → Act → World → Prop} (hgd : op.guard = none) (t : TypeId) (k : Nat) (parts : Array (Nat × Operand)) (ho : op.op = .buildSlice t k parts)
    (ps : Array (Nat × Value)) (hps : (parts.toList.map fun (i, x) => (i, a.eval x)) = ps.toList) (v : Value) (hrun : (Instr.buildSlice t k ps).run P W = .ok v W') (h : wpList P ops Q rest (a.put op.dst v) W') : wpList P ops Q (op :: rest) a W :=
  wpList_plain hgd fun _ hK => by
    have hps2 : (parts.map fun (i, x) => (i, a.eval x)) = ps := Array.toList_inj.1 (by rw [Array.toList_map]; exact hps)
    unfold Oper.wp execOp
    subst hps2
    simp only [ho, Sem.run_bind, hrun, Result.andThen_ok]
    exact hK _ _ h
def repA (X : Array Value) : Nat → Array Value
  | 0 => #[]
  | 1 => X
  | n + 2 => X ++ repA X (n + 1)
theorem repA_get (X : Array Value) (hX : X.size = 22) : ∀ (n i j : Nat) (v : Value), i < n → X[j]? = some v → (repA X n)[i * 22 + j]? = some v
  | 0, i, j, v, h, hj => absurd h (Nat.not_lt_zero _)
  | 1, i, j, v, h, hj => by
    obtain rfl : i = 0 := by omega
    simpa [repA] using hj
  | n + 2, i, j, v, h, hj => by
    have hjl : j < 22 := by rw [← hX]; exact (Array.getElem?_eq_some_iff.1 hj).1
    rw [repA]
    cases i with
    | zero => rw [Nat.zero_mul, Nat.zero_add, Array.getElem?_append_left (by omega)]; exact hj
    | succ i =>
      have := repA_get X hX (n + 1) i j v (by omega) hj
      rw [Array.getElem?_append_right (by omega), show (i + 1) * 22 + j - X.size = i * 22 + j from by omega]
      exact this
theorem items_rep {W : World} {it : ItemP} {X : Array Value} (hX : X.size = 22) (hr : ItemRd W it X) (g n : Nat) (h : ∀ j v, (repA X n)[j]? = some v → W.cell? ⟨g, j, none⟩ = some v) : ItemsAt W (some ⟨g, 0, none⟩) (List.replicate n it) := by
  refine ⟨fun _ => X, .inr ⟨g, 0, rfl, fun i hi j v hj => ?_⟩, fun i hi => ?_⟩
  · rw [List.length_replicate] at hi
    rw [Nat.zero_add]
    exact h _ v (repA_get X hX n i j v hi hj)
  · rw [List.getElem_replicate]
    exact hr

theorem once_page {w W : World} {X : Array Value} {v2 : Value} (h : OnceAt w X v2 W) (it' : ItemP) (Y : Array Value) (hY : Y.size = 22) (hr : ItemRd w it' Y) (k : Nat) :
    OnceAt w X (.slice (some ⟨W.heap.size, 0, none⟩) k k) ((W.alloc (.cells (repA Y k) 50)).setCell ⟨w.heap.size + 1 + 1, 2, none⟩ (.slice (some ⟨W.heap.size, 0, none⟩) k k)) ∧
    (k ≤ maxLen → PageRd ((W.alloc (.cells (repA Y k) 50)).setCell ⟨w.heap.size + 1 + 1, 2, none⟩ (.slice (some ⟨W.heap.size, 0, none⟩) k k)) (pg (List.replicate k it')) #[.int .i64 65536, .int .i64 65536, .slice (some ⟨W.heap.size, 0, none⟩) k k]) := by
  have h1 := (h.alloc (.cells (repA Y k) 50)).store (.slice (some ⟨W.heap.size, 0, none⟩) k k)
  have hlt := h.lt
  refine ⟨h1, fun hk => ⟨some ⟨W.heap.size, 0, none⟩, k, ?_, ?_, ?_, hk⟩⟩
  · show _ = #[Value.int .i64 65536, .int .i64 65536, .slice _ (List.replicate k it').length k]
    rw [List.length_replicate]
  · refine items_rep hY (hr.keep h1.1) W.heap.size k fun j v hj => ?_
    have h2 : ((W.alloc (.cells (repA Y k) 50)).setCell ⟨w.heap.size + 1 + 1, 2, none⟩ (.slice (some ⟨W.heap.size, 0, none⟩) k k)).heap[W.heap.size]? = some (.cells (repA Y k) 50 (0, 0)) :=
      (Below.heap_setCell _ _ _ _ (by simp; omega)).trans (heap_alloc_new W _)
    exact (Lib.cell_of_heap h2 j).trans hj
  · show (List.replicate k it').length ≤ k
    rw [List.length_replicate]
    exact Nat.le_refl _
/-- The plain item's cells. -/
def plainC (it : ItemP) (Ap : Option Addr) (cp : Nat) (pw pc pj pm : Int) (pd : Value) (pp : Int) (Ab : Option Addr) (cb : Nat) : Array Value :=
  #[.int .i64 it.k, .slice Ap it.path.length cp, .int .i64 1, .int .i64 0, .int .i64 0, .int .i64 0, .int .i64 0, .slice none 0 0, .int .i64 pw, .int .i64 pc, .int .i64 pj, .int .i64 pm, pd, .int .i64 pp, .int .i64 it.font, .int .i64 it.m0, .int .i64 it.m1, .int .i64 it.m2, .int .i64 it.m3, .int .i64 it.m4, .int .i64 it.m5, .slice Ab it.bytes.length cb]
def PlainAt (w : World) (it : ItemP) (Y : Array Value) : Prop :=
  ItemRd w (plainP it) Y ∧ Y.size = 22 ∧ Y.all (·.oneCell') = true ∧ ∀ W : World, (Instr.buildSlice 22 1 #[(0, .agg Y)]).run Tryz.prog W = .ok (.slice (some ⟨W.heap.size, 0, none⟩) 1 1) (W.alloc (.cells Y 50))
theorem plainAt_of {w : World} {it : ItemP} {Ap : Option Addr} {cp : Nat} {pw pc pj pm pp : Int} {pl : List Int} {Ad : Option Addr} {cd : Nat} {Ab : Option Addr} {cb : Nat} (hp : (plainP it).pen = ⟨pw, pc, pj, pm, pl, pp⟩)
    (h1 : PathAt w Ap it.path ∧ it.path.length ≤ cp ∧ cp ≤ maxLen) (h3 : IntsAt w Ad pl ∧ pl.length ≤ cd ∧ cd ≤ maxLen) (h4 : BytesAt w Ab it.bytes ∧ it.bytes.length ≤ cb ∧ cb ≤ maxLen) :
    PlainAt w it (plainC it Ap cp pw pc pj pm (.slice Ad pl.length cd) pp Ab cb) := by
  refine ⟨⟨Ap, cp, none, 0, Ad, cd, Ab, cb, ?_, h1, ⟨⟨fun _ => #[], .inl rfl, fun i hi => absurd hi (Nat.not_lt_zero _)⟩, Nat.le_refl _, Nat.zero_le _⟩, ?_, h4⟩, rfl, by simp [plainC, Value.oneCell'], fun W => build1 _ _ _ _ _ _ _ _ _ _ _ _ _ _ _ _ _ _ _ _ _ _ W⟩
  · rw [hp]; rfl
  · rw [hp]; exact h3

set_option maxHeartbeats 12800000 in
set_option maxRecDepth 100000 in
theorem once_calls (it : ItemP) (v : Array Value) (w : World) (hv : ItemRd w it v) (ht : Tab w) (hF : FTab w) :
    Calls Tryz.prog 6 #[.agg v] w fun e w' => e = .returned (.bool true) ∧ Below w.heap.size w w' := by
  have hv0 := hv
  obtain ⟨Ap, cp, Ac, cc, Ad, cd, Ab, cb, hve, hp1, -, hd1, hb1⟩ := hv
  obtain ⟨X, hX⟩ : ∃ X, X = v := ⟨_, rfl⟩
  rw [← hX] at hve hv0 ⊢
  clear hX
  have HXS := Lib.hid (show X.size = 22 from by rw [hve]; rfl)
  have HXI := Lib.hid (show (Tryz.prog.info? 50).map (·.size) = some X.toList.length from by rw [show X.toList.length = 22 from by rw [hve]; rfl]; kernel_rfl)
  have HX1 := Lib.hid (show X.all (·.oneCell') = true from by rw [hve]; simp [Value.oneCell'])
  have HXJ := Lib.hid (show (Tryz.prog.info? 50).map (·.size) = some X.size from by rw [HXS.out]; kernel_rfl)
  have B1 : ∀ W : World, (Instr.buildSlice 22 1 #[(0, .agg X)]).run Tryz.prog W = .ok (.slice (some ⟨W.heap.size, 0, none⟩) 1 1) (W.alloc (.cells X 50)) := fun W => by rw [hve]; exact build1 _ _ _ _ _ _ _ _ _ _ _ _ _ _ _ _ _ _ _ _ _ _ W
  have B2 : ∀ W : World, (Instr.buildSlice 22 2 #[(0, .agg X), (1, .agg X)]).run Tryz.prog W = .ok (.slice (some ⟨W.heap.size, 0, none⟩) 2 2) (W.alloc (.cells (repA X 2) 50)) := fun W => by rw [hve]; exact build2 _ _ _ _ _ _ _ _ _ _ _ _ _ _ _ _ _ _ _ _ _ _ W
  have B3 : ∀ W : World, (Instr.buildSlice 22 3 #[(0, .agg X), (1, .agg X), (2, .agg X)]).run Tryz.prog W = .ok (.slice (some ⟨W.heap.size, 0, none⟩) 3 3) (W.alloc (.cells (repA X 3) 50)) := fun W => by rw [hve]; exact build3 _ _ _ _ _ _ _ _ _ _ _ _ _ _ _ _ _ _ _ _ _ _ W
  have HB2 := Lib.hid B2
  have HB3 := Lib.hid B3
  clear B2 B3
  have HXE := Lib.hid hve
  have HR0 := Lib.hid (show (w.alloc (.cells X 50)).rangeAt w.heap.size 0 X.toList from fun j u hj => by
    rw [Nat.zero_add, Lib.cell_of_heap (heap_alloc_new w _), ← hj]
    exact Array.getElem?_toList.symm)
  have HR0L := HR0
  have HXIL := HXI
  rw [HXE.out] at HR0L HXIL
  have B1L := B1
  rw [HXE.out] at B1L
  have hO : OnceAt w X (.slice (some ⟨w.heap.size + 1, 0, none⟩) 1 1) (((w.alloc (.cells X 50)).alloc (.cells X 50)).alloc (.cells #[.int .i64 65536, .int .i64 65536, .slice (some ⟨w.heap.size + 1, 0, none⟩) 1 1] 24)) := by
    refine ⟨((below_alloc w _).trans ((below_alloc _ _).mono (by simp))).trans ((below_alloc _ _).mono (by simp; omega)), ?_, ?_⟩
    · rw [Lib.alloc_old _ _ _ (by simp; omega), Lib.alloc_old _ _ _ (by simp)]
      exact heap_alloc_new w _
    · have := heap_alloc_new ((w.alloc (.cells X 50)).alloc (.cells X 50)) (.cells #[.int .i64 65536, .int .i64 65536, .slice (some ⟨w.heap.size + 1, 0, none⟩) 1 1] 24)
      simp only [World.size_alloc] at this
      exact this
  have hPR : PageRd (((w.alloc (.cells X 50)).alloc (.cells X 50)).alloc (.cells #[.int .i64 65536, .int .i64 65536, .slice (some ⟨w.heap.size + 1, 0, none⟩) 1 1] 24)) (pg [it]) #[.int .i64 65536, .int .i64 65536, .slice (some ⟨w.heap.size + 1, 0, none⟩) 1 1] := by
    refine ⟨some ⟨w.heap.size + 1, 0, none⟩, 1, rfl, ?_, Nat.le_refl _, by decide⟩
    refine items_rep (n := 1) HXS.out (hv0.keep hO.1) (w.heap.size + 1) fun j v hj => ?_
    have h2 : (((w.alloc (.cells X 50)).alloc (.cells X 50)).alloc (.cells #[.int .i64 65536, .int .i64 65536, .slice (some ⟨w.heap.size + 1, 0, none⟩) 1 1] 24)).heap[w.heap.size + 1]? = some (.cells X 50 (0, 0)) := by
      rw [Lib.alloc_old _ _ _ (by simp)]
      have := heap_alloc_new (w.alloc (.cells X 50)) (.cells X 50)
      simp only [World.size_alloc] at this
      exact this
    exact (Lib.cell_of_heap h2 j).trans hj
  have HV := Lib.hid hv0
  have HPL : Hid (∃ (pw pc pj pm pp : Int) (pl : List Int) (Ad' : Option Addr) (cd' : Nat), (plainP it).pen = ⟨pw, pc, pj, pm, pl, pp⟩ ∧ (IntsAt w Ad' pl ∧ pl.length ≤ cd' ∧ cd' ≤ maxLen) ∧ ((it.k == 3) = true → (pw = 65536 ∧ pc = 0 ∧ pj = 0 ∧ pm = 655360 ∧ pp = 0 ∧ Ad' = none ∧ pl = [] ∧ cd' = 0)) ∧ ((it.k == 3) = false → (pw = it.pen.wd ∧ pc = it.pen.cap ∧ pj = it.pen.join ∧ pm = it.pen.miter ∧ pp = it.pen.phase ∧ Ad' = Ad ∧ pl = it.pen.dash ∧ cd' = cd))) := by
    have hpen : (plainP it).pen = if it.k == 3 then pen0 else it.pen := rfl
    cases hk : (it.k == 3) with
    | true => exact ⟨65536, 0, 0, 655360, 0, [], none, 0, by rw [hpen, hk]; rfl, ⟨.inl rfl, Nat.le_refl _, Nat.zero_le _⟩, fun _ => ⟨rfl, rfl, rfl, rfl, rfl, rfl, rfl, rfl⟩, (fun h => by cases h)⟩
    | false => exact ⟨it.pen.wd, it.pen.cap, it.pen.join, it.pen.miter, it.pen.phase, it.pen.dash, Ad, cd, by rw [hpen, hk]; rfl, hd1, (fun h => by cases h), fun _ => ⟨rfl, rfl, rfl, rfl, rfl, rfl, rfl, rfl⟩⟩
  have HP1 := Lib.hid hp1
  have HB1 := Lib.hid hb1
  have HAN := Lib.hid (fun W (hW : Below w.heap.size w W) => answersD_calls W (ht.keep hW) (hF.keep hW))
  have HCO := Lib.hid (fun l v W (hW : Below w.heap.size w W) (hp : PageRd W (pg l) v) => content_calls (pg l) v W hp (ht.keep hW) (hF.keep hW))
  have HLAW := Lib.hid (once_plain it)
  clear hve hv0 hp1 hd1 hb1 ht hF
  go_enter Tryz.func6, Tryz.ntmps6
  rw [HXE.out]
  go_wp2_with (refine wpList_load_mid rfl 50 _ rfl w.heap.size 0 rfl _ _ HR0L.out Tryz.underlying50 rfl HXIL.out ?_)
  rw [← HXE.out]
  clear B1 B1L HR0L HXIL HR0
  have hsz0 : w.heap.size + 1 + 1 < (((w.alloc (.cells X 50)).alloc (.cells X 50)).alloc (.cells #[.int .i64 65536, .int .i64 65536, .slice (some ⟨w.heap.size + 1, 0, none⟩) 1 1] 24)).heap.size := hO.lt
  generalize (((w.alloc (.cells X 50)).alloc (.cells X 50)).alloc (.cells #[.int .i64 65536, .int .i64 65536, .slice (some ⟨w.heap.size + 1, 0, none⟩) 1 1] 24)) = w0 at *
  have O0 := Lib.hid hO
  have HPR := Lib.hid hPR
  clear hO hPR hsz0
  refine (HAN.out _ O0.out.1).mono ?_
  rintro e w1 ⟨rfl, b1⟩
  have O1 := Lib.hid (O0.out.below b1)
  have B01 := Lib.hid b1
  clear b1
  have y0 := O1.out.c0
  have y1 := O1.out.c1
  have y2 := O1.out.c2
  have HLI := Lib.hid (light_calls (pg [it]) _ w1 (HPR.out.keep B01.out))
  go_wp2_with fail
  refine HLI.out.mono ?_
  rintro e w2 ⟨rfl, b2⟩
  have O2 := Lib.hid (O1.out.below b2)
  have B02 := Lib.hid (B01.out.trans (b2.mono B01.out.size))
  clear b2 y0 y1 y2 HLI O1 B01
  generalize lightB (pg [it]) = Q at *
  cases Q with
  | false =>
    go_wp2_with fail
    refine (HAN.out _ O2.out.1).mono ?_
    rintro e w3 ⟨rfl, b3⟩
    have O3 := Lib.hid (O2.out.below b3)
    clear b3
    go_wp2_with fail
    go_ret
    exact ⟨rfl, O3.out.1⟩
  | true =>
  have y0 := O2.out.c0
  have y1 := O2.out.c1
  have y2 := O2.out.c2
  have HSP := Lib.hid (rSound20_calls (pg [it]) _ w2 (HPR.out.keep B02.out))
  go_wp2_with fail
  refine HSP.out.mono ?_
  rintro e w3 ⟨rfl, b3⟩
  have O3 := Lib.hid (O2.out.below b3)
  have B03 := Lib.hid (B02.out.trans (b3.mono B02.out.size))
  clear b3 y0 y1 y2 HSP O2 B02
  generalize pageOk (pg [it]) = Q at *
  cases Q with
  | false =>
    go_wp2_with fail
    refine (HAN.out _ O3.out.1).mono ?_
    rintro e w4 ⟨rfl, b4⟩
    have O4 := Lib.hid (O3.out.below b4)
    clear b4
    go_wp2_with fail
    go_ret
    exact ⟨rfl, O4.out.1⟩
  | true =>
  have hlaw := HLAW.out (by first | rfl | trivial) (by first | rfl | trivial)
  have HC1 := Lib.hid (HCO.out [it] _ w3 O3.out.1 (HPR.out.keep B03.out))
  have HC3 := Lib.hid (fun v W hW hp => HCO.out [it, it, it] v W hW hp)
  have HC2 := Lib.hid (fun v W hW hp => HCO.out [it, it] v W hW hp)
  have HC4 := Lib.hid (fun v W hW hp => HCO.out [plainP it] v W hW hp)
  generalize ansB (pg [it]) = R1 at *
  generalize ansB (pg [it, it, it]) = R3 at *
  generalize ansB (pg [it, it]) = R2 at *
  generalize ansB (pg [plainP it]) = R4 at *
  obtain ⟨en1, bs1, fs1⟩ := R1
  obtain ⟨en2, bs2, fs2⟩ := R2
  obtain ⟨en3, bs3, fs3⟩ := R3
  obtain ⟨en4, bs4, fs4⟩ := R4
  simp only at hlaw
  obtain ⟨⟨e1, e3, e2, e4⟩, l1, l2⟩ := hlaw
  subst e1 e2 e3 e4
  have HL1 := Lib.hid l1
  have HL2 := Lib.hid l2
  clear l1 l2 HLAW
  have y0 := O3.out.c0
  have y1 := O3.out.c1
  have y2 := O3.out.c2
  go_wp2_with fail
  refine HC1.out.mono ?_
  rintro e w4 ⟨A1, c1, F1, d1, rfl, h1, -, b4⟩
  have O4 := Lib.hid (O3.out.below b4.out)
  have hl1 : bs1.length ≤ 9223372036854775807 := by have h : bs1.length ≤ c1 := h1.out.2.1; have h' := h1.out.2.2.1; unfold maxLen at h'; omega
  clear b4 y0 y1 y2 HC1 O3 B03 h1
  have HR4 := Lib.hid O4.out.range
  have z2 := (O4.out.alloc (.cells (repA X 3) 50)).c2
  have z3 := (O4.out.alloc (.cells (repA X 3) 50)).f2
  have OP5 := once_page O4.out it X HXS.out HV.out 3
  have O5 := Lib.hid OP5.1
  have P5 := Lib.hid (OP5.2 (by decide))
  clear OP5
  have y0 := O5.out.c0
  have y1 := O5.out.c1
  have y2 := O5.out.c2
  go_wp2_with (first
    | (refine wpList_load_mid rfl 50 _ rfl w.heap.size 0 rfl X.toList _ HR4.out Tryz.underlying50 rfl HXI.out ?_; simp only [Array.toArray_toList])
    | (refine wpList_bslice rfl 22 3 _ rfl #[(0, .agg X), (1, .agg X), (2, .agg X)] (by rfl) _ (HB3.out _) ?_))
  refine (HC3.out _ _ O5.out.1 P5.out).mono ?_
  rintro e w6 ⟨A3, c3, F3, d3, rfl, h3, -, b6⟩
  have O6 := Lib.hid (O5.out.below b6.out)
  have hl3 : bs3.length ≤ 9223372036854775807 := by have h : bs3.length ≤ c3 := h3.out.2.1; have h' := h3.out.2.2.1; unfold maxLen at h'; omega
  clear b6 y0 y1 y2 HC3 O4 O5 P5 HR4 z2 z3 h3
  have HR6 := Lib.hid O6.out.range
  have z2 := (O6.out.alloc (.cells (repA X 2) 50)).c2
  have z3 := (O6.out.alloc (.cells (repA X 2) 50)).f2
  have OP7 := once_page O6.out it X HXS.out HV.out 2
  have O7 := Lib.hid OP7.1
  have P7 := Lib.hid (OP7.2 (by decide))
  clear OP7
  have y0 := O7.out.c0
  have y1 := O7.out.c1
  have y2 := O7.out.c2
  go_wp2_with (first
    | (refine wpList_load_mid rfl 50 _ rfl w.heap.size 0 rfl X.toList _ HR6.out Tryz.underlying50 rfl HXI.out ?_; simp only [Array.toArray_toList])
    | (refine wpList_bslice rfl 22 2 _ rfl #[(0, .agg X), (1, .agg X)] (by rfl) _ (HB2.out _) ?_))
  refine (HC2.out _ _ O7.out.1 P7.out).mono ?_
  rintro e w8 ⟨A2, c2, F2, d2, rfl, h2, -, b8⟩
  have O8 := Lib.hid (O7.out.below b8.out)
  have hl2 : bs2.length ≤ 9223372036854775807 := by have h : bs2.length ≤ c2 := h2.out.2.1; have h' := h2.out.2.2.1; unfold maxLen at h'; omega
  clear b8 y0 y1 y2 HC2 O6 O7 P7 HR6 z2 z3 h2
  have HR8 := Lib.hid O8.out.range
  have HH8 := Lib.hid (heap_alloc_new w8 (.cells X 50))
  have hlt8 := O8.out.lt
  go_upto_region 10 with (first
    | (refine wpList_load_mid rfl 50 _ rfl w.heap.size 0 rfl X.toList _ HR8.out Tryz.underlying50 rfl HXI.out ?_; simp only [Array.toArray_toList])
    | (refine wpList_store_new rfl 50 _ _ rfl _ X rfl rfl HXJ.out HXS.out.symm HX1.out ?_))
  have O8a := Lib.hid (O8.out.alloc (.cells X 50))
  obtain ⟨r, hr⟩ : ∃ r, r = w8.heap.size := ⟨_, rfl⟩
  rw [← hr] at HH8 hlt8 ⊢
  generalize w8.alloc (.cells X 50) = wp at *
  clear HR8 O8 hr
  have O9 := Lib.hid ((((((O8a.out.other ⟨r, 7, none⟩ hlt8 (.slice none 0 0)).other ⟨r, 2, none⟩ hlt8 (.int .i64 1)).other ⟨r, 3, none⟩ hlt8 (.int .i64 0)).other ⟨r, 4, none⟩ hlt8 (.int .i64 0)).other ⟨r, 5, none⟩ hlt8 (.int .i64 0)).other ⟨r, 6, none⟩ hlt8 (.int .i64 0))
  have HH9 := Lib.hid (Lib.heap_setCell_same (i := 6) (Lib.heap_setCell_same (i := 5) (Lib.heap_setCell_same (i := 4) (Lib.heap_setCell_same (i := 3) (Lib.heap_setCell_same (i := 2) (Lib.heap_setCell_same (i := 7) HH8.out (.slice none 0 0)) (.int .i64 1)) (.int .i64 0)) (.int .i64 0)) (.int .i64 0)) (.int .i64 0))
  have q2 := (Lib.cell_of_heap HH8.out 2).trans (show X[2]? = some (.int .i64 it.col.sp) from by rw [HXE.out]; rfl)
  have q3 := (Lib.cell_of_heap HH8.out 3).trans (show X[3]? = some (.int .i64 it.col.p0) from by rw [HXE.out]; rfl)
  have q4 := (Lib.cell_of_heap HH8.out 4).trans (show X[4]? = some (.int .i64 it.col.p1) from by rw [HXE.out]; rfl)
  have q5 := (Lib.cell_of_heap HH8.out 5).trans (show X[5]? = some (.int .i64 it.col.p2) from by rw [HXE.out]; rfl)
  have q6 := (Lib.cell_of_heap HH8.out 6).trans (show X[6]? = some (.int .i64 it.col.p3) from by rw [HXE.out]; rfl)
  have q7 := (Lib.cell_of_heap HH8.out 7).trans (show X[7]? = some (.slice Ac it.clips.length cc) from by rw [HXE.out]; rfl)
  have q8 := (Lib.cell_of_heap HH8.out 8).trans (show X[8]? = some (.int .i64 it.pen.wd) from by rw [HXE.out]; rfl)
  have q9 := (Lib.cell_of_heap HH8.out 9).trans (show X[9]? = some (.int .i64 it.pen.cap) from by rw [HXE.out]; rfl)
  have q10 := (Lib.cell_of_heap HH8.out 10).trans (show X[10]? = some (.int .i64 it.pen.join) from by rw [HXE.out]; rfl)
  have q11 := (Lib.cell_of_heap HH8.out 11).trans (show X[11]? = some (.int .i64 it.pen.miter) from by rw [HXE.out]; rfl)
  have q12 := (Lib.cell_of_heap HH8.out 12).trans (show X[12]? = some (.slice Ad it.pen.dash.length cd) from by rw [HXE.out]; rfl)
  have q13 := (Lib.cell_of_heap HH8.out 13).trans (show X[13]? = some (.int .i64 it.pen.phase) from by rw [HXE.out]; rfl)
  have z2 := Lib.frozen_of_heap HH8.out 2
  have z3 := Lib.frozen_of_heap HH8.out 3
  have z4 := Lib.frozen_of_heap HH8.out 4
  have z5 := Lib.frozen_of_heap HH8.out 5
  have z6 := Lib.frozen_of_heap HH8.out 6
  have z7 := Lib.frozen_of_heap HH8.out 7
  have z8 := Lib.frozen_of_heap HH8.out 8
  have z9 := Lib.frozen_of_heap HH8.out 9
  have z10 := Lib.frozen_of_heap HH8.out 10
  have z11 := Lib.frozen_of_heap HH8.out 11
  have z12 := Lib.frozen_of_heap HH8.out 12
  have z13 := Lib.frozen_of_heap HH8.out 13
  have y0 := O9.out.item 0 (.int .i64 it.k) (by rw [HXE.out]; rfl)
  go_upto_if 66 with fail
  generalize hv2 : Value.slice (some ⟨w6.heap.size, 0, none⟩) 2 2 = v2 at *
  clear hv2 q2 q3 q4 q5 q6 q7 q8 q9 q10 q11 q12 q13 z2 z3 z4 z5 z6 z7 z8 z9 z10 z11 z12 z13
  obtain ⟨Z, hZ⟩ : ∃ Z, Z = ((((((X.setIfInBounds 7 (.slice none 0 0)).setIfInBounds 2 (.int .i64 1)).setIfInBounds 3 (.int .i64 0)).setIfInBounds 4 (.int .i64 0)).setIfInBounds 5 (.int .i64 0)).setIfInBounds 6 (.int .i64 0)) := ⟨_, rfl⟩
  rw [← hZ] at HH9
  have HZL := Lib.hid (show Z = #[Value.int .i64 it.k, .slice Ap it.path.length cp, .int .i64 1, .int .i64 0, .int .i64 0, .int .i64 0, .int .i64 0, .slice none 0 0, .int .i64 it.pen.wd, .int .i64 it.pen.cap, .int .i64 it.pen.join, .int .i64 it.pen.miter, .slice Ad it.pen.dash.length cd, .int .i64 it.pen.phase, .int .i64 it.font, .int .i64 it.m0, .int .i64 it.m1, .int .i64 it.m2, .int .i64 it.m3, .int .i64 it.m4, .int .i64 it.m5, .slice Ab it.bytes.length cb] from by rw [hZ, HXE.out]; rfl)
  clear hZ HH8 O8a
  generalize ((((((wp.setCell ⟨r, 7, none⟩ (.slice none 0 0)).setCell ⟨r, 2, none⟩ (.int .i64 1)).setCell ⟨r, 3, none⟩ (.int .i64 0)).setCell ⟨r, 4, none⟩ (.int .i64 0)).setCell ⟨r, 5, none⟩ (.int .i64 0)).setCell ⟨r, 6, none⟩ (.int .i64 0)) = wz at *
  go_cut [] (fun wx => ∃ Y : Array Value, Hid (wx.heap[r]? = some (.cells Y 50 (0, 0))) ∧ Hid (PlainAt w it Y) ∧ Hid (OnceAt w X v2 wx))
  case first =>
    have q8 := (Lib.cell_of_heap HH9.out 8).trans (show Z[8]? = some (.int .i64 it.pen.wd) from by rw [HZL.out]; rfl)
    have z8 := Lib.frozen_of_heap HH9.out 8
    have q9 := (Lib.cell_of_heap HH9.out 9).trans (show Z[9]? = some (.int .i64 it.pen.cap) from by rw [HZL.out]; rfl)
    have z9 := Lib.frozen_of_heap HH9.out 9
    have q10 := (Lib.cell_of_heap HH9.out 10).trans (show Z[10]? = some (.int .i64 it.pen.join) from by rw [HZL.out]; rfl)
    have z10 := Lib.frozen_of_heap HH9.out 10
    have q11 := (Lib.cell_of_heap HH9.out 11).trans (show Z[11]? = some (.int .i64 it.pen.miter) from by rw [HZL.out]; rfl)
    have z11 := Lib.frozen_of_heap HH9.out 11
    have q12 := (Lib.cell_of_heap HH9.out 12).trans (show Z[12]? = some (.slice Ad it.pen.dash.length cd) from by rw [HZL.out]; rfl)
    have z12 := Lib.frozen_of_heap HH9.out 12
    have q13 := (Lib.cell_of_heap HH9.out 13).trans (show Z[13]? = some (.int .i64 it.pen.phase) from by rw [HZL.out]; rfl)
    have z13 := Lib.frozen_of_heap HH9.out 13
    cases hk : (it.k == 3) with
    | true =>
      have O10 := Lib.hid (((((((O9.out.other ⟨r, 8, none⟩ hlt8 (.int .i64 65536)).other ⟨r, 9, none⟩ hlt8 (.int .i64 0)).other ⟨r, 10, none⟩ hlt8 (.int .i64 0)).other ⟨r, 11, none⟩ hlt8 (.int .i64 655360)).other ⟨r, 12, none⟩ hlt8 (.slice none 0 0)).other ⟨r, 13, none⟩ hlt8 (.int .i64 0)))
      have HH10 := Lib.hid (Lib.heap_setCell_same (i := 13) (Lib.heap_setCell_same (i := 12) (Lib.heap_setCell_same (i := 11) (Lib.heap_setCell_same (i := 10) (Lib.heap_setCell_same (i := 9) (Lib.heap_setCell_same (i := 8) HH9.out (.int .i64 65536)) (.int .i64 0)) (.int .i64 0)) (.int .i64 655360)) (.slice none 0 0)) (.int .i64 0))
      have HPA := Lib.hid (show PlainAt w it (plainC it Ap cp 65536 0 0 655360 (.slice none 0 0) 0 Ab cb) from by
        obtain ⟨pw, pc, pj, pm, pp, pl, Ad', cd', h1, h2, h3, h4⟩ := HPL.out
        obtain ⟨rfl, rfl, rfl, rfl, rfl, rfl, rfl, rfl⟩ := h3 hk
        exact plainAt_of h1 HP1.out h2 HB1.out)
      go_wp2_with fail
      go_meet
      refine ⟨_, HH10, ?_, O10⟩
      have hY : ((((((Z.setIfInBounds 8 (.int .i64 65536)).setIfInBounds 9 (.int .i64 0)).setIfInBounds 10 (.int .i64 0)).setIfInBounds 11 (.int .i64 655360)).setIfInBounds 12 (.slice none 0 0)).setIfInBounds 13 (.int .i64 0)) = plainC it Ap cp 65536 0 0 655360 (.slice none 0 0) 0 Ab cb := by rw [HZL.out]; rfl
      show PlainAt _ _ _
      rw [hY]
      exact HPA.out
    | false =>
      have HPA := Lib.hid (show PlainAt w it (plainC it Ap cp it.pen.wd it.pen.cap it.pen.join it.pen.miter (.slice Ad it.pen.dash.length cd) it.pen.phase Ab cb) from by
        obtain ⟨pw, pc, pj, pm, pp, pl, Ad', cd', h1, h2, h3, h4⟩ := HPL.out
        obtain ⟨rfl, rfl, rfl, rfl, rfl, rfl, rfl, rfl⟩ := h4 hk
        exact plainAt_of h1 HP1.out h2 HB1.out)
      go_wp2_with fail
      go_meet
      refine ⟨_, HH9, ?_, O9⟩
      have hY : Z = plainC it Ap cp it.pen.wd it.pen.cap it.pen.join it.pen.miter (.slice Ad it.pen.dash.length cd) it.pen.phase Ab cb := by rw [HZL.out]; rfl
      show PlainAt _ _ _
      rw [hY]
      exact HPA.out
  case rest =>
    clear O9 HH9 y0
    obtain ⟨Y, hY, hP, hO⟩ := hcut
    generalize wc = wq at *
    have HRY := Lib.hid (show wq.rangeAt r 0 Y.toList from fun j u hj => by
      rw [Nat.zero_add, Lib.cell_of_heap hY.out, ← hj]
      exact Array.getElem?_toList.symm)
    have HYI := Lib.hid (show (Tryz.prog.info? 50).map (·.size) = some Y.toList.length from by rw [show Y.toList.length = 22 from by rw [Array.length_toList]; exact hP.out.2.1]; kernel_rfl)
    have HBY := Lib.hid hP.out.2.2.2
    have z2 := (hO.out.alloc (.cells (repA Y 1) 50)).c2
    have z3 := (hO.out.alloc (.cells (repA Y 1) 50)).f2
    have OP := once_page hO.out (plainP it) Y hP.out.2.1 hP.out.1 1
    have OA := Lib.hid OP.1
    have PA := Lib.hid (OP.2 (by decide))
    clear OP
    have y0 := OA.out.c0
    have y1 := OA.out.c1
    have y2 := OA.out.c2
    rw [show repA Y 1 = Y from rfl] at z2 z3 OA PA y0 y1 y2
    go_wp2_with (first
      | (refine wpList_load_mid rfl 50 _ rfl r 0 rfl Y.toList _ HRY.out Tryz.underlying50 rfl HYI.out ?_; simp only [Array.toArray_toList])
      | (refine wpList_bslice rfl 22 1 _ rfl #[(0, .agg Y)] (by rfl) _ (HBY.out _) ?_))
    refine (HC4.out _ _ OA.out.1 PA.out).mono ?_
    rintro e w12 ⟨A4, c4, F4, d4, rfl, h4, -, b12⟩
    have O12 := Lib.hid (OA.out.below b12.out)
    have hl4 : bs4.length ≤ 9223372036854775807 := by have h : bs4.length ≤ c4 := h4.out.2.1; have h' := h4.out.2.2.1; unfold maxLen at h'; omega
    clear b12 y0 y1 y2 HC4 hO OA PA HRY z2 z3 h4 hY hP
    have s1 : (bs2.length : Int) - (bs1.length : Int) = (bs4.length : Int) := by have := HL1.out; omega
    have s2 : (bs3.length : Int) - (bs2.length : Int) = (bs4.length : Int) := by have := HL2.out; omega
    go_wp2_with fail
    go_ret
    exact ⟨rfl, O12.out.1⟩
end Go.Proofs.YtdkgfgmmmjpkgaaGreatDoor

namespace Go.Proofs.YtdkgfgmmmjpkgaaGreatDoor.drawOnce
open Go.ChangeShapes Go.WideShapes Go.ChangeAt Go.RowKit

set_option maxRecDepth 100000 in
theorem contract (H : Type) (enc : TypeId × Value → H) (W : World) (base : Nat) (args : Array Value) (ds gs : List (DataW H)) (before : List MemPlace)
    (hval : ∀ (j : Nat) t v, Tryz.f6.params[j]? = some t → args[j]? = some v → Value.okWide Tryz.prog W .any base t v)
    (hW : DataW.Whole enc Tryz.prog Tryz.f6.params.toList Rows.drawOnceSpec.vars false W args.toList ds gs before) (hL : laidMetH Tryz.prog Rows.drawOnceRow.laid W) :
    Calls Tryz.prog 6 args W fun e W' => ∃ v, e = .returned v ∧ Rows.drawOnceSpec.post enc Tryz.prog Tryz.f6 false true false false W args v W' := by
  have hW' := hW
  obtain ⟨p, q, hA0, hV, rfl, hfz, hnd⟩ := hW
  have hA : DataW.TrodAll enc Tryz.prog W 0 (fun _ => true) true Tryz.f6.params.toList args.toList ds p := hA0
  rw [Tryz.params6] at hA hval
  obtain ⟨v0, vs0, d0, ds0, p0, q0, hargs, rfl, rfl, h0, r0⟩ := trodAll_cons hA
  obtain ⟨rfl, rfl, rfl⟩ := trodAll_nil r0
  obtain rfl : args = #[v0] := by cases args; simp_all
  obtain ⟨rfl, rfl⟩ := trodVars_none hV
  obtain ⟨a0, rfl, -⟩ := okWide_struct Tryz.underlying50 (hval 0 50 v0 rfl rfl)
  clear hA0
  obtain ⟨f0, t0⟩ := h0
  obtain ⟨b0, hb0⟩ := rd_item t0
  have hlt : ∀ x ∈ p0 ++ [], x.block < W.heap.size := fun x hx => hW'.lt x (by simpa using hx)
  refine (once_calls b0 a0 W (by simpa [Value.cells] using hb0) (tabs_of hL).1 (tabs_of hL).2).mono fun e W' ⟨he, bel⟩ => ?_
  subst he
  exact ⟨_, rfl, _, _, _, [], _, [], hW', trodAll_mk1 (shut_bool Tryz.underlying4 _), (trodAll_cons_mk (Below.trod laidOut (by kernel_rfl) (of_decide_eq_true (by kernel_rfl)) ⟨f0, t0⟩ bel (fun x hx => hlt x (by simp [hx]))) trodAll_mk0), rfl, bel.frame _, fun h => by cases h⟩

abbrev vals : Array Value := #[(.agg #[.int .i64 0, .slice none 0 0, .int .i64 0, .int .i64 0, .int .i64 0, .int .i64 0, .int .i64 0, .slice none 0 0, .int .i64 0, .int .i64 0, .int .i64 0, .int .i64 0, .slice none 0 0, .int .i64 0, .int .i64 0, .int .i64 0, .int .i64 0, .int .i64 0, .int .i64 0, .int .i64 0, .int .i64 0, .slice none 0 0])]
theorem laid_met (os : Os) : laidMet Tryz.prog Rows.drawOnceRow.laid ((laidWorld os).forCall (fun _ _ => 0) ⟨#[], vals, []⟩).memory :=
  laidMet_of_run' 8 (by kernel_rfl) (by kernel_rfl)
theorem reads (os : Os) {H : Type} (enc : TypeId × Value → H) : ∃ places, DataW.whole enc Tryz.prog ((laidWorld os).forCall (fun _ _ => 0) ⟨#[], vals, []⟩).memory Tryz.f6.params.toList Rows.drawOnceSpec.vars false vals.toList 8 = some ([(.agg [.lit (.int .i64 0), .nil, .agg [.lit (.int .i64 0), .agg [.lit (.int .i64 0), .lit (.int .i64 0), .lit (.int .i64 0), .lit (.int .i64 0)]], .nil, .agg [.lit (.int .i64 0), .lit (.int .i64 0), .lit (.int .i64 0), .lit (.int .i64 0), .nil, .lit (.int .i64 0)], .lit (.int .i64 0), .agg [.lit (.int .i64 0), .lit (.int .i64 0), .lit (.int .i64 0), .lit (.int .i64 0), .lit (.int .i64 0), .lit (.int .i64 0)], .nil])], [], places) :=
  ⟨[], by kernel_rfl⟩

set_option maxRecDepth 100000 in
theorem lifted (os : Os) (started : os.Started) (H : Type) (enc : TypeId × Value → H) (F : Stop.Interp) :
    ReturnsInHanded {} Tryz.checked os 6 .any ((OpenSpec.ofChange Rows.drawOnceSpec).preRow enc Tryz.prog Tryz.f6 Rows.drawOnceRow.domain false Rows.drawOnceRow.laid) (((OpenSpec.ofChange Rows.drawOnceSpec).at F).post enc Tryz.prog Tryz.f6 false true false false) := by
  obtain ⟨places, hx⟩ := reads os enc
  refine returnsInHanded_of_row (C := Tryz.checked) (s := OpenSpec.ofChange Rows.drawOnceSpec) own started (by kernel_rfl) Tryz.func6
    (witness_row_atRef (enc := enc) (C := Tryz.checked) false (laidWorld os) vals rfl (by kernel_rfl) (by kernel_rfl) (by kernel_rfl)
      (OpenSpec.preRow_of_cond 8 hx (by kernel_rfl) (fun k hk => by cases hk) (by kernel_rfl) (laid_met os))) ?_
  intro W base args ds gs before hval hW _ _ _ hL _ _
  exact contract H enc W base args ds gs before hval hW hL

theorem said : Rows.DrawOnceSaid :=
  OpenClaim.holds_of_cond 6 Tryz.f6 rfl rfl rfl rfl rfl rfl rfl ⟨rfl, rfl, rfl, rfl, rfl⟩ rfl rfl rfl rfl rfl (by kernel_rfl) Tryz.func6 (by kernel_rfl)
    (of_decide_eq_true (by kernel_rfl)) (by unfold Func.isWrapper; first | (rw [if_pos (by decide +kernel)]; kernel_rfl) | (rw [if_neg (by decide +kernel)]; exact ⟨rfl, rfl⟩))
    (fun os started H enc _ F => by rw [OpenClaim.pre_eq_preRow]; exact lifted os started H enc F)

/-- No parameter wants a stand-in; the program's own looks are off: what the card asks. -/
theorem plain (f : FuncId) (fn : Func) (hf : Tryz.pinned.checked.prog.funcNamed "mezzotint/mezzotintlaw20.DrawOnce" = some f) (hfn : Tryz.pinned.checked.prog.funcs[f]? = some fn) :
    false = Tryz.pinned.checked.prog.looks [] ∧ ∀ (j : Nat) t, fn.params[j]? = some t → Tryz.pinned.checked.prog.wantsStandIn t = false := by
  obtain rfl : f = 6 := Option.some.inj ((show Tryz.prog.funcNamed "mezzotint/mezzotintlaw20.DrawOnce" = some 6 by kernel_rfl).symm.trans hf) |>.symm
  obtain rfl : fn = Tryz.f6 := (Option.some.inj (Tryz.func6.symm.trans hfn)).symm
  refine ⟨by kernel_rfl, fun j t ht => ?_⟩
  rw [Tryz.params6] at ht
  obtain rfl : t = 50 := by simpa using Array.mem_of_getElem? ht
  exact (show Tryz.prog.wantsStandIn 50 = false by kernel_rfl)

theorem card : Rows.DrawOnceCardSaid :=
  Claim7.holds_tied_plain_at .later [] _ _ _ _ said (fun _ h => by cases h) (by kernel_rfl) (fun _ h => by cases h) drawOnce_row_tie rfl ⟨rfl, rfl⟩ (by kernel_rfl) rfl plain (by kernel_rfl)
end Go.Proofs.YtdkgfgmmmjpkgaaGreatDoor.drawOnce
namespace Go.Proofs.YtdkgfgmmmjpkgaaGreatDoor
theorem drawOnce_card : Rows.DrawOnceCardSaid := drawOnce.card
#print axioms drawOnce_card
end Go.Proofs.YtdkgfgmmmjpkgaaGreatDoor
