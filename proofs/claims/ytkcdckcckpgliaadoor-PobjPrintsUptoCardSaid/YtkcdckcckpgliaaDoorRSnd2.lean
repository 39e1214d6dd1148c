/- The reference's sound as the machine runs it: arrays, dictionaries, streams, and what is of no kind. -/
import Derived.Test.YtkcdckcckpgliaaDoorRSnd
import Derived.Outline
namespace Go.Proofs.YtkcdckcckpgliaaDoor
open Go.RowKit Go.Shelf

def RSndAt (D : Int) (f : PO → Bool) : Prop := ∀ (o : PO) (v : Array Value) (w : World), ORd w o v →
  Calls Tryd.prog 18 #[.agg v, .int .i64 D, .bool false] w fun e w' => e = .returned (.bool (f o && !(o.k == 9))) ∧ Below w.heap.size w w'
def elemsB (f : PO → Bool) (l : List PO) : Bool := l.all (fun x => f x && !(x.k == 9))
theorem allB_no (f : PO → Bool) (l : List PO) (h : 65535 < l.length) : allB f l = false := by
  rw [allB, decide_eq_false (by omega)]; rfl
theorem allB_yes (f : PO → Bool) (l : List PO) (h : l.length ≤ 65535) : allB f l = elemsB f l := by
  rw [allB, decide_eq_true h]; rfl

set_option maxHeartbeats 1600000 in
set_option maxRecDepth 100000 in
theorem rsnd_none (D : Int) (hD1 : -5 ≤ D) (hD2 : D ≤ 1000) (f : PO → Bool) (s : Bool) (o : PO) (v : Array Value) (w : World) (ho : ORd w o v) (h0 : o.k ≠ 0) (h1 : o.k ≠ 1) (h2 : o.k ≠ 2) (h3 : o.k ≠ 3) (h4 : o.k ≠ 4) (h5 : o.k ≠ 5) (h6 : o.k ≠ 6) (h7 : o.k ≠ 7) (h8 : o.k ≠ 8) (h9 : o.k ≠ 9) :
    Calls Tryd.prog 18 #[.agg v, .int .i64 D, .bool s] w fun e w' => e = .returned (.bool (sndK (decide (0 < D)) f o)) ∧ Below w.heap.size w w' := by
  have hr : sndK (decide (0 < D)) f o = false := by
    unfold sndK
    simp [h0, h1, h2, h3, h4, h5, h6, h7, h8, h9]
  rw [hr]
  clear hr
  obtain ⟨cs, hks, hkc, hkm, hl, hc, hlc, hlm, hd, hdc, hdm, htz, hkt⟩ := ho
  rename_i k n t ks l d Ak Al Ad ck cl cd
  simp only at h0 h1 h2 h3 h4 h5 h6 h7 h8 h9
  clear hks hl hc hd hkt
  have HB := Lib.hid (fun X => below_alloc w X)
  go_enter Tryd.func18, Tryd.ntmps18
  go_wp2_with fail
  go_ret
  exact ⟨rfl, HB.out _⟩

set_option maxHeartbeats 1600000 in
set_option maxRecDepth 100000 in
theorem rsnd_6_bad (D : Int) (hD1 : -5 ≤ D) (hD2 : D ≤ 1000) (s : Bool) (o : PO) (v : Array Value) (w : World) (ho : ORd w o v) (hk : o.k = 6) (hbad : ¬ (0 < D ∧ bareB o false false false true false = true)) :
    Calls Tryd.prog 18 #[.agg v, .int .i64 D, .bool s] w fun e w' => e = .returned (.bool false) ∧ Below w.heap.size w w' := by
  obtain ⟨cs, hks, hkc, hkm, hl, hc, hlc, hlm, hd, hdc, hdm, htz, hkt⟩ := ho
  rename_i k n t ks l d Ak Al Ad ck cl cd
  obtain rfl : k = 6 := hk
  clear hks hl hc hd hkt
  have HB := Lib.hid (fun X => below_alloc w X)
  by_cases h1 : D < 1
  · go_enter Tryd.func18, Tryd.ntmps18
    go_wp2_with fail
    go_ret
    exact ⟨rfl, HB.out _⟩
  by_cases h2 : n = 0
  rotate_left
  · go_enter Tryd.func18, Tryd.ntmps18
    go_wp2_with fail
    go_ret
    exact ⟨rfl, HB.out _⟩
  by_cases h3 : t.toList = []
  rotate_left
  · have h3' : t.toList.isEmpty = false := List.isEmpty_eq_false_iff.2 h3
    go_enter Tryd.func18, Tryd.ntmps18
    go_wp2_with fail
    go_ret
    exact ⟨rfl, HB.out _⟩
  by_cases h4 : ks.length = 0
  rotate_left
  · go_enter Tryd.func18, Tryd.ntmps18
    go_wp2_with fail
    go_ret
    exact ⟨rfl, HB.out _⟩
  by_cases h5 : d.length = 0
  · exact absurd ⟨by omega, by simp [bareB, h2, h3, h4, h5]⟩ hbad
  · have h5' : ((d.length : Int) == 0) = false := beq_eq_false_iff_ne.2 (by omega)
    go_enter Tryd.func18, Tryd.ntmps18
    go_wp2_with fail
    go_ret
    exact ⟨rfl, HB.out _⟩

set_option maxHeartbeats 1600000 in
set_option maxRecDepth 100000 in
theorem rsnd_6_good (D : Int) (hD2 : D ≤ 1000) (f : PO → Bool) (H : RSndAt (D - 1) f) (s : Bool) (o : PO) (v : Array Value) (w : World) (ho : ORd w o v) (hk : o.k = 6) (hD : 0 < D) (hb : bareB o false false false true false = true) :
    Calls Tryd.prog 18 #[.agg v, .int .i64 D, .bool s] w fun e w' => e = .returned (.bool (allB f o.l)) ∧ Below w.heap.size w w' := by
  obtain ⟨cs, hks, hkc, hkm, hl, hc, hlc, hlm, hd, hdc, hdm, htz, hkt⟩ := ho
  rename_i k n t ks l d Ak Al Ad ck cl cd
  obtain rfl : k = 6 := hk
  simp only [bareB, Bool.and_eq_true, Bool.or_eq_true, Bool.false_eq_true, false_or, or_true, true_or, true_and, and_true] at hb
  obtain ⟨⟨⟨h2, h3⟩, h4⟩, h5⟩ := hb
  obtain rfl := eq_of_beq h2
  have HL := Lib.hid hl; have HC := Lib.hid hc; have HH := Lib.hid H
  have HB := Lib.hid (fun X => below_alloc w X)
  simp only at *
  clear hks hl hc hd hkt H h2
  generalize hr : allB f l = R
  have HRN := Lib.hid (fun h => hr ▸ allB_no f l h)
  have HRY := Lib.hid (fun h => hr ▸ allB_yes f l h)
  clear hr
  obtain ⟨X, hX⟩ : ∃ X, X = #[Value.int .i64 6, .int .i64 0, .string t, .slice Ak ks.length ck, .slice Al l.length cl, .slice Ad d.length cd] := ⟨_, rfl⟩
  have hX4 : X[4]? = some (.slice Al l.length cl) := by rw [hX]; rfl
  rw [← hX]
  have HX := Lib.hid hX
  have HC4 := Lib.hid (show (w.alloc (.cells X 26)).cell? ⟨w.heap.size, 4, none⟩ = some (.slice Al l.length cl) by rw [Lib.cell_of_heap (heap_alloc_new w _)]; exact hX4)
  clear hX hX4
  have hnum : IntKind.i64.wrap (D - 1) = D - 1 := by rw [IntKind.wrap_i64]; omega
  by_cases hlen : 65535 < l.length
  · go_enter Tryd.func18, Tryd.ntmps18
    rw [HX.out]
    go_wp2_with fail
    go_ret
    exact ⟨ret_bool (HRN.out hlen).symm, HB.out _⟩
  go_enter Tryd.func18, Tryd.ntmps18
  rw [HX.out]
  go_wp2_with fail
  rw [← HX.out]
  have HB1 := Lib.hid (Below.refl (w.alloc (.cells X 26)).heap.size (w.alloc (.cells X 26)))
  have HE0 : Hid (elemsB f (l.drop 0) = R) := (HRY.out (by omega)).symm
  go_loopw [14] (fun v wr => ∃ i : Nat, i ≤ l.length ∧ v = .int .i64 i ∧ Hid (elemsB f (l.drop i) = R) ∧ Hid (Below (w.alloc (.cells X 26)).heap.size (w.alloc (.cells X 26)) wr)) (fun v _ => l.length - (intOf v).toNat)
  case atStart => exact ⟨0, Nat.zero_le _, rfl, HE0, HB1⟩
  case round =>
    clear HB1 HE0
    obtain ⟨i, hi, rfl, hE, hw⟩ := hrel
    have hc4 := (hw.out.cell (p := ⟨w.heap.size, 4, none⟩) (by simp)).trans HC4.out
    by_cases hlt : i < l.length
    · have hb0 : Below w.heap.size w wr := (HB.out (.cells X 26)).trans (hw.out.mono (by simp))
      obtain ⟨lb, loff, hAl, hcell⟩ := RowAt.elem HC.out i hlt
      have hx := HL.out i hlt
      have HXX := Lib.hid (fun W (h : Below w.heap.size w W) => hx.keep h)
      have hstep : ((f l[i] && !(l[i].k == 9)) && elemsB f (l.drop (i + 1))) = R := by
        rw [← hE.out, List.drop_eq_getElem_cons hlt]; rfl
      generalize l[i] = x at *
      generalize cs i = ci at *
      obtain ⟨xn, xt, xAk, xck, xAl, xcl, xAd, xcd, rfl⟩ := hx.agg
      have hcc : ∀ j v, _ → wr.cell? ⟨lb, loff + i * 6 + j, none⟩ = some v := fun j v hj => (hb0.cell (World.block_lt_of_cell? w _ (hcell j v hj))).trans (hcell j v hj)
      have e0 := hcc 0 _ rfl
      have e1 := hcc 1 _ rfl
      have e2 := hcc 2 _ rfl
      have e3 := hcc 3 _ rfl
      have e4 := hcc 4 _ rfl
      have e5 := hcc 5 _ rfl
      simp only [Nat.add_zero] at e0
      have HB0 := Lib.hid hb0
      subst hAl
      have HHC := Lib.hid (fun v (h : ORd wr x v) => HH.out x v wr h)
      generalize hbb : (f x && !(x.k == 9)) = bb at hstep HHC
      have HST := Lib.hid hstep
      clear hx hcell hcc hb0 hbb hstep
      go_wp2_with fail
      refine (HHC.out _ (HXX.out _ HB0.out)).mono ?_
      rintro e w2 ⟨rfl, h2⟩
      have hn : Hid (Below (w.alloc (.cells X 26)).heap.size (w.alloc (.cells X 26)) w2) := hw.out.trans (h2.mono hw.out.size)
      have HF := Lib.hid ((HB.out (.cells X 26)).trans (hn.out.mono (by simp)))
      clear h2 e0 e1 e2 e3 e4 e5 hc4
      cases bb with
      | false =>
        go_wp2_with fail
        go_ret
        exact ⟨ret_bool (by rw [← HST.out]; rfl), HF.out⟩
      | true =>
        have hE2 : Hid (elemsB f (l.drop (i + 1)) = R) := by
          have := HST.out
          rwa [Bool.true_and] at this
        go_wp2_with fail
        go_roundw
        case rel => exact ⟨i + 1, by omega, by go_num, hE2, hn⟩
        case measure => simp [intOf]; omega
    · obtain rfl : i = l.length := by omega
      have HF := Lib.hid ((HB.out (.cells X 26)).trans (hw.out.mono (by simp)))
      have HT : Hid (R = true) := by
        have := hE.out
        rw [List.drop_of_length_le (Nat.le_refl _)] at this
        exact this.symm
      go_wp2_with fail
      go_ret
      exact ⟨ret_bool HT.out.symm, HF.out⟩
end Go.Proofs.YtkcdckcckpgliaaDoor
