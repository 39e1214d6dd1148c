/- The reference's Print as the machine runs it: arrays. -/
import Derived.Test.YtkcdckcckpgliaaDoorPr3
namespace Go.Proofs.YtkcdckcckpgliaaDoor
open Go.RowKit Go.Shelf

/-- What stands between an array's brackets. -/
def jn : Bool → List (List UInt8) → List UInt8
  | _, [] => []
  | first, x :: r => (if first then [] else [32]) ++ (x ++ jn false r)
theorem jn_items : ∀ xs, arrItems false xs = jn false xs
  | [] => rfl
  | x :: r => by rw [arrItems, jn, jn_items r]; rfl
theorem jn_arr (xs : List (List UInt8)) : arrB xs = 91 :: jn true xs ++ [93] := by
  cases xs with
  | nil => rfl
  | cons x r => rw [arrB, arrItems, jn, jn_items]; simp

set_option maxHeartbeats 3200000 in
set_option maxRecDepth 100000 in
theorem rpr_6 (d : Nat) (H : RPrAt d) (n : Int) (t : ByteArray) (ks : List ByteArray) (l : List PO) (dd : List UInt8) (v : Array Value) (w : World)
    (hsn : ∀ i (h : i < l.length), sndB d l[i] = true) (ho : ORd w ⟨6, n, t, ks, l, dd⟩ v) (hlim : (wrL ⟨6, n, t, ks, l, dd⟩).length ≤ 70368744177664) :
    Calls Tryd.prog 11 #[.agg v] w fun e w' => e = .returned (.string (asStr (wrL ⟨6, n, t, ks, l, dd⟩))) ∧ Below w.heap.size w w' := by
  have hR : wrL ⟨6, n, t, ks, l, dd⟩ = arrB (wrs l) := by rw [wrL]; rfl
  rw [hR, jn_arr] at hlim ⊢
  clear hR
  obtain ⟨J, hJ⟩ : ∃ J, J = jn true (wrs l) := ⟨_, rfl⟩
  rw [← hJ] at hlim ⊢
  have HJ : Hid (([91] : List UInt8) ++ jn (0 == 0) ((wrs l).drop 0) = 91 :: J) := by show _ = _; rw [hJ]; rfl
  have hjl : J.length + 2 ≤ 70368744177664 := by simp at hlim; omega
  obtain ⟨cs, hks, hkc, hkm, hl, hc, hlc, hlm, hd, hdc, hdm, htz, hkt⟩ := ho
  rename_i Ak Al Ad ck cl cd
  have HEL := Lib.hid (fun W (h : Below w.heap.size w W) i (hi : i < l.length) => (hl i hi).keep h)
  have HAG := Lib.hid hl
  have HROW := Lib.hid (fun W (h : Below w.heap.size w W) => hc.keep h)
  have HH := Lib.hid (fun i (h : i < l.length) va W (h1 : ORd W l[i] va) (h2 : (wrL l[i]).length ≤ 70368744177664) => H l[i] va W (hsn i h) h1 h2)
  obtain ⟨X, hX⟩ : ∃ X, X = #[Value.int .i64 6, .int .i64 n, .string t, .slice Ak ks.length ck, .slice Al l.length cl, .slice Ad dd.length cd] := ⟨_, rfl⟩
  have HCE := Lib.hid (show ∀ W, Below (w.alloc (.cells X 26)).heap.size (w.alloc (.cells X 26)) W → W.cell? ⟨w.heap.size, 4, none⟩ = some (.slice Al l.length cl) from fun W h => own_after h 4 _ (by rw [hX]; rfl))
  have HBB := Lib.hid (fun W (h : Below (w.alloc (.cells X 26)).heap.size (w.alloc (.cells X 26)) W) => (below_alloc w (.cells X 26)).trans (h.mono (by simp)))
  have HB1 := Lib.hid (Below.refl (w.alloc (.cells X 26)).heap.size (w.alloc (.cells X 26)))
  clear hks hl hc hd hkt H hsn hJ hlim
  subst hX
  go_enter Tryd.func11, Tryd.ntmps11
  go_wp2_with fail
  generalize HWA : w.alloc (.cells #[Value.int .i64 6, .int .i64 n, .string t, .slice Ak ks.length ck, .slice Al l.length cl, .slice Ad dd.length cd] 26) = wa at *
  have HWA2 := Lib.hid HWA
  clear HWA
  go_loopw [3, 4] (fun s v wr => ∃ (i : Nat) (acc : List UInt8), i ≤ l.length ∧ v = .int .i64 i ∧ s = .string (asStr acc) ∧ Hid (acc ++ jn (i == 0) ((wrs l).drop i) = 91 :: J) ∧ Hid (Below wa.heap.size wa wr)) (fun _ v _ => l.length - (intOf v).toNat)
  case atStart => exact ⟨0, [91], Nat.zero_le _, rfl, rfl, HJ, HB1⟩
  case round =>
    clear HJ HB1
    obtain ⟨i, acc, hi, rfl, rfl, hacc, hw⟩ := hrel
    have c4 := HCE.out wr hw.out
    have hal : acc.length ≤ 1 + J.length := by
      have := congrArg List.length hacc.out
      simp only [List.length_append, List.length_cons] at this
      omega
    have hz : (asStr acc).size ≤ 70368744177665 := by rw [asStr_size]; omega
    by_cases hlt : i < l.length
    · have hdw := wrs_drop l i hlt
      obtain ⟨lb, loff, hAl, hcell⟩ := RowAt.elem (HROW.out wr (HBB.out wr hw.out)) i hlt
      have hx := HEL.out wr (HBB.out wr hw.out) i hlt
      have HX := Lib.hid (fun W (h : Below wr.heap.size wr W) => hx.keep h)
      have HHC := Lib.hid (HH.out i hlt)
      have hstep : acc ++ ((if (i == 0) then [] else [32]) ++ (wrL l[i] ++ jn (i + 1 == 0) ((wrs l).drop (i + 1)))) = 91 :: J := by
        have := hacc.out
        rw [hdw, jn] at this
        exact this
      generalize l[i] = x at *
      generalize cs i = ci at *
      have hlen := congrArg List.length hstep
      simp only [List.length_append, List.length_cons] at hlen
      have hxl : (wrL x).length ≤ 70368744177664 := by omega
      have HXL := Lib.hid hxl
      have hzx : (asStr (wrL x)).size ≤ 70368744177664 := by rw [asStr_size]; exact hxl
      have HSTEP := Lib.hid hstep
      obtain ⟨xn, xt, xAk, xck, xAl, xcl, xAd, xcd, rfl⟩ := hx.agg
      have e0 := hcell 0 _ rfl
      have e1 := hcell 1 _ rfl
      have e2 := hcell 2 _ rfl
      have e3 := hcell 3 _ rfl
      have e4 := hcell 4 _ rfl
      have e5 := hcell 5 _ rfl
      simp only [Nat.add_zero] at e0
      subst hAl
      clear hx hdw hstep hcell hlen hxl
      rcases Nat.eq_zero_or_pos i with h0 | h0
      · have hgt : decide (0 < i) = false := decide_eq_false (by omega)
        have HI0 := Lib.hid h0
        clear h0
        go_wp2_with fail
        refine (HHC.out _ _ (HX.out _ (Below.refl _ _)) HXL.out).mono ?_
        rintro e w3 ⟨rfl, q3⟩
        have HW3 := Lib.hid (hw.out.trans (q3.mono hw.out.size))
        clear q3 e0 e1 e2 e3 e4 e5 c4
        have HF : Hid ((acc ++ wrL x) ++ jn (i + 1 == 0) ((wrs l).drop (i + 1)) = 91 :: J) := by
          show _ = _
          rw [← HSTEP.out, HI0.out, List.append_assoc]; rfl
        go_wp2_with fail
        go_roundw
        case rel => exact ⟨i + 1, acc ++ wrL x, by omega, by go_num, congrArg Value.string (asStr_append _ _), HF, HW3⟩
        case measure => simp [intOf]; omega
      · have hgt : decide (0 < i) = true := decide_eq_true (by omega)
        have HI0 := Lib.hid h0
        clear h0
        go_wp2_with fail
        refine (HHC.out _ _ (HX.out _ (Below.refl _ _)) HXL.out).mono ?_
        rintro e w3 ⟨rfl, q3⟩
        have HW3 := Lib.hid (hw.out.trans (q3.mono hw.out.size))
        clear q3 e0 e1 e2 e3 e4 e5 c4
        have HF : Hid ((acc ++ [32] ++ wrL x) ++ jn (i + 1 == 0) ((wrs l).drop (i + 1)) = 91 :: J) := by
          show _ = _
          rw [← HSTEP.out, if_neg (by have := HI0.out; simp; omega)]
          simp only [List.append_assoc]
        go_wp2_with fail
        go_roundw
        case rel => exact ⟨i + 1, acc ++ [32] ++ wrL x, by omega, by go_num, congrArg Value.string (by rw [← asStr_append, ← asStr_append]; rfl), HF, HW3⟩
        case measure => simp [intOf]; omega
    · obtain rfl : i = l.length := by omega
      have HF : Hid (acc = 91 :: J) := by
        have h1 := hacc.out
        rw [List.drop_of_length_le (by rw [wrs_length]; exact Nat.le_refl _)] at h1
        have h2 : acc = 91 :: J := by simpa [jn] using h1
        exact h2
      have HB := Lib.hid (HBB.out wr hw.out)
      go_wp2_with fail
      go_ret
      exact ⟨ret_str (by rw [HF.out]; exact asStr_append (91 :: J) [93]), HB.out⟩
end Go.Proofs.YtkcdckcckpgliaaDoor
