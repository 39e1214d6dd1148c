/- The reference's Print as the machine runs it: dictionaries. -/
import Derived.Test.YtkcdckcckpgliaaDoorPr4
import Derived.Deep.RegionHeld3
import Derived.Test.YtkcdckcckpgliaaDoorEq
namespace Go.Proofs.YtkcdckcckpgliaaDoor
open Go.RowKit Go.Shelf

theorem cat_run (a b : ByteArray) (h : a.size + b.size ≤ 9223372036854775807) : ∀ W : World, (Op.stringOp .add a b).run Tryd.prog W = .ok (.string (a ++ b)) W := fun W => run_string_add_sum W a b h
theorem size_one (c : UInt8) : (⟨#[c]⟩ : ByteArray).size = 1 := rfl

set_option maxHeartbeats 6400000 in
set_option maxRecDepth 100000 in
theorem rpr_7 (d : Nat) (H : RPrAt d) (n : Int) (t : ByteArray) (ks : List ByteArray) (l : List PO) (dd : List UInt8) (v : Array Value) (w : World) (hkl : ks.length = l.length) (hkn : ∀ s, s ∈ ks → s.size ≤ 127) 
    (hsn : ∀ i (h : i < l.length), sndB d l[i] = true) (ho : ORd w ⟨7, n, t, ks, l, dd⟩ v) (hlim : (wrL ⟨7, n, t, ks, l, dd⟩).length ≤ 70368744177664) :
    Calls Tryd.prog 11 #[.agg v] w fun e w' => e = .returned (.string (asStr (wrL ⟨7, n, t, ks, l, dd⟩))) ∧ Below w.heap.size w w' := by
  have hR : wrL ⟨7, n, t, ks, l, dd⟩ = pairsB ks (wrs l) [] := by rw [wrL]; rfl
  rw [hR] at hlim ⊢
  clear hR
  obtain ⟨J, hJ⟩ : ∃ J, J = pairItems ks (wrs l) := ⟨_, rfl⟩
  have HJ : Hid (([60, 60] : List UInt8) ++ pairItems (ks.drop 0) ((wrs l).drop 0) = [60, 60] ++ J) := by show _ = _; rw [hJ]; rfl
  have HFIN : Hid (pairsB ks (wrs l) [] = [60, 60] ++ J ++ ([32, 62, 62])) := by show _ = _; rw [hJ]; simp only [pairsB, List.append_assoc, List.nil_append, List.cons_append]
  have hjl : J.length ≤ 70368744177664 := by
    have := congrArg List.length HFIN.out
    simp only [List.length_append, List.length_cons] at this
    omega
  obtain ⟨R, hRR⟩ : ∃ R, R = pairsB ks (wrs l) [] := ⟨_, rfl⟩
  rw [← hRR] at HFIN ⊢
  obtain ⟨cs, hks, hkc, hkm, hl, hc, hlc, hlm, hd, hdc, hdm, htz, hkt⟩ := ho
  rename_i Ak Al Ad ck cl cd
  have HKEY := Lib.hid (fun W (h : Below w.heap.size w W) => hks.keep h)
  have HEL := Lib.hid (fun W (h : Below w.heap.size w W) i (hi : i < l.length) => (hl i hi).keep h)
  have HROW := Lib.hid (fun W (h : Below w.heap.size w W) => hc.keep h)
  have HDAT := Lib.hid (fun W (h : Below w.heap.size w W) => hd.keep h)
  have HKN := Lib.hid hkn
  have HKL := Lib.hid hkl
  have HH := Lib.hid (fun i (h : i < l.length) va W (h1 : ORd W l[i] va) (h2 : (wrL l[i]).length ≤ 70368744177664) => H l[i] va W (hsn i h) h1 h2)
  obtain ⟨X, hX⟩ : ∃ X, X = #[Value.int .i64 7, .int .i64 n, .string t, .slice Ak ks.length ck, .slice Al l.length cl, .slice Ad dd.length cd] := ⟨_, rfl⟩
  have HCE := Lib.hid (show ∀ W, Below (w.alloc (.cells X 26)).heap.size (w.alloc (.cells X 26)) W → W.cell? ⟨w.heap.size, 0, none⟩ = some (.int .i64 7) ∧ W.cell? ⟨w.heap.size, 3, none⟩ = some (.slice Ak ks.length ck) ∧ W.cell? ⟨w.heap.size, 4, none⟩ = some (.slice Al l.length cl) ∧ W.cell? ⟨w.heap.size, 5, none⟩ = some (.slice Ad dd.length cd) from fun W h => ⟨own_after h 0 _ (by rw [hX]; rfl), own_after h 3 _ (by rw [hX]; rfl), own_after h 4 _ (by rw [hX]; rfl), own_after h 5 _ (by rw [hX]; rfl)⟩)
  have HBB := Lib.hid (fun W (h : Below (w.alloc (.cells X 26)).heap.size (w.alloc (.cells X 26)) W) => (below_alloc w (.cells X 26)).trans (h.mono (by simp)))
  have HB1 := Lib.hid (Below.refl (w.alloc (.cells X 26)).heap.size (w.alloc (.cells X 26)))
  clear hks hl hc hd hkt H hsn hJ hlim hkn hkl hRR
  subst hX
  go_enter Tryd.func11, Tryd.ntmps11
  go_wp2_with fail
  generalize HWA : w.alloc (.cells #[Value.int .i64 7, .int .i64 n, .string t, .slice Ak ks.length ck, .slice Al l.length cl, .slice Ad dd.length cd] 26) = wa at *
  have HWA2 := Lib.hid HWA
  clear HWA
  go_loopw [5, 6] (fun s v wr => ∃ (i : Nat) (acc : List UInt8), i ≤ ks.length ∧ v = .int .i64 i ∧ s = .string (asStr acc) ∧ Hid (acc ++ pairItems (ks.drop i) ((wrs l).drop i) = [60, 60] ++ J) ∧ Hid (Below wa.heap.size wa wr)) (fun _ v _ => ks.length - (intOf v).toNat)
  case atStart => exact ⟨0, [60, 60], Nat.zero_le _, rfl, rfl, HJ, HB1⟩
  case round =>
    clear HJ HB1
    obtain ⟨i, acc, hi, rfl, rfl, hacc, hw⟩ := hrel
    obtain ⟨c0, c3, c4, c5⟩ := HCE.out wr hw.out
    have hal : acc.length ≤ 2 + J.length := by
      have := congrArg List.length hacc.out
      simp only [List.length_append, List.length_cons, List.length_nil] at this
      omega
    have hz : (asStr acc).size ≤ 70368744177666 := by rw [asStr_size]; omega
    by_cases hlt : i < ks.length
    · have hltl : i < l.length := by rw [← HKL.out]; exact hlt
      have hdk : ks.drop i = ks[i] :: ks.drop (i + 1) := List.drop_eq_getElem_cons hlt
      have hdw := wrs_drop l i hltl
      have h127 := HKN.out ks[i] (List.getElem_mem hlt)
      have hwb := HBB.out wr hw.out
      obtain ⟨lb, loff, hAl, hcell⟩ := RowAt.elem (HROW.out wr hwb) i hltl
      obtain ⟨kb, koff, hAk, hkc2⟩ := StrsAt.elem (HKEY.out wr hwb) i hlt
      have hx := HEL.out wr hwb i hltl
      have HX := Lib.hid (fun W (h : Below wr.heap.size wr W) => hx.keep h)
      have HHC := Lib.hid (HH.out i hltl)
      have hstep : acc ++ 32 :: (nameL ks[i].data.toList ++ 32 :: (wrL l[i] ++ pairItems (ks.drop (i + 1)) ((wrs l).drop (i + 1)))) = [60, 60] ++ J := by
        have := hacc.out
        rw [hdk, hdw, pairItems] at this
        exact this
      generalize ks[i] = kk at *
      generalize l[i] = x at *
      generalize cs i = ci at *
      have hlen := congrArg List.length hstep
      simp only [List.length_append, List.length_cons, List.length_nil] at hlen
      have hxl : (wrL x).length ≤ 70368744177664 := by omega
      have hzx : (asStr (wrL x)).size ≤ 70368744177664 := by rw [asStr_size]; exact hxl
      have hzk : (asStr (nameL kk.data.toList)).size ≤ 70368744177664 := by rw [asStr_size]; omega
      have hfin : acc ++ [32] ++ nameL kk.data.toList ++ [32] ++ wrL x ++ pairItems (ks.drop (i + 1)) ((wrs l).drop (i + 1)) = [60, 60] ++ J := by
        rw [← hstep]
        simp only [List.append_assoc, List.cons_append, List.nil_append]
      have HFI := Lib.hid hfin
      obtain ⟨xn, xt, xAk, xck, xAl, xcl, xAd, xcd, rfl⟩ := hx.agg
      have HXL := Lib.hid hxl
      have HN := Lib.hid (fun W => rName_calls kk W (by omega))
      obtain ⟨nm, hnm⟩ : ∃ nm, nm = nameL kk.data.toList := ⟨_, rfl⟩
      obtain ⟨xb, hxb⟩ : ∃ xb, xb = wrL x := ⟨_, rfl⟩
      rw [← hnm] at hzk
      rw [← hxb] at hzx
      have HS := Lib.hid (show ∀ W, Below wr.heap.size wr W → ((W.cell? ⟨w.heap.size, 3, none⟩ = some (.slice (some ⟨kb, koff, none⟩) ks.length ck) ∧ W.cell? ⟨w.heap.size, 4, none⟩ = some (.slice (some ⟨lb, loff, none⟩) l.length cl)) ∧ W.cell? ⟨kb, koff + i, none⟩ = some (.string kk) ∧ W.cell? ⟨lb, loff + i * 6, none⟩ = some (.int .i64 x.k) ∧ W.cell? ⟨lb, loff + i * 6 + 1, none⟩ = some (.int .i64 xn) ∧ W.cell? ⟨lb, loff + i * 6 + 2, none⟩ = some (.string xt) ∧ W.cell? ⟨lb, loff + i * 6 + 3, none⟩ = some (.slice xAk x.ks.length xck) ∧ W.cell? ⟨lb, loff + i * 6 + 4, none⟩ = some (.slice xAl x.l.length xcl) ∧ W.cell? ⟨lb, loff + i * 6 + 5, none⟩ = some (.slice xAd x.d.length xcd)) ∧ Below wr.heap.size wr W from fun W h => ⟨⟨⟨by rw [← hAk]; exact (h.cell (World.block_lt_of_cell? wr _ c3)).trans c3, by rw [← hAl]; exact (h.cell (World.block_lt_of_cell? wr _ c4)).trans c4⟩, (h.cell (World.block_lt_of_cell? wr _ hkc2)).trans hkc2, (h.cell (World.block_lt_of_cell? wr _ (hcell 0 _ rfl))).trans (hcell 0 _ rfl), (h.cell (World.block_lt_of_cell? wr _ (hcell 1 _ rfl))).trans (hcell 1 _ rfl), (h.cell (World.block_lt_of_cell? wr _ (hcell 2 _ rfl))).trans (hcell 2 _ rfl), (h.cell (World.block_lt_of_cell? wr _ (hcell 3 _ rfl))).trans (hcell 3 _ rfl), (h.cell (World.block_lt_of_cell? wr _ (hcell 4 _ rfl))).trans (hcell 4 _ rfl), (h.cell (World.block_lt_of_cell? wr _ (hcell 5 _ rfl))).trans (hcell 5 _ rfl)⟩, h⟩)
      have HN2 := Lib.hid (show ∀ W, Below wr.heap.size wr W → Calls Tryd.prog 22 #[.string kk] W fun e w' => e = .returned (.string (asStr nm)) ∧ Below wr.heap.size wr w' from fun W h => (HN.out W).mono (fun e w' h' => ⟨by rw [hnm]; exact h'.1, h.trans (h'.2.mono h.size)⟩))
      have HP2 := Lib.hid (show ∀ W, Below wr.heap.size wr W → Calls Tryd.prog 11 #[.agg #[.int .i64 x.k, .int .i64 xn, .string xt, .slice xAk x.ks.length xck, .slice xAl x.l.length xcl, .slice xAd x.d.length xcd]] W fun e w' => e = .returned (.string (asStr xb)) ∧ Below wr.heap.size wr w' from fun W h => (HHC.out _ W (HX.out W h) HXL.out).mono (fun e w' h' => ⟨by rw [hxb]; exact h'.1, h.trans (h'.2.mono h.size)⟩))
      rw [← hnm, ← hxb] at HFI
      have A1 := cat_run (asStr acc) ⟨#[32]⟩ (by simp only [asStr_size, size_one]; omega)
      have A2 := cat_run (asStr acc ++ ⟨#[32]⟩) (asStr nm) (by simp only [ByteArray.size_append, asStr_size, size_one] at hzk ⊢; omega)
      have A3 := cat_run (asStr acc ++ ⟨#[32]⟩ ++ asStr nm) ⟨#[32]⟩ (by simp only [ByteArray.size_append, asStr_size, size_one] at hzk ⊢; omega)
      have A4 := cat_run (asStr acc ++ ⟨#[32]⟩ ++ asStr nm ++ ⟨#[32]⟩) (asStr xb) (by simp only [ByteArray.size_append, asStr_size, size_one] at hzk hzx ⊢; omega)
      have s0 := (HS.out wr (Below.refl _ _)).1.1.1
      subst hAl
      subst hAk
      clear hx hdk hdw hstep hcell hkc2 hlen hxl hfin h127 HN HXL hnm hxb HX HHC hwb c0 c3 c4 c5
      have c3 := (HS.out wr (Below.refl _ _)).1.1.1
      clear s0
      go_wp2_with fail
      go_region_held3 (fun W => ((W.cell? ⟨w.heap.size, 3, none⟩ = some (.slice (some ⟨kb, koff, none⟩) ks.length ck) ∧ W.cell? ⟨w.heap.size, 4, none⟩ = some (.slice (some ⟨lb, loff, none⟩) l.length cl)) ∧ W.cell? ⟨kb, koff + i, none⟩ = some (.string kk) ∧ W.cell? ⟨lb, loff + i * 6, none⟩ = some (.int .i64 x.k) ∧ W.cell? ⟨lb, loff + i * 6 + 1, none⟩ = some (.int .i64 xn) ∧ W.cell? ⟨lb, loff + i * 6 + 2, none⟩ = some (.string xt) ∧ W.cell? ⟨lb, loff + i * 6 + 3, none⟩ = some (.slice xAk x.ks.length xck) ∧ W.cell? ⟨lb, loff + i * 6 + 4, none⟩ = some (.slice xAl x.l.length xcl) ∧ W.cell? ⟨lb, loff + i * 6 + 5, none⟩ = some (.slice xAd x.d.length xcd)) ∧ Below wr.heap.size wr W)
        (first
          | exact HS.out _ (by assumption)
          | exact HS.out _ (below_drew' (Below.refl _ _))
          | exact HS.out _ (Below.refl _ _))
        (first
          | (go_at_call 22; refine (HN2.out _ (by first | assumption | (go_split_ands; assumption))).mono ?_; rintro e w8 ⟨rfl, q8⟩)
          | (go_at_call 11; refine (HP2.out _ (by first | assumption | (go_split_ands; assumption))).mono ?_; rintro e w8 ⟨rfl, q8⟩))
      rename (_ ∧ Below wr.heap.size wr _) => hfin
      have HW3 := Lib.hid (hw.out.trans (hfin.2.mono hw.out.size))
      clear hfin
      go_wp2_with fail
      go_roundw
      case rel => exact ⟨i + 1, acc ++ [32] ++ nm ++ [32] ++ xb, by omega, by go_num, congrArg Value.string (by simp only [← asStr_append]; rfl), HFI, HW3⟩
      case measure => simp [intOf]; omega
    · obtain rfl : i = ks.length := by omega
      have HF : Hid (acc = [60, 60] ++ J) := by
        have h1 := hacc.out
        rw [List.drop_of_length_le (Nat.le_refl _)] at h1
        have h2 : acc = [60, 60] ++ J := by simpa [pairItems] using h1
        exact h2
      have HB := Lib.hid (HBB.out wr hw.out)
      go_wp2_with fail
      go_ret
      exact ⟨ret_str (by rw [HFIN.out, HF.out]; exact asStr_append ([60, 60] ++ J) [32, 62, 62]), HB.out⟩
end Go.Proofs.YtkcdckcckpgliaaDoor
