/- pobj.pairs and pobj.write as the machine runs them: by induction on the depth to which the object is sound. -/
import Derived.Test.YtkcdckcckpgliaaDoorWrW
namespace Go.Proofs.YtkcdckcckpgliaaDoor
open Go.RowKit Go.Shelf

def WrAt (d : Nat) : Prop := ∀ (o : PO) (v : Array Value) (w0 w : World) (T : TypeId) (rest : Array Value) (ok : Nat → Prop) (b : Nat) (bs : List UInt8), sndB d o = true → ORd w0 o v → Tab w0 → Below w0.heap.size w0 w → (∀ k, ok k → w0.heap.size ≤ k) →
  BufAt 5 T rest ok b bs w → (∀ k, w.heap.size ≤ k → ok k) → bs.length + (wrL o).length ≤ 70368744177664 →
  Calls Tryd.prog 16 #[.pointer (some ⟨b, 0, none⟩), .agg v] w fun e w' => e = .returned (.tuple #[]) ∧ BufAt 5 T rest ok b (bs ++ wrL o) w' ∧ Fr ok w w'

/-- A cell of a block of one's own that the calls leave out. -/
theorem own_cell {ok : Nat → Prop} {w W : World} {X : Array Value} {T : TypeId} (h : Fr (but ok w.heap.size) (w.alloc (.cells X T)) W) (j : Nat) (v : Value) (hj : X[j]? = some v) : W.cell? ⟨w.heap.size, j, none⟩ = some v := by
  rw [h.cell (p := ⟨w.heap.size, j, none⟩) (by simp) (fun hb => hb.2 rfl), Lib.cell_of_heap (heap_alloc_new w _)]
  exact hj
theorem own_frozen {ok : Nat → Prop} {w W : World} {X : Array Value} {T : TypeId} (h : Fr (but ok w.heap.size) (w.alloc (.cells X T)) W) (j : Nat) : W.frozen? ⟨w.heap.size, j, none⟩ = false := by
  rw [h.frozen (p := ⟨w.heap.size, j, none⟩) (by simp) (fun hb => hb.2 rfl), Lib.frozen_of_heap (heap_alloc_new w _)]

set_option maxHeartbeats 3200000 in
set_option maxRecDepth 100000 in
theorem pairs_of (d : Nat) (H : WrAt d) (k n : Int) (t : ByteArray) (ks : List ByteArray) (l : List PO) (dd : List UInt8) (v : Array Value) (more : ByteArray) (w0 w : World) (T : TypeId) (rest : Array Value) (ok : Nat → Prop) (b : Nat) (bs : List UInt8)
    (hkl : ks.length = l.length) (hsn : ∀ i (h : i < l.length), sndB d l[i] = true) (ho : ORd w0 ⟨k, n, t, ks, l, dd⟩ v) (ht : Tab w0) (h0 : Below w0.heap.size w0 w) (hok0 : ∀ k, ok k → w0.heap.size ≤ k)
    (hB : BufAt 5 T rest ok b bs w) (hok : ∀ k, w.heap.size ≤ k → ok k) (hlim : bs.length + (pairsB ks (wrs l) more.data.toList).length ≤ 70368744177664) (hkn : ∀ s, s ∈ ks → s.size ≤ 127) :
    Calls Tryd.prog 34 #[.pointer (some ⟨b, 0, none⟩), .agg v, .string more] w fun e w' => e = .returned (.tuple #[]) ∧ BufAt 5 T rest ok b (bs ++ pairsB ks (wrs l) more.data.toList) w' ∧ Fr ok w w' := by
  obtain ⟨cs, hks, hkc, hkm, hl, hc, hlc, hlm, hd, hdc, hdm, htz, hkt⟩ := ho
  rename_i Ak Al Ad ck cl cd
  have HKS := Lib.hid hks; have HL := Lib.hid hl; have HC := Lib.hid hc; have HKT := Lib.hid hkt; have HT := Lib.hid ht; have H00 := Lib.hid h0; have HOK0 := Lib.hid hok0
  have HH := Lib.hid H; have HSN := Lib.hid hsn
  clear hks hl hc hd hkt ht h0 H hsn
  obtain ⟨R, hR⟩ : ∃ R, R = pairsB ks (wrs l) more.data.toList := ⟨_, rfl⟩
  have hRlen : R.length = 2 + (pairItems ks (wrs l)).length + (more.size + 3) := by
    rw [hR, pairsB]
    simp only [List.length_append, List.length_cons, List.length_nil, size_data]
  rw [← hR] at hlim ⊢
  have HR := Lib.hid hR
  clear hR
  obtain ⟨X, hX⟩ : ∃ X, X = #[Value.int .i64 k, .int .i64 n, .string t, .slice Ak ks.length ck, .slice Al l.length cl, .slice Ad dd.length cd] := ⟨_, rfl⟩
  have hX3 : X[3]? = some (.slice Ak ks.length ck) := by rw [hX]; rfl
  have hX4 : X[4]? = some (.slice Al l.length cl) := by rw [hX]; rfl
  rw [← hX]
  have HX := Lib.hid hX
  have HX3 := Lib.hid hX3
  have HX4 := Lib.hid hX4
  have HOK := Lib.hid (show ∀ W : World, (w.alloc (.cells X 26)).heap.size ≤ W.heap.size → ∀ q, W.heap.size ≤ q → but ok w.heap.size q from fun W hW q hq => by simp at hW; exact ⟨hok q (by omega), by omega⟩)
  have HB1 := Lib.hid (show BufAt 5 T rest (but ok w.heap.size) b bs (w.alloc (.cells X 26)) from (hB.imp (ok' := but ok w.heap.size) fun q hq h => ⟨h, by omega⟩).alloc _)
  have HF1 := Lib.hid (Fr.refl (but ok w.heap.size) (w.alloc (.cells X 26)))
  have hbl : ∀ W : World, Fr (but ok w.heap.size) (w.alloc (.cells X 26)) W → Below w0.heap.size w0 W := fun W hW => keeps (H00.out.trans ((below_alloc w _).mono H00.out.size)) hW (fun q hq => HOK0.out q hq.1)
  have HBL := Lib.hid hbl
  have HKL := Lib.hid hkl
  have HKN := Lib.hid hkn
  clear hkn hB hok hok0 hbl hX hX3 hX4 hkl
  go_enter Tryd.func34, Tryd.ntmps34
  rw [HX.out]
  go_wp2_with fail
  rw [← HX.out]
  refine (writeString_any (T := T) (rest := rest) (ok := but ok w.heap.size) (bs := bs) ⟨#[60, 60]⟩ _ HB1.out (HOK.out _ (Nat.le_refl _)) (by show bs.length + 2 ≤ _; omega)).mono ?_
  rintro e w1 ⟨rfl, b1, f1⟩
  have B1 := Lib.hid b1
  have F1 := Lib.hid f1
  have c3 := own_cell f1 3 _ HX3.out
  clear b1 f1
  go_wp2_with fail
  have hst : Hid ((bs ++ [60, 60]) ++ pairItems (ks.drop 0) ((wrs l).drop 0) = (bs ++ [60, 60]) ++ pairItems ks (wrs l)) := rfl
  clear c3
  go_loopw [6, 7, 13] (fun _ _ v wr => ∃ (i : Nat) (acc : List UInt8), i ≤ ks.length ∧ v = .int .i64 i ∧ Hid (acc ++ pairItems (ks.drop i) ((wrs l).drop i) = (bs ++ [60, 60]) ++ pairItems ks (wrs l)) ∧ Hid (BufAt 5 T rest (but ok w.heap.size) b acc wr) ∧ Hid (Fr (but ok w.heap.size) (w.alloc (.cells X 26)) wr)) (fun _ _ v _ => ks.length - (intOf v).toNat)
  case atStart => exact ⟨0, _, Nat.zero_le _, rfl, hst, B1, F1⟩
  case round =>
    clear hst B1 F1
    obtain ⟨i, acc, hi, rfl, hacc, hBw, hFw⟩ := hrel
    by_cases hlt : i < ks.length
    · have hltl : i < l.length := by rw [← HKL.out]; exact hlt
      have hdk : ks.drop i = ks[i] :: ks.drop (i + 1) := List.drop_eq_getElem_cons hlt
      have hdw := wrs_drop l i hltl
      have h127 := HKN.out ks[i] (List.getElem_mem hlt)
      have hx := (HL.out i hltl).keep (HBL.out wr hFw.out)
      have hxs := HSN.out i hltl
      have hxd := HL.out i hltl
      obtain ⟨kb, koff, hAk, hkc2⟩ := StrsAt.elem (StrsAt.keep HKS.out (HBL.out wr hFw.out)) i hlt
      have helem := RowAt.elem HC.out i hltl
      have hstep : acc ++ 32 :: (nameL ks[i].data.toList ++ 32 :: (wrL l[i] ++ pairItems (ks.drop (i + 1)) ((wrs l).drop (i + 1)))) = (bs ++ [60, 60]) ++ pairItems ks (wrs l) := by
        have := hacc.out
        rw [hdk, hdw, pairItems] at this
        exact this
      generalize ks[i] = kk at *
      generalize l[i] = x at *
      generalize cs i = ci at *
      have hlen := congrArg List.length hstep
      simp only [List.length_append, List.length_cons, List.length_nil] at hlen
      have HSTEP := Lib.hid hstep
      have HXD := Lib.hid hxd
      have HXS := Lib.hid hxs
      obtain ⟨xn, xt, xAk, xck, xAl, xcl, xAd, xcd, rfl⟩ := hxd.agg
      have HEL := Lib.hid helem
      subst hAk
      clear hx hxs hxd hdk hdw hstep helem
      go_wp2_with fail
      refine (writeByte_any (T := T) (rest := rest) (ok := but ok w.heap.size) (bs := acc) 32 wr hBw.out (HOK.out _ hFw.out.size) (by omega)).mono ?_
      rintro e w2 ⟨rfl, b2, f2⟩
      have B2 := Lib.hid b2
      have F2 := Lib.hid (hFw.out.trans f2)
      clear b2 f2
      go_wp2_with fail
      refine (name_calls (T := T) (rest := rest) (ok := but ok w.heap.size) (bs := acc ++ [32]) kk w2 B2.out (HOK.out _ F2.out.size) (by omega) (by rw [List.length_append, List.length_singleton]; omega)).mono ?_
      rintro e w3 ⟨rfl, b3, f3⟩
      have B3 := Lib.hid b3
      have F3 := Lib.hid (F2.out.trans f3)
      clear b3 f3
      go_wp2_with fail
      refine (writeByte_any (T := T) (rest := rest) (ok := but ok w.heap.size) (bs := acc ++ [32] ++ nameL kk.data.toList) 32 w3 B3.out (HOK.out _ F3.out.size) (by simp only [List.length_append, List.length_singleton]; omega)).mono ?_
      rintro e w4 ⟨rfl, b4, f4⟩
      have B4 := Lib.hid b4
      have F4 := Lib.hid (F3.out.trans f4)
      have c4 := own_cell F4.out 4 _ HX4.out
      obtain ⟨lb, loff, hAl, hcell⟩ := HEL.out
      have hb4 := HBL.out w4 F4.out
      have hc4 : ∀ j v, _ → w4.cell? ⟨lb, loff + i * 6 + j, none⟩ = some v := fun j v hj => (hb4.cell (World.block_lt_of_cell? w0 _ (hcell j v hj))).trans (hcell j v hj)
      have e0 := hc4 0 _ rfl
      have e1 := hc4 1 _ rfl
      have e2 := hc4 2 _ rfl
      have e3 := hc4 3 _ rfl
      have e4 := hc4 4 _ rfl
      have e5 := hc4 5 _ rfl
      simp only [Nat.add_zero] at e0
      have HB4 := Lib.hid hb4
      subst hAl
      clear b4 f4 hcell hc4 hb4 hkc2
      go_wp2_with fail
      refine (HH.out x _ w0 w4 T rest (but ok w.heap.size) b (acc ++ [32] ++ nameL kk.data.toList ++ [32]) HXS.out HXD.out HT.out HB4.out (fun q hq => HOK0.out q hq.1) B4.out (HOK.out _ F4.out.size) (by simp only [List.length_append, List.length_singleton]; omega)).mono ?_
      rintro e w5 ⟨rfl, b5, f5⟩
      have B5 := Lib.hid b5
      have F5 := Lib.hid (F4.out.trans f5)
      clear b5 f5 e0 e1 e2 e3 e4 e5 c4
      have hfin : Hid ((acc ++ [32] ++ nameL kk.data.toList ++ [32] ++ wrL x) ++ pairItems (ks.drop (i + 1)) ((wrs l).drop (i + 1)) = (bs ++ [60, 60]) ++ pairItems ks (wrs l)) := by
        show _ = _
        rw [← HSTEP.out]
        simp only [List.append_assoc, List.cons_append, List.nil_append]
      go_wp2_with fail
      go_roundw
      case rel => exact ⟨i + 1, _, by omega, by go_num, hfin, B5, F5⟩
      case measure => simp [intOf]; omega
    · obtain rfl : i = ks.length := by omega
      have hfull : acc = (bs ++ [60, 60]) ++ pairItems ks (wrs l) := by
        have h1 := hacc.out
        rw [List.drop_of_length_le (Nat.le_refl _)] at h1
        simpa [pairItems] using h1
      have hz : more.size + 3 ≤ 70368744177664 := by omega
      have hms : (more ++ ⟨#[32, 62, 62]⟩).size = more.size + 3 := by rw [ByteArray.size_append]; rfl
      have hmd : (more ++ ⟨#[32, 62, 62]⟩).data.toList = more.data.toList ++ [32, 62, 62] := by rw [ByteArray.data_append, Array.toList_append]
      have hal : acc.length = bs.length + 2 + (pairItems ks (wrs l)).length := by rw [hfull]; simp only [List.length_append, List.length_cons, List.length_nil]
      have hws := fun h2 => writeString_any (T := T) (rest := rest) (ok := but ok w.heap.size) (bs := acc) (more ++ ⟨#[32, 62, 62]⟩) wr hBw.out (HOK.out _ hFw.out.size) h2
      rw [hms] at hws
      have HWS := Lib.hid (hws (by omega))
      have HMD := Lib.hid hmd
      have HFULL := Lib.hid hfull
      clear hws hms hmd hfull hal
      go_wp2_with fail
      refine HWS.out.mono ?_
      rintro e w5 ⟨rfl, b5, f5⟩
      have B5 := Lib.hid b5
      have F5 := Lib.hid (hFw.out.trans f5)
      clear b5 f5
      go_wp2_with fail
      go_end0
      refine ⟨rfl, ?_, (Fr.alloc (Fr.refl ok w) _).trans (Fr.mono F5.out fun q _ h => h.1)⟩
      have h1 := BufAt.imp (ok' := ok) B5.out fun q _ h => h.1
      rw [HMD.out, HFULL.out] at h1
      rw [HR.out, pairsB]
      simp only [List.append_assoc] at h1 ⊢
      exact h1
end Go.Proofs.YtkcdckcckpgliaaDoor
