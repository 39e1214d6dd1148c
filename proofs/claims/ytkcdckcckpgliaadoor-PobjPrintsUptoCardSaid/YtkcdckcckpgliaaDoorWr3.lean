/- pobj.write as the machine runs it: arrays, dictionaries and streams. -/
import Derived.Test.YtkcdckcckpgliaaDoorWr2
import Derived.Outline
import Derived.Deep.DeepCutAuto
import Derived.Deep.RegionWith
namespace Go.Proofs.YtkcdckcckpgliaaDoor
open Go.RowKit Go.Shelf

theorem writeByte_at {T : TypeId} {rest : Array Value} {ok : Nat → Prop} {b : Nat} {bs : List UInt8} (c : UInt8) (z : Int) (hz : z = c.toNat) (w : World) (h : BufAt 5 T rest ok b bs w) (hok : ∀ k, w.heap.size ≤ k → ok k) (hlim : bs.length + 1 ≤ 140737488355328) :
    Calls Tryd.prog 33 #[.pointer (some ⟨b, 0, none⟩), .int .u8 z] w fun e w' => e = .returned .nilIface ∧ BufAt 5 T rest ok b (bs ++ [c]) w' ∧ Fr ok w w' := by
  subst hz
  exact writeByte_any c w h hok hlim
theorem two_get (i : Nat) (m : Int) (hm : m = min (i : Int) 1) (h : m.toNat < (⟨#[91, 32]⟩ : ByteArray).size) : (((⟨#[91, 32]⟩ : ByteArray)[m.toNat]'h).toNat : Int) = ((if (i == 0) then 91 else 32 : UInt8).toNat : Nat) := by
  rcases Nat.eq_zero_or_pos i with rfl | hi
  · subst hm; rfl
  · have : m = 1 := by omega
    subst this
    rw [if_neg (by simp; omega)]
    rfl

set_option maxHeartbeats 3200000 in
set_option maxRecDepth 100000 in
theorem wr_7 (d : Nat) (H : WrAt d) (n : Int) (t : ByteArray) (ks : List ByteArray) (l : List PO) (dd : List UInt8) (v : Array Value) (w0 w : World) (T : TypeId) (rest : Array Value) (ok : Nat → Prop) (b : Nat) (bs : List UInt8)
    (hkl : ks.length = l.length) (hsn : ∀ i (h : i < l.length), sndB d l[i] = true) (hkn : ∀ s, s ∈ ks → s.size ≤ 127) (ho : ORd w0 ⟨7, n, t, ks, l, dd⟩ v) (ht : Tab w0) (h0 : Below w0.heap.size w0 w) (hok0 : ∀ k, ok k → w0.heap.size ≤ k)
    (hB : BufAt 5 T rest ok b bs w) (hok : ∀ k, w.heap.size ≤ k → ok k) (hlim : bs.length + (wrL ⟨7, n, t, ks, l, dd⟩).length ≤ 70368744177664) :
    Calls Tryd.prog 16 #[.pointer (some ⟨b, 0, none⟩), .agg v] w fun e w' => e = .returned (.tuple #[]) ∧ BufAt 5 T rest ok b (bs ++ wrL ⟨7, n, t, ks, l, dd⟩) w' ∧ Fr ok w w' := by
  have hR : wrL ⟨7, n, t, ks, l, dd⟩ = pairsB ks (wrs l) (ByteArray.data ⟨#[]⟩).toList := by rw [wrL]; rfl
  rw [hR] at hlim ⊢
  clear hR
  have HP := Lib.hid (fun X => pairs_of d H 7 n t ks l dd v ⟨#[]⟩ w0 (w.alloc X) T rest ok b bs hkl hsn ho ht (h0.trans ((below_alloc w X).mono h0.size)) hok0 (hB.alloc X) (fun k hk => hok k (by simp at hk; omega)) hlim hkn)
  have HF1 := Lib.hid (fun X => Fr.alloc (Fr.refl ok w) X)
  generalize pairsB ks (wrs l) (ByteArray.data ⟨#[]⟩).toList = R at *
  obtain ⟨cs, hks, hkc, hkm, hl, hc, hlc, hlm, hd, hdc, hdm, htz, hkt⟩ := ho
  rename_i Ak Al Ad ck cl cd
  clear hks hl hc hd hkt hkl hsn hkn ht h0 hok0 hB hok hlim H
  go_enter Tryd.func16, Tryd.ntmps16
  go_wp2_with fail
  refine (HP.out _).mono ?_
  rintro e w1 ⟨rfl, b1, f1⟩
  have B1 := Lib.hid b1
  have F1 := Lib.hid ((HF1.out _).trans f1)
  clear b1 f1
  go_wp2_with fail
  go_end0
  exact ⟨rfl, B1.out, F1.out⟩

set_option maxHeartbeats 3200000 in
set_option maxRecDepth 100000 in
theorem wr_6 (d : Nat) (H : WrAt d) (n : Int) (t : ByteArray) (ks : List ByteArray) (l : List PO) (dd : List UInt8) (v : Array Value) (w0 w : World) (T : TypeId) (rest : Array Value) (ok : Nat → Prop) (b : Nat) (bs : List UInt8)
    (hsn : ∀ i (h : i < l.length), sndB d l[i] = true) (ho : ORd w0 ⟨6, n, t, ks, l, dd⟩ v) (ht : Tab w0) (h0 : Below w0.heap.size w0 w) (hok0 : ∀ k, ok k → w0.heap.size ≤ k)
    (hB : BufAt 5 T rest ok b bs w) (hok : ∀ k, w.heap.size ≤ k → ok k) (hlim : bs.length + (wrL ⟨6, n, t, ks, l, dd⟩).length ≤ 70368744177664) :
    Calls Tryd.prog 16 #[.pointer (some ⟨b, 0, none⟩), .agg v] w fun e w' => e = .returned (.tuple #[]) ∧ BufAt 5 T rest ok b (bs ++ wrL ⟨6, n, t, ks, l, dd⟩) w' ∧ Fr ok w w' := by
  have hR : wrL ⟨6, n, t, ks, l, dd⟩ = arrB (wrs l) := by rw [wrL]; rfl
  rw [hR] at hlim ⊢
  clear hR
  obtain ⟨cs, hks, hkc, hkm, hl, hc, hlc, hlm, hd, hdc, hdm, htz, hkt⟩ := ho
  rename_i Ak Al Ad ck cl cd
  have HL := Lib.hid hl; have HC := Lib.hid hc; have HT := Lib.hid ht; have H00 := Lib.hid h0; have HOK0 := Lib.hid hok0
  have HH := Lib.hid H; have HSN := Lib.hid hsn
  clear hks hl hc hd hkt ht h0 H hsn
  obtain ⟨R, hR⟩ : ∃ R, R = arrB (wrs l) := ⟨_, rfl⟩
  have hRlen : R.length = (arrItems true (wrs l)).length + (if (wrs l).isEmpty then [91] else ([] : List UInt8)).length + 1 := by
    rw [hR, arrB]
    simp only [List.length_append, List.length_cons, List.length_nil]
  rw [← hR] at hlim ⊢
  have HR := Lib.hid hR
  clear hR
  obtain ⟨X, hX⟩ : ∃ X, X = #[Value.int .i64 6, .int .i64 n, .string t, .slice Ak ks.length ck, .slice Al l.length cl, .slice Ad dd.length cd] := ⟨_, rfl⟩
  have hX4 : X[4]? = some (.slice Al l.length cl) := by rw [hX]; rfl
  rw [← hX]
  have HX := Lib.hid hX
  have HX4 := Lib.hid hX4
  have HOK := Lib.hid (show ∀ W : World, (w.alloc (.cells X 26)).heap.size ≤ W.heap.size → ∀ q, W.heap.size ≤ q → but ok w.heap.size q from fun W hW q hq => by simp at hW; exact ⟨hok q (by omega), by omega⟩)
  have HB1 := Lib.hid (show BufAt 5 T rest (but ok w.heap.size) b bs (w.alloc (.cells X 26)) from (hB.imp (ok' := but ok w.heap.size) fun q hq h => ⟨h, by omega⟩).alloc _)
  have HF1 := Lib.hid (Fr.refl (but ok w.heap.size) (w.alloc (.cells X 26)))
  have hbl : ∀ W : World, Fr (but ok w.heap.size) (w.alloc (.cells X 26)) W → Below w0.heap.size w0 W := fun W hW => keeps (H00.out.trans ((below_alloc w _).mono H00.out.size)) hW (fun q hq => HOK0.out q hq.1)
  have HBL := Lib.hid hbl
  clear hB hok hok0 hbl hX hX4
  go_enter Tryd.func16, Tryd.ntmps16
  rw [HX.out]
  go_wp2_with fail
  rw [← HX.out]
  have hst : Hid (bs ++ arrItems true ((wrs l).drop 0) = bs ++ arrItems true (wrs l)) := rfl
  go_loopw [4, 5, 75] (fun _ _ v wr => ∃ (i : Nat) (acc : List UInt8), i ≤ l.length ∧ v = .int .i64 i ∧ Hid (acc ++ arrItems (i == 0) ((wrs l).drop i) = bs ++ arrItems true (wrs l)) ∧ Hid (BufAt 5 T rest (but ok w.heap.size) b acc wr) ∧ Hid (Fr (but ok w.heap.size) (w.alloc (.cells X 26)) wr)) (fun _ _ v _ => l.length - (intOf v).toNat)
  case atStart => exact ⟨0, _, Nat.zero_le _, rfl, hst, HB1, HF1⟩
  case round =>
    clear hst HB1 HF1
    obtain ⟨i, acc, hi, rfl, hacc, hBw, hFw⟩ := hrel
    by_cases hlt : i < l.length
    · have hdw := wrs_drop l i hlt
      have hxs := HSN.out i hlt
      have hxd := HL.out i hlt
      have helem := RowAt.elem HC.out i hlt
      have hstep : acc ++ (if (i == 0) then 91 else 32) :: (wrL l[i] ++ arrItems false ((wrs l).drop (i + 1))) = bs ++ arrItems true (wrs l) := by
        have := hacc.out
        rw [hdw, arrItems] at this
        exact this
      generalize l[i] = x at *
      generalize cs i = ci at *
      have hlen := congrArg List.length hstep
      simp only [List.length_append, List.length_cons, List.length_nil] at hlen
      have HSTEP := Lib.hid hstep
      have HXD := Lib.hid hxd
      have HXS := Lib.hid hxs
      obtain ⟨xn, xt, xAk, xck, xAl, xcl, xAd, xcd, rfl⟩ := hxd.agg
      obtain ⟨lb, loff, hAl, hcell⟩ := helem
      have hb4 := HBL.out wr hFw.out
      have hc4 : ∀ j v, _ → wr.cell? ⟨lb, loff + i * 6 + j, none⟩ = some v := fun j v hj => (hb4.cell (World.block_lt_of_cell? w0 _ (hcell j v hj))).trans (hcell j v hj)
      have e0 := hc4 0 _ rfl
      have e1 := hc4 1 _ rfl
      have e2 := hc4 2 _ rfl
      have e3 := hc4 3 _ rfl
      have e4 := hc4 4 _ rfl
      have e5 := hc4 5 _ rfl
      simp only [Nat.add_zero] at e0
      have HB4 := Lib.hid hb4
      subst hAl
      clear hxs hxd hdw hstep hcell hc4 hb4
      go_wp2_with fail
      obtain ⟨Y, hY⟩ : ∃ Y, Y = #[Value.int .i64 x.k, .int .i64 xn, .string xt, .slice xAk x.ks.length xck, .slice xAl x.l.length xcl, .slice xAd x.d.length xcd] := ⟨_, rfl⟩
      rw [← hY] at HXD ⊢
      have hyj : ∀ (j : Nat) (v : Value), (#[Value.int .i64 x.k, .int .i64 xn, .string xt, .slice xAk x.ks.length xck, .slice xAl x.l.length xcl, .slice xAd x.d.length xcd] : Array Value)[j]? = some v → Y[j]? = some v := fun j v h => by rw [hY]; exact h
      have y0 := hyj 0 _ rfl
      have y1 := hyj 1 _ rfl
      have y2 := hyj 2 _ rfl
      have y3 := hyj 3 _ rfl
      have y4 := hyj 4 _ rfl
      have y5 := hyj 5 _ rfl
      clear hyj e0 e1 e2 e3 e4 e5
      have HY := Lib.hid hY
      clear hY
      have hwz := hFw.out.size
      refine (writeByte_at (T := T) (rest := rest) (ok := but (but ok w.heap.size) wr.heap.size) (bs := acc) (if (i == 0) then 91 else 32) _ (two_get i _ rfl _) _ ((hBw.out.imp (ok' := but (but ok w.heap.size) wr.heap.size) fun q hq h => ⟨h, by omega⟩).alloc _) (fun q hq => ⟨HOK.out wr hwz q (by simp at hq; omega), by simp at hq; omega⟩) (by omega)).mono ?_
      rintro e w2 ⟨rfl, b2, f2⟩
      have B2 := Lib.hid (BufAt.imp (ok' := but ok w.heap.size) b2 fun q _ h => h.1)
      have F2 := Lib.hid (hFw.out.trans ((Fr.alloc (Fr.refl _ wr) _).trans (f2.mono fun q _ h => h.1)))
      have s0 := own_cell f2 0 _ y0
      have s1 := own_cell f2 1 _ y1
      have s2 := own_cell f2 2 _ y2
      have s3 := own_cell f2 3 _ y3
      have s4 := own_cell f2 4 _ y4
      have s5 := own_cell f2 5 _ y5
      have hb2 := HBL.out w2 F2.out
      have HB2 := Lib.hid hb2
      clear b2 f2 hb2 y0 y1 y2 y3 y4 y5 HB4
      go_wp2_with fail
      rw [← HY.out]
      refine (HH.out x _ w0 w2 T rest (but ok w.heap.size) b (acc ++ [if (i == 0) then 91 else 32]) HXS.out HXD.out HT.out HB2.out (fun q hq => HOK0.out q hq.1) B2.out (HOK.out _ F2.out.size) (by simp only [List.length_append, List.length_singleton]; omega)).mono ?_
      rintro e w5 ⟨rfl, b5, f5⟩
      have B5 := Lib.hid b5
      have F5 := Lib.hid (F2.out.trans f5)
      clear b5 f5 s0 s1 s2 s3 s4 s5
      have hfin : Hid ((acc ++ [if (i == 0) then 91 else 32] ++ wrL x) ++ arrItems (i + 1 == 0) ((wrs l).drop (i + 1)) = bs ++ arrItems true (wrs l)) := by
        show _ = _
        rw [← HSTEP.out]
        simp only [List.append_assoc, List.cons_append, List.nil_append]
        rfl
      go_wp2_with fail
      go_roundw
      case rel => exact ⟨i + 1, _, by omega, by go_num, hfin, B5, F5⟩
      case measure => simp [intOf]; omega
    · obtain rfl : i = l.length := by omega
      have hfull : acc = bs ++ arrItems true (wrs l) := by
        have h1 := hacc.out
        rw [List.drop_of_length_le (by rw [wrs_length]; exact Nat.le_refl _)] at h1
        simpa [arrItems] using h1
      have hal : acc.length = bs.length + (arrItems true (wrs l)).length := by rw [hfull, List.length_append]
      have HFULL := Lib.hid hfull
      have c4 := own_cell hFw.out 4 _ HX4.out
      clear hfull
      by_cases hl0 : l.length = 0
      · have hnil : wrs l = [] := by
          rw [List.eq_nil_of_length_eq_zero hl0]; rfl
        have HN := Lib.hid hnil
        rw [hnil] at hRlen hal
        simp only [arrItems, List.length_nil, List.isEmpty_nil, if_true, List.length_cons] at hRlen hal
        clear hnil
        go_wp2_with fail
        refine (writeByte_any (T := T) (rest := rest) (ok := but ok w.heap.size) (bs := acc) 91 wr hBw.out (HOK.out _ hFw.out.size) (by omega)).mono ?_
        rintro e w2 ⟨rfl, b2, f2⟩
        have B2 := Lib.hid b2
        have F2 := Lib.hid (hFw.out.trans f2)
        clear b2 f2
        go_wp2_with fail
        refine (writeByte_any (T := T) (rest := rest) (ok := but ok w.heap.size) (bs := acc ++ [91]) 93 w2 B2.out (HOK.out _ F2.out.size) (by rw [List.length_append, List.length_singleton]; omega)).mono ?_
        rintro e w3 ⟨rfl, b3, f3⟩
        have B3 := Lib.hid b3
        have F3 := Lib.hid (F2.out.trans f3)
        clear b3 f3
        go_wp2_with fail
        go_end0
        refine ⟨rfl, ?_, (Fr.alloc (Fr.refl ok w) _).trans (Fr.mono F3.out fun q _ h => h.1)⟩
        have h1 := BufAt.imp (ok' := ok) B3.out fun q _ h => h.1
        rw [HFULL.out] at h1
        rw [HR.out, arrB]
        rw [HN.out] at h1 ⊢
        simp only [List.append_assoc] at h1 ⊢
        exact h1
      · have hnil : (wrs l).isEmpty = false := by
          rw [List.isEmpty_eq_false_iff, ← List.length_pos_iff, wrs_length]; omega
        have HN := Lib.hid hnil
        clear hnil
        go_wp2_with fail
        refine (writeByte_any (T := T) (rest := rest) (ok := but ok w.heap.size) (bs := acc) 93 wr hBw.out (HOK.out _ hFw.out.size) (by omega)).mono ?_
        rintro e w3 ⟨rfl, b3, f3⟩
        have B3 := Lib.hid b3
        have F3 := Lib.hid (hFw.out.trans f3)
        clear b3 f3
        go_wp2_with fail
        go_end0
        refine ⟨rfl, ?_, (Fr.alloc (Fr.refl ok w) _).trans (Fr.mono F3.out fun q _ h => h.1)⟩
        have h1 := BufAt.imp (ok' := ok) B3.out fun q _ h => h.1
        rw [HFULL.out] at h1
        rw [HR.out, arrB, HN.out, if_neg (by simp), List.append_nil, ← List.append_assoc]
        exact h1
theorem below_drew {n : Nat} {w w' : World} (h : Below n w w') : Below n w w'.drew := ⟨h.os, h.tape, h.output, h.size, h.block⟩
theorem write_src {T : TypeId} {rest : Array Value} {ok : Nat → Prop} {b : Nat} {bs : List UInt8} (s : List UInt8) (A : Option Addr) (c : Nat) (w : World) (h : BufAt 5 T rest ok b bs w) (hok : ∀ k, w.heap.size ≤ k → ok k) (hab : ∀ a, s ≠ [] → A = some a → a.block ≠ b) (hsrc : BytesAt w A s) (hlim : bs.length + s.length ≤ 140737488355328) :
    Calls Tryd.prog 35 #[.pointer (some ⟨b, 0, none⟩), .slice A s.length c] w fun e w' => e = .returned (.tuple #[.int .i64 s.length, .nilIface]) ∧ BufAt 5 T rest ok b (bs ++ s) w' ∧ Fr ok w w' := by
  cases s with
  | nil => rw [List.append_nil]; exact write_none A c w h
  | cons x r => exact write_all (x :: r) A c w h hok (fun a ha => hab a (by simp) ha) hsrc hlim

set_option maxHeartbeats 3200000 in
set_option maxRecDepth 100000 in
theorem wr_9 (d : Nat) (H : WrAt d) (n : Int) (t : ByteArray) (ks : List ByteArray) (l : List PO) (dd : List UInt8) (v : Array Value) (w0 w : World) (T : TypeId) (rest : Array Value) (ok : Nat → Prop) (b : Nat) (bs : List UInt8)
    (hkl : ks.length = l.length) (hsn : ∀ i (h : i < l.length), sndB d l[i] = true) (hkn : ∀ s, s ∈ ks → s.size ≤ 127) (hdd : dd.length ≤ 1048576) (ho : ORd w0 ⟨9, n, t, ks, l, dd⟩ v) (ht : Tab w0) (h0 : Below w0.heap.size w0 w) (hok0 : ∀ k, ok k → w0.heap.size ≤ k)
    (hB : BufAt 5 T rest ok b bs w) (hok : ∀ k, w.heap.size ≤ k → ok k) (hlim : bs.length + (wrL ⟨9, n, t, ks, l, dd⟩).length ≤ 70368744177664) :
    Calls Tryd.prog 16 #[.pointer (some ⟨b, 0, none⟩), .agg v] w fun e w' => e = .returned (.tuple #[]) ∧ BufAt 5 T rest ok b (bs ++ wrL ⟨9, n, t, ks, l, dd⟩) w' ∧ Fr ok w w' := by
  have hR : wrL ⟨9, n, t, ks, l, dd⟩ = streamB ks (wrs l) dd := by rw [wrL]; rfl
  rw [hR, streamB] at hlim ⊢
  clear hR
  have hdt := asStr_data (Lib.itoa dd.length)
  have hsz : (asStr (Lib.itoa dd.length)).size ≤ 21 := by rw [asStr_size]; exact itoa_le dd.length (by omega)
  have hi1 : (-9223372036854775808 : Int) ≤ dd.length := by omega
  have hi2 : (dd.length : Int) ≤ 9223372036854775807 := by omega
  have HI := Lib.hid (fun W h => itoa_calls dd.length hi1 hi2 W h)
  generalize asStr (Lib.itoa dd.length) = z at hdt hsz HI
  obtain ⟨more, hme⟩ : ∃ more, more = (⟨#[32, 47, 76, 101, 110, 103, 116, 104, 32]⟩ : ByteArray) ++ z := ⟨_, rfl⟩
  have hmore : more.data.toList = lenL ++ Lib.itoa dd.length := by
    rw [hme, ByteArray.data_append, Array.toList_append, hdt]
    rfl
  rw [← hmore] at hlim ⊢
  obtain ⟨P, hP⟩ : ∃ P, P = pairsB ks (wrs l) more.data.toList := ⟨_, rfl⟩
  have hpl : bs.length + P.length + dd.length + 18 ≤ 70368744177664 := by
    rw [← hP] at hlim
    simp only [List.length_append, List.length_cons, List.length_nil] at hlim
    omega
  have hbl : ∀ W : World, Fr (but ok w.heap.size) w W → Below w0.heap.size w0 W := fun W hW => keeps h0 hW (fun q hq => hok0 q hq.1)
  have hab : ∀ (Ad : Option Addr), BytesAt w0 Ad dd → ∀ a, dd ≠ [] → Ad = some a → a.block ≠ b := fun Ad hd a hne ha => by
    cases dd with
    | nil => exact absurd rfl hne
    | cons x r =>
      obtain ⟨a2, ha2, hc2⟩ := hd 0 _ rfl
      rw [ha] at ha2
      cases ha2
      have h1 : a.block < w0.heap.size := World.block_lt_of_cell? w0 _ hc2
      have h2 := hok0 b hB.ok_
      exact fun he => by rw [he] at h1; omega
  have HP := Lib.hid (fun W h1 h2 h3 => pairs_of d H 9 n t ks l dd v more w0 W T rest (but ok w.heap.size) b bs hkl hsn ho ht h1 (fun q hq => hok0 q hq.1) h2 h3 (by rw [← hP]; omega) hkn)
  rw [← hP] at HP ⊢
  obtain ⟨cs, hks, hkc, hkm, hl, hc, hlc, hlm, hd, hdc, hdm, htz, hkt⟩ := ho
  rename_i Ak Al Ad ck cl cd
  have HAB := Lib.hid (hab Ad hd)
  have HD := Lib.hid hd
  have HBL := Lib.hid hbl
  have HOK := Lib.hid (show ∀ W : World, w.heap.size < W.heap.size → ∀ q, W.heap.size ≤ q → but ok w.heap.size q from fun W hW q hq => ⟨hok q (by omega), by omega⟩)
  obtain ⟨X, hX⟩ : ∃ X, X = #[Value.int .i64 9, .int .i64 n, .string t, .slice Ak ks.length ck, .slice Al l.length cl, .slice Ad dd.length cd] := ⟨_, rfl⟩
  have HB1 := Lib.hid (show BufAt 5 T rest (but ok w.heap.size) b bs (w.alloc (.cells X 26)).drew from (hB.imp (ok' := but ok w.heap.size) fun q hq h => ⟨h, by omega⟩).alloc _)
  have HT1 := Lib.hid (show Tab (w.alloc (.cells X 26)).drew from (ht.keep h0).keep (below_drew (below_alloc w _)))
  have HZ := Lib.hid (show w.heap.size < (w.alloc (.cells X 26)).drew.heap.size from by show _ < (w.alloc _).heap.size; simp)
  have HF1 := Lib.hid (show Fr (but ok w.heap.size) (w.alloc (.cells X 26)) (w.alloc (.cells X 26)).drew from Fr.drew (Fr.refl _ _))
  have HOC := Lib.hid (show ∀ W j v, Fr (but ok w.heap.size) (w.alloc (.cells X 26)) W → X[j]? = some v → W.cell? ⟨w.heap.size, j, none⟩ = some v from fun W j v h h2 => own_cell h j v h2)
  have HFA := Lib.hid (show Fr (but ok w.heap.size) w (w.alloc (.cells X 26)) from (Fr.refl _ _).alloc _)
  have HP0 := Lib.hid hP
  clear hP
  subst hX
  have HMORE := Lib.hid hmore
  clear hks hl hc hd hkt hkl hsn hkn ht h0 hok0 hB hok H hmore hab hbl hlim hdt
  subst hme
  go_enter Tryd.func16, Tryd.ntmps16
  go_upto_region 2 with fail
  go_region_with (first
     | (go_at_call 29
        go_loud (refine (HI.out _ HT1.out).mono ?_)
        rintro e w1 ⟨rfl, h1⟩
        have B1 := Lib.hid (BufAt.below HB1.out h1)
        have f1 := HF1.out.trans (Fr.of_below (but ok w.heap.size) h1)
        have Z1 := Lib.hid (Nat.lt_of_lt_of_le HZ.out h1.size)
        have s0 := HOC.out w1 0 _ f1 rfl
        have s1 := HOC.out w1 1 _ f1 rfl
        have s2 := HOC.out w1 2 _ f1 rfl
        have s3 := HOC.out w1 3 _ f1 rfl
        have s4 := HOC.out w1 4 _ f1 rfl
        have s5 := HOC.out w1 5 _ f1 rfl
        have F1 := Lib.hid f1
        clear h1 f1)
     | (go_at_call 34
        go_loud (refine (HP.out _ (HBL.out _ (HFA.out.trans F1.out)) B1.out (HOK.out _ Z1.out)).mono ?_)
        rintro e w2 ⟨rfl, b2, f2⟩
        have B2 := Lib.hid b2
        have f3 := F1.out.trans f2
        have F2 := Lib.hid f3
        clear b2 f2 f3))
  all_goals (
    go_wp2_with fail
    refine (writeString_any (T := T) (rest := rest) (ok := but ok w.heap.size) (bs := bs ++ P) ⟨#[10, 115, 116, 114, 101, 97, 109, 10]⟩ w2 B2.out (HOK.out _ (Nat.lt_of_lt_of_le HZ.out (F2.out.size))) (by rw [List.length_append]; show _ + 8 ≤ _; omega)).mono ?_
    rintro e w3 ⟨rfl, b3, f3⟩
    have B3 := Lib.hid b3
    have F3 := Lib.hid (F2.out.trans f3)
    have s9 := HOC.out w3 5 _ F3.out rfl
    clear b3 f3
    go_wp2_with fail
    refine (write_src (T := T) (rest := rest) (ok := but ok w.heap.size) (b := b) (bs := bs ++ P ++ [10, 115, 116, 114, 101, 97, 109, 10]) dd Ad cd w3 B3.out (HOK.out _ (Nat.lt_of_lt_of_le HZ.out (F3.out.size))) HAB.out (BytesAt.keep HD.out (HBL.out _ (HFA.out.trans F3.out))) (by simp only [List.length_append, List.length_cons, List.length_nil]; omega)).mono ?_
    rintro e w4 ⟨rfl, b4, f4⟩
    have B4 := Lib.hid b4
    have F4 := Lib.hid (F3.out.trans f4)
    clear b4 f4 s9
    go_wp2_with fail
    refine (writeString_any (T := T) (rest := rest) (ok := but ok w.heap.size) (bs := bs ++ P ++ [10, 115, 116, 114, 101, 97, 109, 10] ++ dd) ⟨#[10, 101, 110, 100, 115, 116, 114, 101, 97, 109]⟩ w4 B4.out (HOK.out _ (Nat.lt_of_lt_of_le HZ.out (F4.out.size))) (by simp only [List.length_append, List.length_cons, List.length_nil]; show _ + 10 ≤ _; omega)).mono ?_
    rintro e w5 ⟨rfl, b5, f5⟩
    have B5 := Lib.hid b5
    have F5 := Lib.hid (F4.out.trans f5)
    clear b5 f5
    go_wp2_with fail
    go_end0
    refine ⟨rfl, ?_, (Fr.alloc (Fr.refl ok w) _).trans (Fr.mono F5.out fun q _ h => h.1)⟩
    have h1 := BufAt.imp (ok' := ok) B5.out fun q _ h => h.1
    simp only [List.append_assoc] at h1 ⊢
    exact h1)
end Go.Proofs.YtkcdckcckpgliaaDoor
