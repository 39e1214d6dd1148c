/- pobj.write as the machine runs it: the kinds that have no rows, and dictionaries. -/
import Derived.Test.YtkcdckcckpgliaaDoorWr
namespace Go.Proofs.YtkcdckcckpgliaaDoor
open Go.RowKit Go.Shelf

theorem asStr_data (l : List UInt8) : (asStr l).data.toList = l := by simp [asStr]
theorem itoa_le (n : Int) (h : n.natAbs < 18446744073709551616) : (Lib.itoa n).length ≤ 21 := by
  unfold Lib.itoa
  split
  · rw [List.length_cons, Lib.decDigits_length]; have := Lib.nDigits_le20 n.natAbs h; omega
  · rw [Lib.decDigits_length]; have := Lib.nDigits_le20 n.toNat (by omega); omega
theorem realL_le (n : Int) : (realL n).length ≤ 40 := by
  have h1 := partS_le n
  have h2 := partW_le n
  have h3 := partR_le n
  unfold realL
  split <;> simp only [List.length_append, List.length_cons, List.length_nil] <;> omega

set_option maxHeartbeats 3200000 in
set_option maxRecDepth 100000 in
theorem wr_0 (n : Int) (t : ByteArray) (ks : List ByteArray) (l : List PO) (dd : List UInt8) (v : Array Value) (w0 w : World) (T : TypeId) (rest : Array Value) (ok : Nat → Prop) (b : Nat) (bs : List UInt8)
    (ho : ORd w0 ⟨0, n, t, ks, l, dd⟩ v) (ht : Tab w0) (h0 : Below w0.heap.size w0 w)
    (hB : BufAt 5 T rest ok b bs w) (hok : ∀ k, w.heap.size ≤ k → ok k) (hlim : bs.length + (wrL ⟨0, n, t, ks, l, dd⟩).length ≤ 70368744177664) :
    Calls Tryd.prog 16 #[.pointer (some ⟨b, 0, none⟩), .agg v] w fun e w' => e = .returned (.tuple #[]) ∧ BufAt 5 T rest ok b (bs ++ wrL ⟨0, n, t, ks, l, dd⟩) w' ∧ Fr ok w w' := by
  have hR : wrL ⟨0, n, t, ks, l, dd⟩ = nullL := by rw [wrL]; rfl
  rw [hR] at hlim ⊢
  clear hR
  obtain ⟨cs, hks, hkc, hkm, hl, hc, hlc, hlm, hd, hdc, hdm, htz, hkt⟩ := ho
  rename_i Ak Al Ad ck cl cd
  clear hks hl hc hd hkt
  have HT := Lib.hid ht; have H00 := Lib.hid h0
  have HB1 := Lib.hid (fun X => hB.alloc X)
  have HF1 := Lib.hid (fun X => Fr.alloc (Fr.refl ok w) X)
  have HT1 := Lib.hid (fun X => (ht.keep h0).keep (below_alloc w X))
  have HOK := Lib.hid (show ∀ W : World, w.heap.size ≤ W.heap.size → ∀ q, W.heap.size ≤ q → ok q from fun W hW q hq => hok q (by omega))
  have hz := (below_alloc w (.cells #[] 0)).size
  clear hB hok ht h0
  have HL := Lib.hid hlim
  clear hlim
  go_enter Tryd.func16, Tryd.ntmps16
  go_wp2_with fail
  refine (writeString_any (T := T) (rest := rest) (ok := ok) (bs := bs) ⟨#[110, 117, 108, 108]⟩ _ (HB1.out _) (HOK.out _ (by simp)) (by have := HL.out; simp only [nullL, List.length_cons, List.length_nil] at this; show bs.length + 4 ≤ _; omega)).mono ?_
  rintro e w1 ⟨rfl, b1, f1⟩
  have B1 := Lib.hid b1
  have F1 := Lib.hid ((HF1.out _).trans f1)
  clear b1 f1
  go_wp2_with fail
  go_end0
  exact ⟨rfl, B1.out, F1.out⟩

set_option maxHeartbeats 3200000 in
set_option maxRecDepth 100000 in
theorem wr_1 (n : Int) (t : ByteArray) (ks : List ByteArray) (l : List PO) (dd : List UInt8) (v : Array Value) (w0 w : World) (T : TypeId) (rest : Array Value) (ok : Nat → Prop) (b : Nat) (bs : List UInt8)
    (ho : ORd w0 ⟨1, n, t, ks, l, dd⟩ v) (ht : Tab w0) (h0 : Below w0.heap.size w0 w)
    (hB : BufAt 5 T rest ok b bs w) (hok : ∀ k, w.heap.size ≤ k → ok k) (hlim : bs.length + (wrL ⟨1, n, t, ks, l, dd⟩).length ≤ 70368744177664) :
    Calls Tryd.prog 16 #[.pointer (some ⟨b, 0, none⟩), .agg v] w fun e w' => e = .returned (.tuple #[]) ∧ BufAt 5 T rest ok b (bs ++ wrL ⟨1, n, t, ks, l, dd⟩) w' ∧ Fr ok w w' := by
  have hR : wrL ⟨1, n, t, ks, l, dd⟩ = boolL (n == 1) := by rw [wrL]; rfl
  rw [hR] at hlim ⊢
  clear hR
  obtain ⟨cs, hks, hkc, hkm, hl, hc, hlc, hlm, hd, hdc, hdm, htz, hkt⟩ := ho
  rename_i Ak Al Ad ck cl cd
  clear hks hl hc hd hkt
  have HT := Lib.hid ht; have H00 := Lib.hid h0
  have HB1 := Lib.hid (fun X => hB.alloc X)
  have HF1 := Lib.hid (fun X => Fr.alloc (Fr.refl ok w) X)
  have HT1 := Lib.hid (fun X => (ht.keep h0).keep (below_alloc w X))
  have HOK := Lib.hid (show ∀ W : World, w.heap.size ≤ W.heap.size → ∀ q, W.heap.size ≤ q → ok q from fun W hW q hq => hok q (by omega))
  have hz := (below_alloc w (.cells #[] 0)).size
  clear hB hok ht h0
  have HL := Lib.hid hlim
  clear hlim
  go_enter Tryd.func16, Tryd.ntmps16
  go_wp2_with fail
  refine (formatBool_calls (n == 1) _).mono ?_
  rintro e w1 ⟨rfl, rfl⟩
  go_wp2_with fail
  refine (writeString_any (T := T) (rest := rest) (ok := ok) (bs := bs) (asStr (boolL (n == 1))) _ (HB1.out _) (HOK.out _ (by simp)) (by have := HL.out; rw [asStr_size]; omega)).mono ?_
  rintro e w2 ⟨rfl, b2, f2⟩
  have B2 := Lib.hid b2
  have F2 := Lib.hid ((HF1.out _).trans f2)
  clear b2 f2
  go_wp2_with fail
  go_end0
  exact ⟨rfl, by have := B2.out; rw [asStr_data] at this; exact this, F2.out⟩

set_option maxHeartbeats 3200000 in
set_option maxRecDepth 100000 in
theorem wr_2 (n : Int) (t : ByteArray) (ks : List ByteArray) (l : List PO) (dd : List UInt8) (v : Array Value) (w0 w : World) (T : TypeId) (rest : Array Value) (ok : Nat → Prop) (b : Nat) (bs : List UInt8)
    (ho : ORd w0 ⟨2, n, t, ks, l, dd⟩ v) (ht : Tab w0) (h0 : Below w0.heap.size w0 w) (hn : fitsB n = true)
    (hB : BufAt 5 T rest ok b bs w) (hok : ∀ k, w.heap.size ≤ k → ok k) (hlim : bs.length + (wrL ⟨2, n, t, ks, l, dd⟩).length ≤ 70368744177664) :
    Calls Tryd.prog 16 #[.pointer (some ⟨b, 0, none⟩), .agg v] w fun e w' => e = .returned (.tuple #[]) ∧ BufAt 5 T rest ok b (bs ++ wrL ⟨2, n, t, ks, l, dd⟩) w' ∧ Fr ok w w' := by
  have hR : wrL ⟨2, n, t, ks, l, dd⟩ = Lib.itoa n := by rw [wrL]; rfl
  rw [hR] at hlim ⊢
  clear hR
  obtain ⟨cs, hks, hkc, hkm, hl, hc, hlc, hlm, hd, hdc, hdm, htz, hkt⟩ := ho
  rename_i Ak Al Ad ck cl cd
  clear hks hl hc hd hkt
  have HT := Lib.hid ht; have H00 := Lib.hid h0
  have HB1 := Lib.hid (fun X => hB.alloc X)
  have HF1 := Lib.hid (fun X => Fr.alloc (Fr.refl ok w) X)
  have HT1 := Lib.hid (fun X => (ht.keep h0).keep (below_alloc w X))
  have HOK := Lib.hid (show ∀ W : World, w.heap.size ≤ W.heap.size → ∀ q, W.heap.size ≤ q → ok q from fun W hW q hq => hok q (by omega))
  have hz := (below_alloc w (.cells #[] 0)).size
  clear hB hok ht h0
  simp only [fitsB, Bool.and_eq_true, decide_eq_true_eq] at hn
  obtain ⟨hn1, hn2⟩ := hn
  have hlim2 : bs.length + (asStr (Lib.itoa n)).size ≤ 140737488355328 := by
    have := hlim
    rw [asStr_size]; omega
  have HL := Lib.hid (fun W h1 h2 => writeString_any (T := T) (rest := rest) (ok := ok) (b := b) (bs := bs) (asStr (Lib.itoa n)) W h1 h2 hlim2)
  clear hlim hlim2
  go_enter Tryd.func16, Tryd.ntmps16
  go_wp2_with fail
  refine (itoa_calls n (by omega) (by omega) _ (HT1.out _)).mono ?_
  rintro e w1 ⟨rfl, h1⟩
  have B1 := Lib.hid ((HB1.out _).below h1)
  have F1 := Lib.hid ((HF1.out _).trans (Fr.of_below ok h1))
  have hz1 := h1.size
  simp only [World.size_alloc] at hz1
  clear h1
  go_wp2_with fail
  refine (HL.out w1 B1.out (HOK.out _ (by omega))).mono ?_
  rintro e w2 ⟨rfl, b2, f2⟩
  have B2 := Lib.hid b2
  have F2 := Lib.hid (F1.out.trans f2)
  clear b2 f2
  go_wp2_with fail
  go_end0
  exact ⟨rfl, by have := B2.out; rw [asStr_data] at this; exact this, F2.out⟩

set_option maxHeartbeats 3200000 in
set_option maxRecDepth 100000 in
theorem wr_3 (n : Int) (t : ByteArray) (ks : List ByteArray) (l : List PO) (dd : List UInt8) (v : Array Value) (w0 w : World) (T : TypeId) (rest : Array Value) (ok : Nat → Prop) (b : Nat) (bs : List UInt8)
    (ho : ORd w0 ⟨3, n, t, ks, l, dd⟩ v) (ht : Tab w0) (h0 : Below w0.heap.size w0 w)
    (hB : BufAt 5 T rest ok b bs w) (hok : ∀ k, w.heap.size ≤ k → ok k) (hlim : bs.length + (wrL ⟨3, n, t, ks, l, dd⟩).length ≤ 70368744177664) :
    Calls Tryd.prog 16 #[.pointer (some ⟨b, 0, none⟩), .agg v] w fun e w' => e = .returned (.tuple #[]) ∧ BufAt 5 T rest ok b (bs ++ wrL ⟨3, n, t, ks, l, dd⟩) w' ∧ Fr ok w w' := by
  have hR : wrL ⟨3, n, t, ks, l, dd⟩ = realL n := by rw [wrL]; rfl
  rw [hR] at hlim ⊢
  clear hR
  obtain ⟨cs, hks, hkc, hkm, hl, hc, hlc, hlm, hd, hdc, hdm, htz, hkt⟩ := ho
  rename_i Ak Al Ad ck cl cd
  clear hks hl hc hd hkt
  have HT := Lib.hid ht; have H00 := Lib.hid h0
  have HB1 := Lib.hid (fun X => hB.alloc X)
  have HF1 := Lib.hid (fun X => Fr.alloc (Fr.refl ok w) X)
  have HT1 := Lib.hid (fun X => (ht.keep h0).keep (below_alloc w X))
  have HOK := Lib.hid (show ∀ W : World, w.heap.size ≤ W.heap.size → ∀ q, W.heap.size ≤ q → ok q from fun W hW q hq => hok q (by omega))
  have hz := (below_alloc w (.cells #[] 0)).size
  clear hB hok ht h0
  have hlim2 : bs.length + (asStr (realL n)).size ≤ 140737488355328 := by
    have := hlim
    rw [asStr_size]; omega
  have HL := Lib.hid (fun W h1 h2 => writeString_any (T := T) (rest := rest) (ok := ok) (b := b) (bs := bs) (asStr (realL n)) W h1 h2 hlim2)
  clear hlim hlim2
  go_enter Tryd.func16, Tryd.ntmps16
  go_wp2_with fail
  refine (PrintReal_calls n _).mono ?_
  rintro e w1 ⟨rfl, h1⟩
  have B1 := Lib.hid ((HB1.out _).below h1)
  have F1 := Lib.hid ((HF1.out _).trans (Fr.of_below ok h1))
  have hz1 := h1.size
  simp only [World.size_alloc] at hz1
  clear h1
  go_wp2_with fail
  refine (HL.out w1 B1.out (HOK.out _ (by omega))).mono ?_
  rintro e w2 ⟨rfl, b2, f2⟩
  have B2 := Lib.hid b2
  have F2 := Lib.hid (F1.out.trans f2)
  clear b2 f2
  go_wp2_with fail
  go_end0
  exact ⟨rfl, by have := B2.out; rw [asStr_data] at this; exact this, F2.out⟩

set_option maxHeartbeats 3200000 in
set_option maxRecDepth 100000 in
theorem wr_4 (n : Int) (t : ByteArray) (ks : List ByteArray) (l : List PO) (dd : List UInt8) (v : Array Value) (w0 w : World) (T : TypeId) (rest : Array Value) (ok : Nat → Prop) (b : Nat) (bs : List UInt8)
    (ho : ORd w0 ⟨4, n, t, ks, l, dd⟩ v) (ht : Tab w0) (h0 : Below w0.heap.size w0 w) (hn : t.size ≤ 127)
    (hB : BufAt 5 T rest ok b bs w) (hok : ∀ k, w.heap.size ≤ k → ok k) (hlim : bs.length + (wrL ⟨4, n, t, ks, l, dd⟩).length ≤ 70368744177664) :
    Calls Tryd.prog 16 #[.pointer (some ⟨b, 0, none⟩), .agg v] w fun e w' => e = .returned (.tuple #[]) ∧ BufAt 5 T rest ok b (bs ++ wrL ⟨4, n, t, ks, l, dd⟩) w' ∧ Fr ok w w' := by
  have hR : wrL ⟨4, n, t, ks, l, dd⟩ = nameL t.data.toList := by rw [wrL]; rfl
  rw [hR] at hlim ⊢
  clear hR
  obtain ⟨cs, hks, hkc, hkm, hl, hc, hlc, hlm, hd, hdc, hdm, htz, hkt⟩ := ho
  rename_i Ak Al Ad ck cl cd
  clear hks hl hc hd hkt
  have HT := Lib.hid ht; have H00 := Lib.hid h0
  have HB1 := Lib.hid (fun X => hB.alloc X)
  have HF1 := Lib.hid (fun X => Fr.alloc (Fr.refl ok w) X)
  have HT1 := Lib.hid (fun X => (ht.keep h0).keep (below_alloc w X))
  have HOK := Lib.hid (show ∀ W : World, w.heap.size ≤ W.heap.size → ∀ q, W.heap.size ≤ q → ok q from fun W hW q hq => hok q (by omega))
  have hz := (below_alloc w (.cells #[] 0)).size
  clear hB hok ht h0
  have HL := Lib.hid hlim
  clear hlim
  go_enter Tryd.func16, Tryd.ntmps16
  go_wp2_with fail
  refine (name_calls (T := T) (rest := rest) (ok := ok) (bs := bs) t _ (HB1.out _) (HOK.out _ (by simp)) (by omega) (by have := HL.out; omega)).mono ?_
  rintro e w1 ⟨rfl, b1, f1⟩
  have B1 := Lib.hid b1
  have F1 := Lib.hid ((HF1.out _).trans f1)
  clear b1 f1
  go_wp2_with fail
  go_end0
  exact ⟨rfl, B1.out, F1.out⟩

set_option maxHeartbeats 3200000 in
set_option maxRecDepth 100000 in
theorem wr_5 (n : Int) (t : ByteArray) (ks : List ByteArray) (l : List PO) (dd : List UInt8) (v : Array Value) (w0 w : World) (T : TypeId) (rest : Array Value) (ok : Nat → Prop) (b : Nat) (bs : List UInt8)
    (ho : ORd w0 ⟨5, n, t, ks, l, dd⟩ v) (ht : Tab w0) (h0 : Below w0.heap.size w0 w) (hn : t.size ≤ 65535)
    (hB : BufAt 5 T rest ok b bs w) (hok : ∀ k, w.heap.size ≤ k → ok k) (hlim : bs.length + (wrL ⟨5, n, t, ks, l, dd⟩).length ≤ 70368744177664) :
    Calls Tryd.prog 16 #[.pointer (some ⟨b, 0, none⟩), .agg v] w fun e w' => e = .returned (.tuple #[]) ∧ BufAt 5 T rest ok b (bs ++ wrL ⟨5, n, t, ks, l, dd⟩) w' ∧ Fr ok w w' := by
  have hR : wrL ⟨5, n, t, ks, l, dd⟩ = textL t.data.toList := by rw [wrL]; rfl
  rw [hR] at hlim ⊢
  clear hR
  obtain ⟨cs, hks, hkc, hkm, hl, hc, hlc, hlm, hd, hdc, hdm, htz, hkt⟩ := ho
  rename_i Ak Al Ad ck cl cd
  clear hks hl hc hd hkt
  have HT := Lib.hid ht; have H00 := Lib.hid h0
  have HB1 := Lib.hid (fun X => hB.alloc X)
  have HF1 := Lib.hid (fun X => Fr.alloc (Fr.refl ok w) X)
  have HT1 := Lib.hid (fun X => (ht.keep h0).keep (below_alloc w X))
  have HOK := Lib.hid (show ∀ W : World, w.heap.size ≤ W.heap.size → ∀ q, W.heap.size ≤ q → ok q from fun W hW q hq => hok q (by omega))
  have hz := (below_alloc w (.cells #[] 0)).size
  clear hB hok ht h0
  have HL := Lib.hid hlim
  clear hlim
  go_enter Tryd.func16, Tryd.ntmps16
  go_wp2_with fail
  refine (text_calls (T := T) (rest := rest) (ok := ok) (bs := bs) t _ (HB1.out _) (HOK.out _ (by simp)) (by omega) (by have := HL.out; omega)).mono ?_
  rintro e w1 ⟨rfl, b1, f1⟩
  have B1 := Lib.hid b1
  have F1 := Lib.hid ((HF1.out _).trans f1)
  clear b1 f1
  go_wp2_with fail
  go_end0
  exact ⟨rfl, B1.out, F1.out⟩

set_option maxHeartbeats 3200000 in
set_option maxRecDepth 100000 in
theorem wr_8 (n : Int) (t : ByteArray) (ks : List ByteArray) (l : List PO) (dd : List UInt8) (v : Array Value) (w0 w : World) (T : TypeId) (rest : Array Value) (ok : Nat → Prop) (b : Nat) (bs : List UInt8)
    (ho : ORd w0 ⟨8, n, t, ks, l, dd⟩ v) (ht : Tab w0) (h0 : Below w0.heap.size w0 w) (hn : 1 ≤ n ∧ n ≤ 4096)
    (hB : BufAt 5 T rest ok b bs w) (hok : ∀ k, w.heap.size ≤ k → ok k) (hlim : bs.length + (wrL ⟨8, n, t, ks, l, dd⟩).length ≤ 70368744177664) :
    Calls Tryd.prog 16 #[.pointer (some ⟨b, 0, none⟩), .agg v] w fun e w' => e = .returned (.tuple #[]) ∧ BufAt 5 T rest ok b (bs ++ wrL ⟨8, n, t, ks, l, dd⟩) w' ∧ Fr ok w w' := by
  have hR : wrL ⟨8, n, t, ks, l, dd⟩ = Lib.itoa n ++ [32, 48, 32, 82] := by rw [wrL]; rfl
  rw [hR] at hlim ⊢
  clear hR
  obtain ⟨cs, hks, hkc, hkm, hl, hc, hlc, hlm, hd, hdc, hdm, htz, hkt⟩ := ho
  rename_i Ak Al Ad ck cl cd
  clear hks hl hc hd hkt
  have HT := Lib.hid ht; have H00 := Lib.hid h0
  have HB1 := Lib.hid (fun X => hB.alloc X)
  have HF1 := Lib.hid (fun X => Fr.alloc (Fr.refl ok w) X)
  have HT1 := Lib.hid (fun X => (ht.keep h0).keep (below_alloc w X))
  have HOK := Lib.hid (show ∀ W : World, w.heap.size ≤ W.heap.size → ∀ q, W.heap.size ≤ q → ok q from fun W hW q hq => hok q (by omega))
  have hz := (below_alloc w (.cells #[] 0)).size
  clear hB hok ht h0
  obtain ⟨hn1, hn2⟩ := hn
  have hsz : (asStr (Lib.itoa n)).size ≤ 21 := by rw [asStr_size]; exact itoa_le n (by omega)
  have hlim2 : bs.length + (asStr (Lib.itoa n) ++ ⟨#[32, 48, 32, 82]⟩).size ≤ 140737488355328 := by
    have := hlim
    rw [ByteArray.size_append, asStr_size, show (⟨#[32, 48, 32, 82]⟩ : ByteArray).size = 4 from rfl]; simp only [List.length_append, List.length_cons, List.length_nil] at this; omega
  have HL := Lib.hid (fun W h1 h2 => writeString_any (T := T) (rest := rest) (ok := ok) (b := b) (bs := bs) (asStr (Lib.itoa n) ++ ⟨#[32, 48, 32, 82]⟩) W h1 h2 hlim2)
  clear hlim hlim2
  go_enter Tryd.func16, Tryd.ntmps16
  go_wp2_with fail
  refine (itoa_calls n (by omega) (by omega) _ (HT1.out _)).mono ?_
  rintro e w1 ⟨rfl, h1⟩
  have B1 := Lib.hid ((HB1.out _).below h1)
  have F1 := Lib.hid ((HF1.out _).trans (Fr.of_below ok h1))
  have hz1 := h1.size
  simp only [World.size_alloc] at hz1
  clear h1
  go_wp2_with fail
  refine (HL.out w1 B1.out (HOK.out _ (by omega))).mono ?_
  rintro e w2 ⟨rfl, b2, f2⟩
  have B2 := Lib.hid b2
  have F2 := Lib.hid (F1.out.trans f2)
  clear b2 f2
  go_wp2_with fail
  go_end0
  exact ⟨rfl, by have := B2.out; rw [ByteArray.data_append, Array.toList_append, asStr_data] at this; exact this, F2.out⟩

end Go.Proofs.YtkcdckcckpgliaaDoor
