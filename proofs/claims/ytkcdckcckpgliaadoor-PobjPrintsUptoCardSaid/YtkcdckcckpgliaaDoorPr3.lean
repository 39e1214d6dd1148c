/- The reference's Print as the machine runs it: objects without elements. -/
import Derived.Test.YtkcdckcckpgliaaDoorPr2t
import Derived.Test.YtkcdckcckpgliaaDoorWr2
namespace Go.Proofs.YtkcdckcckpgliaaDoor
open Go.RowKit Go.Shelf

/-- A cell of a box of one's own, behind calls that only make memory. -/
theorem own_after {w W : World} {X : Array Value} {T : TypeId} (h : Below (w.alloc (.cells X T)).heap.size (w.alloc (.cells X T)) W) (j : Nat) (v : Value) (hj : X[j]? = some v) : W.cell? ⟨w.heap.size, j, none⟩ = some v := by
  rw [h.cell (p := ⟨w.heap.size, j, none⟩) (by simp), Lib.cell_of_heap (heap_alloc_new w _)]
  exact hj
def RPrAt (d : Nat) : Prop := ∀ (o : PO) (v : Array Value) (w : World), sndB d o = true → ORd w o v → (wrL o).length ≤ 70368744177664 →
  Calls Tryd.prog 11 #[.agg v] w fun e w' => e = .returned (.string (asStr (wrL o))) ∧ Below w.heap.size w w'
set_option maxHeartbeats 1600000 in
set_option maxRecDepth 100000 in
theorem rpr_0 (n : Int) (t : ByteArray) (ks : List ByteArray) (l : List PO) (dd : List UInt8) (v : Array Value) (w : World) (ho : ORd w ⟨0, n, t, ks, l, dd⟩ v) :
    Calls Tryd.prog 11 #[.agg v] w fun e w' => e = .returned (.string (asStr (wrL ⟨0, n, t, ks, l, dd⟩))) ∧ Below w.heap.size w w' := by
  have hR : wrL ⟨0, n, t, ks, l, dd⟩ = nullL := by rw [wrL]; rfl
  rw [hR]
  clear hR
  have HBA := Lib.hid (fun X => below_alloc w X)
  have HBB := Lib.hid (fun X W (h : Below (w.alloc X).heap.size (w.alloc X) W) => (below_alloc w X).trans (h.mono (by simp)))
  obtain ⟨cs, hks, hkc, hkm, hl, hc, hlc, hlm, hd, hdc, hdm, htz, hkt⟩ := ho
  rename_i Ak Al Ad ck cl cd
  clear hks hl hc hd hkt
  go_enter Tryd.func11, Tryd.ntmps11
  go_wp2_with fail
  go_ret
  exact ⟨rfl, HBA.out _⟩
set_option maxHeartbeats 1600000 in
set_option maxRecDepth 100000 in
theorem rpr_1 (n : Int) (t : ByteArray) (ks : List ByteArray) (l : List PO) (dd : List UInt8) (v : Array Value) (w : World) (hn : n = 0 ∨ n = 1) (ho : ORd w ⟨1, n, t, ks, l, dd⟩ v) :
    Calls Tryd.prog 11 #[.agg v] w fun e w' => e = .returned (.string (asStr (wrL ⟨1, n, t, ks, l, dd⟩))) ∧ Below w.heap.size w w' := by
  have hR : wrL ⟨1, n, t, ks, l, dd⟩ = boolL (n == 1) := by rw [wrL]; rfl
  rw [hR]
  clear hR
  have HBA := Lib.hid (fun X => below_alloc w X)
  have HBB := Lib.hid (fun X W (h : Below (w.alloc X).heap.size (w.alloc X) W) => (below_alloc w X).trans (h.mono (by simp)))
  obtain ⟨cs, hks, hkc, hkm, hl, hc, hlc, hlm, hd, hdc, hdm, htz, hkt⟩ := ho
  rename_i Ak Al Ad ck cl cd
  clear hks hl hc hd hkt
  rcases hn with rfl | rfl
  all_goals (
    go_enter Tryd.func11, Tryd.ntmps11
    go_wp2_with fail
    go_ret
    exact ⟨rfl, HBA.out _⟩)
set_option maxHeartbeats 1600000 in
set_option maxRecDepth 100000 in
theorem rpr_2 (n : Int) (t : ByteArray) (ks : List ByteArray) (l : List PO) (dd : List UInt8) (v : Array Value) (w : World) (hf : fitsB n = true) (ho : ORd w ⟨2, n, t, ks, l, dd⟩ v) :
    Calls Tryd.prog 11 #[.agg v] w fun e w' => e = .returned (.string (asStr (wrL ⟨2, n, t, ks, l, dd⟩))) ∧ Below w.heap.size w w' := by
  have hR : wrL ⟨2, n, t, ks, l, dd⟩ = Lib.itoa n := by rw [wrL]; rfl
  rw [hR]
  clear hR
  have HBA := Lib.hid (fun X => below_alloc w X)
  have HBB := Lib.hid (fun X W (h : Below (w.alloc X).heap.size (w.alloc X) W) => (below_alloc w X).trans (h.mono (by simp)))
  have HD := Lib.hid (fun W => rDec_calls n (by simp only [fitsB, Bool.and_eq_true, decide_eq_true_eq] at hf; omega) (by simp only [fitsB, Bool.and_eq_true, decide_eq_true_eq] at hf; omega) W)
  obtain ⟨cs, hks, hkc, hkm, hl, hc, hlc, hlm, hd, hdc, hdm, htz, hkt⟩ := ho
  rename_i Ak Al Ad ck cl cd
  clear hks hl hc hd hkt
  go_enter Tryd.func11, Tryd.ntmps11
  go_wp2_with fail
  refine (HD.out _).mono ?_
  rintro e w1 ⟨rfl, q1⟩
  have Q1 := Lib.hid (HBB.out _ _ q1)
  clear q1
  go_wp2_with fail
  go_ret
  exact ⟨rfl, Q1.out⟩
set_option maxHeartbeats 1600000 in
set_option maxRecDepth 100000 in
theorem rpr_3 (n : Int) (t : ByteArray) (ks : List ByteArray) (l : List PO) (dd : List UInt8) (v : Array Value) (w : World) (hf : fitsB n = true) (ho : ORd w ⟨3, n, t, ks, l, dd⟩ v) :
    Calls Tryd.prog 11 #[.agg v] w fun e w' => e = .returned (.string (asStr (wrL ⟨3, n, t, ks, l, dd⟩))) ∧ Below w.heap.size w w' := by
  have hR : wrL ⟨3, n, t, ks, l, dd⟩ = realL n := by rw [wrL]; rfl
  rw [hR]
  clear hR
  have HBA := Lib.hid (fun X => below_alloc w X)
  have HBB := Lib.hid (fun X W (h : Below (w.alloc X).heap.size (w.alloc X) W) => (below_alloc w X).trans (h.mono (by simp)))
  have HD := Lib.hid (fun W => rPrintReal_calls n hf W)
  clear hf
  obtain ⟨cs, hks, hkc, hkm, hl, hc, hlc, hlm, hd, hdc, hdm, htz, hkt⟩ := ho
  rename_i Ak Al Ad ck cl cd
  clear hks hl hc hd hkt
  go_enter Tryd.func11, Tryd.ntmps11
  go_wp2_with fail
  refine (HD.out _).mono ?_
  rintro e w1 ⟨rfl, q1⟩
  have Q1 := Lib.hid (HBB.out _ _ q1)
  clear q1
  go_wp2_with fail
  go_ret
  exact ⟨rfl, Q1.out⟩
set_option maxHeartbeats 1600000 in
set_option maxRecDepth 100000 in
theorem rpr_4 (n : Int) (t : ByteArray) (ks : List ByteArray) (l : List PO) (dd : List UInt8) (v : Array Value) (w : World) (hs : t.size ≤ 127) (ho : ORd w ⟨4, n, t, ks, l, dd⟩ v) :
    Calls Tryd.prog 11 #[.agg v] w fun e w' => e = .returned (.string (asStr (wrL ⟨4, n, t, ks, l, dd⟩))) ∧ Below w.heap.size w w' := by
  have hR : wrL ⟨4, n, t, ks, l, dd⟩ = nameL t.data.toList := by rw [wrL]; rfl
  rw [hR]
  clear hR
  have HBA := Lib.hid (fun X => below_alloc w X)
  have HBB := Lib.hid (fun X W (h : Below (w.alloc X).heap.size (w.alloc X) W) => (below_alloc w X).trans (h.mono (by simp)))
  have HD := Lib.hid (fun W => rName_calls t W (by omega))
  obtain ⟨cs, hks, hkc, hkm, hl, hc, hlc, hlm, hd, hdc, hdm, htz, hkt⟩ := ho
  rename_i Ak Al Ad ck cl cd
  clear hks hl hc hd hkt
  go_enter Tryd.func11, Tryd.ntmps11
  go_wp2_with fail
  refine (HD.out _).mono ?_
  rintro e w1 ⟨rfl, q1⟩
  have Q1 := Lib.hid (HBB.out _ _ q1)
  clear q1
  go_wp2_with fail
  go_ret
  exact ⟨rfl, Q1.out⟩
set_option maxHeartbeats 1600000 in
set_option maxRecDepth 100000 in
theorem rpr_5 (n : Int) (t : ByteArray) (ks : List ByteArray) (l : List PO) (dd : List UInt8) (v : Array Value) (w : World) (hs : t.size ≤ 65535) (ho : ORd w ⟨5, n, t, ks, l, dd⟩ v) :
    Calls Tryd.prog 11 #[.agg v] w fun e w' => e = .returned (.string (asStr (wrL ⟨5, n, t, ks, l, dd⟩))) ∧ Below w.heap.size w w' := by
  have hR : wrL ⟨5, n, t, ks, l, dd⟩ = textL t.data.toList := by rw [wrL]; rfl
  rw [hR]
  clear hR
  have HBA := Lib.hid (fun X => below_alloc w X)
  have HBB := Lib.hid (fun X W (h : Below (w.alloc X).heap.size (w.alloc X) W) => (below_alloc w X).trans (h.mono (by simp)))
  have HD := Lib.hid (fun W => rText_calls t W (by omega))
  obtain ⟨cs, hks, hkc, hkm, hl, hc, hlc, hlm, hd, hdc, hdm, htz, hkt⟩ := ho
  rename_i Ak Al Ad ck cl cd
  clear hks hl hc hd hkt
  go_enter Tryd.func11, Tryd.ntmps11
  go_wp2_with fail
  refine (HD.out _).mono ?_
  rintro e w1 ⟨rfl, q1⟩
  have Q1 := Lib.hid (HBB.out _ _ q1)
  clear q1
  go_wp2_with fail
  go_ret
  exact ⟨rfl, Q1.out⟩
set_option maxHeartbeats 1600000 in
set_option maxRecDepth 100000 in
theorem rpr_8 (n : Int) (t : ByteArray) (ks : List ByteArray) (l : List PO) (dd : List UInt8) (v : Array Value) (w : World) (hn1 : 1 ≤ n) (hn2 : n ≤ 4096) (ho : ORd w ⟨8, n, t, ks, l, dd⟩ v) :
    Calls Tryd.prog 11 #[.agg v] w fun e w' => e = .returned (.string (asStr (wrL ⟨8, n, t, ks, l, dd⟩))) ∧ Below w.heap.size w w' := by
  have hR : wrL ⟨8, n, t, ks, l, dd⟩ = Lib.itoa n ++ [32, 48, 32, 82] := by rw [wrL]; rfl
  rw [hR]
  clear hR
  have HBA := Lib.hid (fun X => below_alloc w X)
  have HBB := Lib.hid (fun X W (h : Below (w.alloc X).heap.size (w.alloc X) W) => (below_alloc w X).trans (h.mono (by simp)))
  have HD := Lib.hid (fun W => rDec_calls n (by omega) (by omega) W)
  have hz : (asStr (Lib.itoa n)).size ≤ 21 := by rw [asStr_size]; exact itoa_le n (by omega)
  obtain ⟨cs, hks, hkc, hkm, hl, hc, hlc, hlm, hd, hdc, hdm, htz, hkt⟩ := ho
  rename_i Ak Al Ad ck cl cd
  clear hks hl hc hd hkt
  go_enter Tryd.func11, Tryd.ntmps11
  go_wp2_with fail
  refine (HD.out _).mono ?_
  rintro e w1 ⟨rfl, q1⟩
  have Q1 := Lib.hid (HBB.out _ _ q1)
  clear q1
  go_wp2_with fail
  go_ret
  exact ⟨ret_str (by rw [← asStr_append]; rfl), Q1.out⟩
end Go.Proofs.YtkcdckcckpgliaaDoor
