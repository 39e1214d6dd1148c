/- The reference's sound as the machine runs it: the kinds that have no rows. -/
import Derived.Test.YtkcdckcckpgliaaDoorLight
namespace Go.Proofs.YtkcdckcckpgliaaDoor
open Go.RowKit Go.Shelf

theorem indexByte_lt : ∀ l : List UInt8, (Lib.indexByte l 0 < 0) ↔ l.any (fun c => c == 0) = false
  | [] => by simp [Lib.indexByte]
  | c :: l => by
    have ih := indexByte_lt l
    have hge := Lib.indexByte_ge l 0
    rw [List.any_cons, Bool.or_eq_false_iff, Lib.indexByte]
    cases hc : (c == 0) with
    | true => simp
    | false =>
      rw [← ih]
      by_cases h1 : Lib.indexByte l 0 = -1
      · simp [h1]
      · have h2 : (Lib.indexByte l 0 == -1) = false := beq_eq_false_iff_ne.2 h1
        simp only [h2, Bool.false_eq_true, if_false, true_and]
        omega
theorem namedB_any (s : ByteArray) : namedB s = (!(s.data.toList.any (fun c => c == 0)) && (decide (1 ≤ s.size) && decide (s.size ≤ 127))) := by
  have h2 : (!s.toList.isEmpty) = decide (1 ≤ s.size) := by
    rw [Lib.toList_data, ← size_data]
    cases s.data.toList <;> simp
  rw [namedB, h2]
  rw [Bool.eq_iff_iff]
  simp only [Bool.and_eq_true, decide_eq_true_eq, Bool.not_eq_true', indexByte_lt]
  exact ⟨fun ⟨⟨a, b⟩, c⟩ => ⟨c, a, b⟩, fun ⟨c, a, b⟩ => ⟨⟨a, b⟩, c⟩⟩

set_option maxHeartbeats 800000 in
set_option maxRecDepth 100000 in
theorem rname_calls (s : ByteArray) (w : World) (hs : s.size ≤ 140737488355328) : Calls Tryd.prog 37 #[.string s] w fun e w' => e = .returned (.bool (namedB s)) ∧ w = w' := by
  rw [namedB_any]
  generalize hany : s.data.toList.any (fun c => c == 0) = A
  have HA := Lib.hid (show (s.data.toList.drop 0).any (fun c => c == 0) = A from hany)
  clear hany
  go_enter Tryd.func37, Tryd.ntmps37
  go_wp2
  go_loop [3] (fun v => ∃ k : Nat, k ≤ s.size ∧ v = .int .i64 k ∧ Hid ((s.data.toList.drop k).any (fun c => c == 0) = A)) (fun v => s.size - (intOf v).toNat)
  case atStart => exact ⟨0, Nat.zero_le _, rfl, HA⟩
  case round =>
    clear HA
    obtain ⟨k, hk, rfl, hZ⟩ := hrel
    by_cases hlt : k < s.size
    · have hkl : k < s.data.toList.length := by rw [Array.length_toList]; exact hlt
      have hd : s.data.toList.drop k = s.data.toList[k] :: s.data.toList.drop (k + 1) := List.drop_eq_getElem_cons hkl
      have HD := Lib.hid hd
      clear hd
      have hsk : s[k] = s.data.toList[k] := rfl
      have HK := Lib.hid hsk
      clear hsk
      by_cases h0 : s[k].toNat = 0
      · have h0' : ((s[k].toNat : Int) == 0) = true := beq_iff_eq.2 (by omega)
        have hz : A = true := by
          rw [← hZ.out, HD.out, List.any_cons, ← HK.out, show (s[k] == 0) = true from beq_iff_eq.2 (UInt8.toNat.inj h0)]; rfl
        have HZ := Lib.hid hz
        clear hz h0
        go_wp2
        go_ret
        exact ⟨ret_bool (by rw [HZ.out]; rfl), rfl⟩
      · have h0' : ((s[k].toNat : Int) == 0) = false := beq_eq_false_iff_ne.2 (by omega)
        have hz : (s.data.toList.drop (k + 1)).any (fun c => c == 0) = A := by
          rw [← hZ.out, HD.out, List.any_cons, ← HK.out, show (s[k] == 0) = false from beq_eq_false_iff_ne.2 (fun h => h0 (by rw [h]; rfl))]; rfl
        have HZ := Lib.hid hz
        clear hz h0
        go_wp2
        go_round
        case rel => exact ⟨k + 1, by omega, by go_num, HZ⟩
        case measure => simp [intOf]; omega
    · obtain rfl : k = s.size := by omega
      have hz : A = false := by
        rw [← hZ.out, List.drop_of_length_le (by rw [size_data]; omega)]; rfl
      have HZ := Lib.hid hz
      clear hz
      by_cases h1 : 1 ≤ s.size
      · go_wp2_with fail
        go_ret
        exact ⟨ret_bool (by simp [HZ.out]; try omega), rfl⟩
      · go_wp2_with fail
        go_ret
        exact ⟨ret_bool (by simp [HZ.out]; try omega), rfl⟩

theorem rfits_calls (n : Int) (w : World) : Calls Tryd.prog 36 #[.int .i64 n] w fun e w' => e = .returned (.bool (fitsB n)) ∧ w = w' := by
  go_enter Tryd.func36, Tryd.ntmps36
  by_cases h1 : -2147483648 ≤ n
  · go_wp2_with fail
    go_ret
    exact ⟨ret_bool (by simp [fitsB] <;> intros <;> omega), rfl⟩
  · go_wp2_with fail
    go_ret
    exact ⟨ret_bool (by simp [fitsB] <;> intros <;> omega), rfl⟩

set_option maxHeartbeats 1600000 in
set_option maxRecDepth 100000 in
theorem rsnd_0 (D : Int) (hD1 : -5 ≤ D) (hD2 : D ≤ 1000) (f : PO → Bool) (s : Bool) (o : PO) (v : Array Value) (w : World) (ho : ORd w o v) (hk : o.k = 0) :
    Calls Tryd.prog 18 #[.agg v, .int .i64 D, .bool s] w fun e w' => e = .returned (.bool (sndK (decide (0 < D)) f o)) ∧ Below w.heap.size w w' := by
  obtain ⟨cs, hks, hkc, hkm, hl, hc, hlc, hlm, hd, hdc, hdm, htz, hkt⟩ := ho
  rename_i k n t ks l d Ak Al Ad ck cl cd
  obtain rfl : k = 0 := hk
  clear hks hl hc hd hkt
  generalize hr : sndK (decide (0 < D)) f ⟨0, n, t, ks, l, d⟩ = r
  have hr2 : (bareB ⟨0, n, t, ks, l, d⟩ false false false false false) = r := by
    rw [← hr]; rfl
  clear hr
  have HR := Lib.hid hr2
  clear hr2
  have HB := Lib.hid (fun X => below_alloc w X)
  go_enter Tryd.func18, Tryd.ntmps18
  go_wp2_with fail
  all_goals (
    go_ret
    exact ⟨ret_bool (by rw [← HR.out]; simp [bareB, *] <;> intros <;> omega), HB.out _⟩)


set_option maxHeartbeats 1600000 in
set_option maxRecDepth 100000 in
theorem rsnd_1 (D : Int) (hD1 : -5 ≤ D) (hD2 : D ≤ 1000) (f : PO → Bool) (s : Bool) (o : PO) (v : Array Value) (w : World) (ho : ORd w o v) (hk : o.k = 1) :
    Calls Tryd.prog 18 #[.agg v, .int .i64 D, .bool s] w fun e w' => e = .returned (.bool (sndK (decide (0 < D)) f o)) ∧ Below w.heap.size w w' := by
  obtain ⟨cs, hks, hkc, hkm, hl, hc, hlc, hlm, hd, hdc, hdm, htz, hkt⟩ := ho
  rename_i k n t ks l d Ak Al Ad ck cl cd
  obtain rfl : k = 1 := hk
  clear hks hl hc hd hkt
  generalize hr : sndK (decide (0 < D)) f ⟨1, n, t, ks, l, d⟩ = r
  have hr2 : (bareB ⟨1, n, t, ks, l, d⟩ true false false false false && (n == 0 || n == 1)) = r := by
    rw [← hr]; rfl
  clear hr
  have HR := Lib.hid hr2
  clear hr2
  have HB := Lib.hid (fun X => below_alloc w X)
  go_enter Tryd.func18, Tryd.ntmps18
  go_wp2_with fail
  all_goals (
    go_ret
    exact ⟨ret_bool (by rw [← HR.out]; simp [bareB, *] <;> intros <;> omega), HB.out _⟩)


set_option maxHeartbeats 1600000 in
set_option maxRecDepth 100000 in
theorem rsnd_2 (D : Int) (hD1 : -5 ≤ D) (hD2 : D ≤ 1000) (f : PO → Bool) (s : Bool) (o : PO) (v : Array Value) (w : World) (ho : ORd w o v) (hk : o.k = 2) :
    Calls Tryd.prog 18 #[.agg v, .int .i64 D, .bool s] w fun e w' => e = .returned (.bool (sndK (decide (0 < D)) f o)) ∧ Below w.heap.size w w' := by
  obtain ⟨cs, hks, hkc, hkm, hl, hc, hlc, hlm, hd, hdc, hdm, htz, hkt⟩ := ho
  rename_i k n t ks l d Ak Al Ad ck cl cd
  obtain rfl : k = 2 := hk
  clear hks hl hc hd hkt
  generalize hr : sndK (decide (0 < D)) f ⟨2, n, t, ks, l, d⟩ = r
  have hr2 : (bareB ⟨2, n, t, ks, l, d⟩ true false false false false && fitsB n) = r := by
    rw [← hr]; rfl
  clear hr
  generalize hf : fitsB n = fb at hr2
  have HF := Lib.hid hf
  clear hf
  have HR := Lib.hid hr2
  clear hr2
  have HB := Lib.hid (fun X => below_alloc w X)
  go_enter Tryd.func18, Tryd.ntmps18
  go_wp2_with (go_at_call 36; refine (rfits_calls _ _).mono ?_; rintro e w9 ⟨rfl, rfl⟩; rw [HF.out])
  all_goals (
    go_ret
    exact ⟨ret_bool (by rw [← HR.out]; simp [bareB, *] <;> intros <;> omega), HB.out _⟩)


set_option maxHeartbeats 1600000 in
set_option maxRecDepth 100000 in
theorem rsnd_3 (D : Int) (hD1 : -5 ≤ D) (hD2 : D ≤ 1000) (f : PO → Bool) (s : Bool) (o : PO) (v : Array Value) (w : World) (ho : ORd w o v) (hk : o.k = 3) :
    Calls Tryd.prog 18 #[.agg v, .int .i64 D, .bool s] w fun e w' => e = .returned (.bool (sndK (decide (0 < D)) f o)) ∧ Below w.heap.size w w' := by
  obtain ⟨cs, hks, hkc, hkm, hl, hc, hlc, hlm, hd, hdc, hdm, htz, hkt⟩ := ho
  rename_i k n t ks l d Ak Al Ad ck cl cd
  obtain rfl : k = 3 := hk
  clear hks hl hc hd hkt
  generalize hr : sndK (decide (0 < D)) f ⟨3, n, t, ks, l, d⟩ = r
  have hr2 : (bareB ⟨3, n, t, ks, l, d⟩ true false false false false && fitsB n) = r := by
    rw [← hr]; rfl
  clear hr
  generalize hf : fitsB n = fb at hr2
  have HF := Lib.hid hf
  clear hf
  have HR := Lib.hid hr2
  clear hr2
  have HB := Lib.hid (fun X => below_alloc w X)
  go_enter Tryd.func18, Tryd.ntmps18
  go_wp2_with (go_at_call 36; refine (rfits_calls _ _).mono ?_; rintro e w9 ⟨rfl, rfl⟩; rw [HF.out])
  all_goals (
    go_ret
    exact ⟨ret_bool (by rw [← HR.out]; simp [bareB, *] <;> intros <;> omega), HB.out _⟩)


set_option maxHeartbeats 1600000 in
set_option maxRecDepth 100000 in
theorem rsnd_4 (D : Int) (hD1 : -5 ≤ D) (hD2 : D ≤ 1000) (f : PO → Bool) (s : Bool) (o : PO) (v : Array Value) (w : World) (ho : ORd w o v) (hk : o.k = 4) :
    Calls Tryd.prog 18 #[.agg v, .int .i64 D, .bool s] w fun e w' => e = .returned (.bool (sndK (decide (0 < D)) f o)) ∧ Below w.heap.size w w' := by
  obtain ⟨cs, hks, hkc, hkm, hl, hc, hlc, hlm, hd, hdc, hdm, htz, hkt⟩ := ho
  rename_i k n t ks l d Ak Al Ad ck cl cd
  obtain rfl : k = 4 := hk
  clear hks hl hc hd hkt
  generalize hr : sndK (decide (0 < D)) f ⟨4, n, t, ks, l, d⟩ = r
  have hr2 : (bareB ⟨4, n, t, ks, l, d⟩ false true false false false && namedB t) = r := by
    rw [← hr]; rfl
  clear hr
  generalize hf : namedB t = fb at hr2
  have HF := Lib.hid hf
  clear hf
  have HR := Lib.hid hr2
  clear hr2
  have HB := Lib.hid (fun X => below_alloc w X)
  go_enter Tryd.func18, Tryd.ntmps18
  go_wp2_with (go_at_call 37; refine (rname_calls _ _ htz).mono ?_; rintro e w9 ⟨rfl, rfl⟩; rw [HF.out])
  all_goals (
    go_ret
    exact ⟨ret_bool (by rw [← HR.out]; simp [bareB, *] <;> intros <;> omega), HB.out _⟩)


set_option maxHeartbeats 1600000 in
set_option maxRecDepth 100000 in
theorem rsnd_5 (D : Int) (hD1 : -5 ≤ D) (hD2 : D ≤ 1000) (f : PO → Bool) (s : Bool) (o : PO) (v : Array Value) (w : World) (ho : ORd w o v) (hk : o.k = 5) :
    Calls Tryd.prog 18 #[.agg v, .int .i64 D, .bool s] w fun e w' => e = .returned (.bool (sndK (decide (0 < D)) f o)) ∧ Below w.heap.size w w' := by
  obtain ⟨cs, hks, hkc, hkm, hl, hc, hlc, hlm, hd, hdc, hdm, htz, hkt⟩ := ho
  rename_i k n t ks l d Ak Al Ad ck cl cd
  obtain rfl : k = 5 := hk
  clear hks hl hc hd hkt
  generalize hr : sndK (decide (0 < D)) f ⟨5, n, t, ks, l, d⟩ = r
  have hr2 : (bareB ⟨5, n, t, ks, l, d⟩ false true false false false && decide (t.size ≤ 65535)) = r := by
    rw [← hr]; rfl
  clear hr
  have HR := Lib.hid hr2
  clear hr2
  have HB := Lib.hid (fun X => below_alloc w X)
  go_enter Tryd.func18, Tryd.ntmps18
  go_wp2_with fail
  all_goals (
    go_ret
    exact ⟨ret_bool (by rw [← HR.out]; simp [bareB, *] <;> intros <;> omega), HB.out _⟩)


set_option maxHeartbeats 1600000 in
set_option maxRecDepth 100000 in
theorem rsnd_8 (D : Int) (hD1 : -5 ≤ D) (hD2 : D ≤ 1000) (f : PO → Bool) (s : Bool) (o : PO) (v : Array Value) (w : World) (ho : ORd w o v) (hk : o.k = 8) :
    Calls Tryd.prog 18 #[.agg v, .int .i64 D, .bool s] w fun e w' => e = .returned (.bool (sndK (decide (0 < D)) f o)) ∧ Below w.heap.size w w' := by
  obtain ⟨cs, hks, hkc, hkm, hl, hc, hlc, hlm, hd, hdc, hdm, htz, hkt⟩ := ho
  rename_i k n t ks l d Ak Al Ad ck cl cd
  obtain rfl : k = 8 := hk
  clear hks hl hc hd hkt
  generalize hr : sndK (decide (0 < D)) f ⟨8, n, t, ks, l, d⟩ = r
  have hr2 : (bareB ⟨8, n, t, ks, l, d⟩ true false false false false && decide (1 ≤ n) && decide (n ≤ 4096)) = r := by
    rw [← hr]; rfl
  clear hr
  have HR := Lib.hid hr2
  clear hr2
  have HB := Lib.hid (fun X => below_alloc w X)
  go_enter Tryd.func18, Tryd.ntmps18
  go_wp2_with fail
  all_goals (
    go_ret
    exact ⟨ret_bool (by rw [← HR.out]; simp [bareB, *] <;> intros <;> omega), HB.out _⟩)

end Go.Proofs.YtkcdckcckpgliaaDoor
