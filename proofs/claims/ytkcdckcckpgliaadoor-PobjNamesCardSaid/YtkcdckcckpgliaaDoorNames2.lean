/- What the law PobjNames calls besides: answers, zero, Regular. -/
import Derived.Test.YtkcdckcckpgliaaDoorNames1
import Derived.Laws.IdiomStrings
namespace Go.Proofs.YtkcdckcckpgliaaDoor
open Go.RowKit Go.Shelf

theorem convert_back (w : World) (A : Option Addr) (g c : Nat) (l : List UInt8) (hA : A = some ⟨g, 0, none⟩) (h : BytesAt w A l) :
    (convert 24 9 (.slice A l.length c)).run Tryd.prog w = .ok (.string ⟨l.toArray⟩) w := by
  subst hA
  refine run_convert_bytes_back w 24 9 5 _ c l Tryd.underlying24 Tryd.underlying5 Tryd.underlying9 fun j hj => ?_
  obtain ⟨a, ha, hc⟩ := h j (.int .u8 (l[j].toNat : Int)) (by simp [Lib.byteCells, hj])
  cases ha
  exact hc

theorem named_ab : namedB ⟨#[97, 32, 98]⟩ = true := by decide +kernel
theorem name_ab : nameL (ByteArray.data ⟨#[97, 32, 98]⟩).toList = [47, 97, 35, 50, 48, 98] := by decide

set_option maxHeartbeats 800000 in
set_option maxRecDepth 100000 in
theorem answers_calls (w : World) : Calls Tryd.prog 6 #[] w fun e w' => e = .returned (.bool true) ∧ Below w.heap.size w w' := by
  have hP : Calls Tryd.prog 8 #[nameAgg ⟨#[97, 32, 98]⟩] w (Printed [47, 97, 35, 50, 48, 98] w) := by
    have := Print_name ⟨#[97, 32, 98]⟩ w named_ab
    rw [name_ab] at this
    exact this
  go_enter Tryd.func6, Tryd.ntmps6
  go_wp2_with fail
  refine hP.mono ?_
  rintro e w1 ⟨g, c, rfl, h1, h2, h3, h4, h5⟩
  have hcv : (convert 24 9 (.slice (some ⟨g, 0, none⟩) 6 c)).run Tryd.prog w1 = .ok (.string ⟨#[47, 97, 35, 50, 48, 98]⟩) w1 := convert_back w1 _ g c _ rfl h2
  have HB := Lib.hid h5
  clear h1 h2 h3 h4 h5
  go_wp2_with fail
  go_ret
  exact ⟨rfl, HB.out⟩

theorem ret_bool {a b : Bool} (h : a = b) : Ending.returned (.bool a) = .returned (.bool b) := by rw [h]
def blankB (c : UInt8) : Bool := decide (c.toNat = 0) || decide (c.toNat = 9) || decide (c.toNat = 10) || decide (c.toNat = 12) || decide (c.toNat = 13) || decide (c.toNat = 32)
def delimB (c : UInt8) : Bool := decide (c.toNat = 40) || decide (c.toNat = 41) || decide (c.toNat = 60) || decide (c.toNat = 62) || decide (c.toNat = 91) || decide (c.toNat = 93) || decide (c.toNat = 123) || decide (c.toNat = 125) || decide (c.toNat = 47) || decide (c.toNat = 37)
def regB (c : UInt8) : Bool := !blankB c && !delimB c
set_option maxHeartbeats 800000 in
set_option maxRecDepth 100000 in
theorem Blank_calls (c : UInt8) (w : World) : Calls Tryd.prog 25 #[.int .u8 c.toNat] w fun e w' => e = .returned (.bool (blankB c)) ∧ w = w' := by
  generalize hn : c.toNat = n
  have hb : blankB c = (decide (n = 0) || decide (n = 9) || decide (n = 10) || decide (n = 12) || decide (n = 13) || decide (n = 32)) := by rw [blankB, hn]
  rw [hb]
  clear hb hn
  go_enter Tryd.func25, Tryd.ntmps25
  go_wp2
  all_goals go_ret
  all_goals (
    refine ⟨ret_bool ?_, rfl⟩
    rw [Bool.eq_iff_iff]
    simp only [Bool.or_eq_true, decide_eq_true_eq, beq_iff_eq, eq_self, true_iff]
    omega)
set_option maxHeartbeats 800000 in
set_option maxRecDepth 100000 in
theorem Delimiter_calls (c : UInt8) (w : World) : Calls Tryd.prog 26 #[.int .u8 c.toNat] w fun e w' => e = .returned (.bool (delimB c)) ∧ w = w' := by
  go_enter Tryd.func26, Tryd.ntmps26
  go_wp2
  all_goals go_ret
  all_goals (
    refine ⟨ret_bool ?_, rfl⟩
    simp only [beq_iff_eq, beq_eq_false_iff_ne, ne_eq] at *
    rw [Bool.eq_iff_iff]
    simp only [delimB, Bool.or_eq_true, decide_eq_true_eq, eq_self, true_iff, Bool.false_eq_true, false_iff]
    omega)
theorem Regular_calls (c : UInt8) (w : World) : Calls Tryd.prog 15 #[.int .u8 c.toNat] w fun e w' => e = .returned (.bool (regB c)) ∧ w = w' := by
  go_enter Tryd.func15, Tryd.ntmps15
  go_wp2_with (first | (go_at_call 25; refine (Blank_calls _ _).mono ?_; rintro e w' ⟨rfl, rfl⟩) | (go_at_call 26; refine (Delimiter_calls _ _).mono ?_; rintro e w' ⟨rfl, rfl⟩))
  all_goals go_ret
  all_goals (
    refine ⟨ret_bool ?_, rfl⟩
    simp [regB, *])
def zeroB (s : ByteArray) : Bool := s.data.toList.any (fun c => c == 0)
set_option maxHeartbeats 800000 in
set_option maxRecDepth 100000 in
theorem zero_calls (s : ByteArray) (w : World) (hs : s.size ≤ 9223372036854775807) : Calls Tryd.prog 14 #[.string s] w fun e w' => e = .returned (.bool (zeroB s)) ∧ w = w' := by
  go_enter Tryd.func14, Tryd.ntmps14
  go_wp2
  go_loop [3] (fun v => ∃ k : Nat, k ≤ s.size ∧ v = .int .i64 k ∧ Hid (zeroB s = (s.data.toList.drop k).any (fun c => c == 0))) (fun v => s.size - (intOf v).toNat)
  case atStart => exact ⟨0, Nat.zero_le _, rfl, rfl⟩
  case round =>
    obtain ⟨k, hk, rfl, hZ⟩ := hrel
    by_cases hlt : k < s.size
    · have hkl : k < s.data.toList.length := by rw [Array.length_toList]; exact hlt
      have hd : s.data.toList.drop k = s.data.toList[k] :: s.data.toList.drop (k + 1) := List.drop_eq_getElem_cons hkl
      have HD := Lib.hid hd
      clear hd
      have hsk : s[k] = s.data.toList[k] := rfl
      have HK := Lib.hid hsk
      clear hsk
      by_cases h0 : s[k].toNat = 0
      · have h0' : ((s[k].toNat : Int) == 0) = true := beq_iff_eq.2 (by omega)
        have hz : zeroB s = true := by
          rw [hZ.out, HD.out, List.any_cons, ← HK.out, show (s[k] == 0) = true from beq_iff_eq.2 (UInt8.toNat.inj h0)]; rfl
        have HZ := Lib.hid hz
        clear hz h0
        go_wp2
        go_ret
        exact ⟨ret_bool HZ.out.symm, rfl⟩
      · have h0' : ((s[k].toNat : Int) == 0) = false := beq_eq_false_iff_ne.2 (by omega)
        have hz : zeroB s = (s.data.toList.drop (k + 1)).any (fun c => c == 0) := by
          rw [hZ.out, HD.out, List.any_cons, ← HK.out, show (s[k] == 0) = false from beq_eq_false_iff_ne.2 (fun h => h0 (by rw [h]; rfl))]; rfl
        have HZ := Lib.hid hz
        clear hz h0
        go_wp2
        go_round
        case rel => exact ⟨k + 1, by omega, by go_num, HZ⟩
        case measure => simp [intOf]; omega
    · obtain rfl : k = s.size := by omega
      have hz : zeroB s = false := by
        rw [hZ.out, List.drop_of_length_le (by rw [size_data]; omega)]; rfl
      have HZ := Lib.hid hz
      clear hz
      go_wp2
      go_ret
      exact ⟨ret_bool HZ.out.symm, rfl⟩
end Go.Proofs.YtkcdckcckpgliaaDoor
