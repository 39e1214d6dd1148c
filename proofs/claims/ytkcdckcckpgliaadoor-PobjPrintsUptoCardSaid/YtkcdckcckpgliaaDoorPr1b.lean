/- The reference's numbers with a point as bytes: Print, PrintReal. -/
import Derived.Test.YtkcdckcckpgliaaDoorPr1
namespace Go.Proofs.YtkcdckcckpgliaaDoor
open Go.RowKit Go.Shelf

theorem itoa_digit (d : Nat) (h : d < 10) : Lib.itoa (d : Int) = [UInt8.ofNat (48 + d)] := by
  rw [Lib.itoa, if_neg (by omega), Int.toNat_natCast, decDigits_small d h]
theorem itoa_nat (d : Nat) : Lib.itoa (d : Int) = Lib.decDigits d := by
  rw [Lib.itoa, if_neg (by omega), Int.toNat_natCast]
/-- What stands behind the sign. -/
def numL (k : Nat) : List UInt8 := Lib.decDigits (k / 65536) ++ (if k % 65536 = 0 then [] else 46 :: fracL 16 (k % 65536))

set_option maxHeartbeats 3200000 in
set_option maxRecDepth 100000 in
theorem r1Print_pos (k : Nat) (hk : k ≤ 2147483647) (w : World) :
    Calls Tryd.prog 45 #[.int .i64 (k : Int)] w fun e w' => e = .returned (.string (asStr (numL k))) ∧ Below w.heap.size w w' := by
  have hfit : fitsB (k : Int) = true := by simp only [fitsB, Bool.and_eq_true, decide_eq_true_eq]; omega
  have hneg : decide ((k : Int) < 0) = false := decide_eq_false (by omega)
  have hmod : ((k % 65536 : Nat) : Int) = (k : Int) % 65536 := by omega
  have hW := decDigits_le 5 (k / 65536) (by omega)
  have HD0 := Lib.hid (show ∀ W, Calls Tryd.prog 20 #[.int .i64 ((k : Int) / 65536)] W fun e w' => e = .returned (.string (asStr (Lib.decDigits (k / 65536)))) ∧ Below W.heap.size W w' from fun W => by
    have := rDec_calls ((k / 65536 : Nat) : Int) (by omega) (by omega) W
    rw [itoa_nat] at this
    exact this)
  obtain ⟨wh, hwh⟩ : ∃ wh, wh = Lib.decDigits (k / 65536) := ⟨_, rfl⟩
  have hnum : numL k = wh ++ (if k % 65536 = 0 then [] else 46 :: fracL 16 (k % 65536)) := by rw [hwh]; rfl
  rw [← hwh] at hW HD0
  have hzw : (asStr wh).size ≤ 6 := by rw [asStr_size]; exact hW
  obtain ⟨T, hT⟩ : ∃ T, T = (numL k) := ⟨_, rfl⟩
  rw [← hT]
  have HB := Lib.hid (Below.refl w.heap.size w)
  have hf0 : Hid ((k % 65536) * 2 ^ 16 % 65536 = 0) := by show (k % 65536) * 65536 % 65536 = 0; omega
  have HMOD := Lib.hid hmod
  clear hwh hmod
  by_cases hr : k % 65536 = 0
  · have hT2 : Hid (([] ++ wh) ++ fracL 16 (k % 65536) = T) := by
      show _ = _
      rw [hT, hnum, if_pos hr, hr, fracL_zero]
      simp
    have hgt : decide (0 < (k : Int) % 65536) = false := decide_eq_false (by omega)
    have hacc : ([] ++ wh : List UInt8).length + 16 ≤ 40 := by simp; omega
    have HACC := Lib.hid hacc
    have hlt : k % 65536 < 65536 := by omega
    have hs0 : Hid ((.string (asStr wh) : Value) = .string (asStr ([] ++ wh))) := congrArg Value.string (by simp only [← asStr_append]; first | rfl | exact (asStr_append [] _).symm.trans rfl)
    clear hT hnum hr hacc
    go_enter Tryd.func45, Tryd.ntmps45
    go_wp2_with (go_at_call 36; refine (rfits_calls _ _).mono ?_; rintro e w2 ⟨rfl, rfl⟩)
    refine (HD0.out _).mono ?_
    rintro e w1 ⟨rfl, q1⟩
    have HB1 := Lib.hid q1
    clear q1
    go_wp2_with fail
    go_loopg [3, 4] 16 (fun m s v wr => ∃ (f : Nat) (acc : List UInt8), s = .string (asStr acc) ∧ v = .int .i64 f ∧ f < 65536 ∧ m ≤ 16 ∧ Hid (f * 2 ^ m % 65536 = 0) ∧ Hid (acc ++ fracL m f = T) ∧ Hid (acc.length + m ≤ 40) ∧ Hid (Below w.heap.size w wr))
    case atStart => exact ⟨k % 65536, [] ++ wh, hs0.out, by rw [HMOD.out], hlt, Nat.le_refl _, hf0, hT2, HACC, HB1⟩
    case round =>
      clear hs0 hgt hlt
      obtain ⟨f, acc, rfl, rfl, hf, hm, hz, hacc, hlen, hW⟩ := hrel
      have hza : (asStr acc).size ≤ 40 := by rw [asStr_size]; have := hlen.out; omega
      by_cases h0 : f = 0
      · subst h0
        have HF : Hid (acc = T) := by
          have := hacc.out
          rw [fracL_zero, List.append_nil] at this
          exact this
        go_wp2_with fail
        go_ret
        exact ⟨ret_str (by rw [HF.out]), hW.out⟩
      · cases gk with
        | zero => exact absurd hz.out (by rw [Nat.pow_zero]; omega)
        | succ m =>
          have hpos : (0 : Int) < f := by omega
          obtain ⟨c, hc⟩ : ∃ c, c = UInt8.ofNat (48 + f * 10 / 65536) := ⟨_, rfl⟩
          have HDD := Lib.hid (show ∀ W, Calls Tryd.prog 20 #[.int .i64 ((f : Int) * 10 / 65536)] W fun e w' => e = .returned (.string (asStr [c])) ∧ Below W.heap.size W w' from fun W => by
            have := rDec_calls ((f * 10 / 65536 : Nat) : Int) (by omega) (by omega) W
            rw [itoa_digit _ (by omega), ← hc] at this
            exact this)
          have hz' : Hid ((f * 10 % 65536) * 2 ^ m % 65536 = 0) := by
            have h1 := hz.out
            show _ = _
            rw [Nat.pow_succ] at h1
            rw [Nat.mod_mul_mod]
            have : f * 10 * 2 ^ m = (f * (2 ^ m * 2)) * 5 := by
              rw [Nat.mul_assoc f 10, Nat.mul_assoc f, Nat.mul_comm 10, Nat.mul_assoc (2 ^ m)]
            rw [this, Nat.mul_mod, h1]
          have hacc' : Hid ((acc ++ [c]) ++ fracL m (f * 10 % 65536) = T) := by
            have h1 := hacc.out
            rw [fracL, if_neg h0] at h1
            show _ = _
            rw [List.append_assoc, hc]
            exact h1
          have hl2 : Hid ((acc ++ [c]).length + m ≤ 40) := by
            have := hlen.out
            show _ ≤ _
            rw [List.length_append, List.length_singleton]; omega
          have hzc : (asStr [c]).size ≤ 1 := by rw [asStr_size]; exact Nat.le_refl _
          clear h0 hz hacc hlen hc
          go_wp2_with fail
          refine (HDD.out _).mono ?_
          rintro e w2 ⟨rfl, q2⟩
          have HW2 := Lib.hid (hW.out.trans (q2.mono hW.out.size))
          clear q2
          go_wp2_with fail
          go_roundg m
          case measure => omega
          case rel => exact ⟨f * 10 % 65536, acc ++ [c], congrArg Value.string (asStr_append _ _), by go_num, by omega, by omega, hz', hacc', hl2, HW2⟩
  · have hT2 : Hid (([] ++ wh ++ [46]) ++ fracL 16 (k % 65536) = T) := by
      show _ = _
      rw [hT, hnum, if_neg hr]
      simp
    have hgt : decide (0 < (k : Int) % 65536) = true := decide_eq_true (by omega)
    have hacc : ([] ++ wh ++ [46] : List UInt8).length + 16 ≤ 40 := by simp; omega
    have HACC := Lib.hid hacc
    have hlt : k % 65536 < 65536 := by omega
    have hs0 : Hid ((.string (asStr wh ++ ⟨#[46]⟩) : Value) = .string (asStr ([] ++ wh ++ [46]))) := congrArg Value.string (by simp only [← asStr_append]; first | rfl | exact (asStr_append [] _).symm.trans rfl)
    clear hT hnum hr hacc
    go_enter Tryd.func45, Tryd.ntmps45
    go_wp2_with (go_at_call 36; refine (rfits_calls _ _).mono ?_; rintro e w2 ⟨rfl, rfl⟩)
    refine (HD0.out _).mono ?_
    rintro e w1 ⟨rfl, q1⟩
    have HB1 := Lib.hid q1
    clear q1
    go_wp2_with fail
    go_loopg [3, 4] 16 (fun m s v wr => ∃ (f : Nat) (acc : List UInt8), s = .string (asStr acc) ∧ v = .int .i64 f ∧ f < 65536 ∧ m ≤ 16 ∧ Hid (f * 2 ^ m % 65536 = 0) ∧ Hid (acc ++ fracL m f = T) ∧ Hid (acc.length + m ≤ 40) ∧ Hid (Below w.heap.size w wr))
    case atStart => exact ⟨k % 65536, [] ++ wh ++ [46], hs0.out, by rw [HMOD.out], hlt, Nat.le_refl _, hf0, hT2, HACC, HB1⟩
    case round =>
      clear hs0 hgt hlt
      obtain ⟨f, acc, rfl, rfl, hf, hm, hz, hacc, hlen, hW⟩ := hrel
      have hza : (asStr acc).size ≤ 40 := by rw [asStr_size]; have := hlen.out; omega
      by_cases h0 : f = 0
      · subst h0
        have HF : Hid (acc = T) := by
          have := hacc.out
          rw [fracL_zero, List.append_nil] at this
          exact this
        go_wp2_with fail
        go_ret
        exact ⟨ret_str (by rw [HF.out]), hW.out⟩
      · cases gk with
        | zero => exact absurd hz.out (by rw [Nat.pow_zero]; omega)
        | succ m =>
          have hpos : (0 : Int) < f := by omega
          obtain ⟨c, hc⟩ : ∃ c, c = UInt8.ofNat (48 + f * 10 / 65536) := ⟨_, rfl⟩
          have HDD := Lib.hid (show ∀ W, Calls Tryd.prog 20 #[.int .i64 ((f : Int) * 10 / 65536)] W fun e w' => e = .returned (.string (asStr [c])) ∧ Below W.heap.size W w' from fun W => by
            have := rDec_calls ((f * 10 / 65536 : Nat) : Int) (by omega) (by omega) W
            rw [itoa_digit _ (by omega), ← hc] at this
            exact this)
          have hz' : Hid ((f * 10 % 65536) * 2 ^ m % 65536 = 0) := by
            have h1 := hz.out
            show _ = _
            rw [Nat.pow_succ] at h1
            rw [Nat.mod_mul_mod]
            have : f * 10 * 2 ^ m = (f * (2 ^ m * 2)) * 5 := by
              rw [Nat.mul_assoc f 10, Nat.mul_assoc f, Nat.mul_comm 10, Nat.mul_assoc (2 ^ m)]
            rw [this, Nat.mul_mod, h1]
          have hacc' : Hid ((acc ++ [c]) ++ fracL m (f * 10 % 65536) = T) := by
            have h1 := hacc.out
            rw [fracL, if_neg h0] at h1
            show _ = _
            rw [List.append_assoc, hc]
            exact h1
          have hl2 : Hid ((acc ++ [c]).length + m ≤ 40) := by
            have := hlen.out
            show _ ≤ _
            rw [List.length_append, List.length_singleton]; omega
          have hzc : (asStr [c]).size ≤ 1 := by rw [asStr_size]; exact Nat.le_refl _
          clear h0 hz hacc hlen hc
          go_wp2_with fail
          refine (HDD.out _).mono ?_
          rintro e w2 ⟨rfl, q2⟩
          have HW2 := Lib.hid (hW.out.trans (q2.mono hW.out.size))
          clear q2
          go_wp2_with fail
          go_roundg m
          case measure => omega
          case rel => exact ⟨f * 10 % 65536, acc ++ [c], congrArg Value.string (asStr_append _ _), by go_num, by omega, by omega, hz', hacc', hl2, HW2⟩
set_option maxHeartbeats 3200000 in
set_option maxRecDepth 100000 in
theorem r1Print_neg (k : Nat) (hk : k ≤ 2147483648) (hk0 : 0 < k) (w : World) :
    Calls Tryd.prog 45 #[.int .i64 (-(k : Int))] w fun e w' => e = .returned (.string (asStr ([45] ++ numL k))) ∧ Below w.heap.size w w' := by
  have hfit : fitsB (-(k : Int)) = true := by simp only [fitsB, Bool.and_eq_true, decide_eq_true_eq]; omega
  have hneg : decide ((-(k : Int)) < 0) = true := decide_eq_true (by omega)
  have hmod : ((k % 65536 : Nat) : Int) = (k : Int) % 65536 := by omega
  have hW := decDigits_le 5 (k / 65536) (by omega)
  have HD0 := Lib.hid (show ∀ W, Calls Tryd.prog 20 #[.int .i64 ((k : Int) / 65536)] W fun e w' => e = .returned (.string (asStr (Lib.decDigits (k / 65536)))) ∧ Below W.heap.size W w' from fun W => by
    have := rDec_calls ((k / 65536 : Nat) : Int) (by omega) (by omega) W
    rw [itoa_nat] at this
    exact this)
  obtain ⟨wh, hwh⟩ : ∃ wh, wh = Lib.decDigits (k / 65536) := ⟨_, rfl⟩
  have hnum : numL k = wh ++ (if k % 65536 = 0 then [] else 46 :: fracL 16 (k % 65536)) := by rw [hwh]; rfl
  rw [← hwh] at hW HD0
  have hzw : (asStr wh).size ≤ 6 := by rw [asStr_size]; exact hW
  obtain ⟨T, hT⟩ : ∃ T, T = ([45] ++ numL k) := ⟨_, rfl⟩
  rw [← hT]
  have HB := Lib.hid (Below.refl w.heap.size w)
  have hf0 : Hid ((k % 65536) * 2 ^ 16 % 65536 = 0) := by show (k % 65536) * 65536 % 65536 = 0; omega
  have HMOD := Lib.hid hmod
  clear hwh hmod
  by_cases hr : k % 65536 = 0
  · have hT2 : Hid (([45] ++ wh) ++ fracL 16 (k % 65536) = T) := by
      show _ = _
      rw [hT, hnum, if_pos hr, hr, fracL_zero]
      simp
    have hgt : decide (0 < (k : Int) % 65536) = false := decide_eq_false (by omega)
    have hacc : ([45] ++ wh : List UInt8).length + 16 ≤ 40 := by simp; omega
    have HACC := Lib.hid hacc
    have hlt : k % 65536 < 65536 := by omega
    have hs0 : Hid ((.string (⟨#[45]⟩ ++ asStr wh) : Value) = .string (asStr ([45] ++ wh))) := congrArg Value.string (by simp only [← asStr_append]; first | rfl | exact (asStr_append [] _).symm.trans rfl)
    clear hT hnum hr hacc
    go_enter Tryd.func45, Tryd.ntmps45
    go_wp2_with (go_at_call 36; refine (rfits_calls _ _).mono ?_; rintro e w2 ⟨rfl, rfl⟩)
    refine (HD0.out _).mono ?_
    rintro e w1 ⟨rfl, q1⟩
    have HB1 := Lib.hid q1
    clear q1
    go_wp2_with fail
    go_loopg [3, 4] 16 (fun m s v wr => ∃ (f : Nat) (acc : List UInt8), s = .string (asStr acc) ∧ v = .int .i64 f ∧ f < 65536 ∧ m ≤ 16 ∧ Hid (f * 2 ^ m % 65536 = 0) ∧ Hid (acc ++ fracL m f = T) ∧ Hid (acc.length + m ≤ 40) ∧ Hid (Below w.heap.size w wr))
    case atStart => exact ⟨k % 65536, [45] ++ wh, hs0.out, by rw [HMOD.out], hlt, Nat.le_refl _, hf0, hT2, HACC, HB1⟩
    case round =>
      clear hs0 hgt hlt
      obtain ⟨f, acc, rfl, rfl, hf, hm, hz, hacc, hlen, hW⟩ := hrel
      have hza : (asStr acc).size ≤ 40 := by rw [asStr_size]; have := hlen.out; omega
      by_cases h0 : f = 0
      · subst h0
        have HF : Hid (acc = T) := by
          have := hacc.out
          rw [fracL_zero, List.append_nil] at this
          exact this
        go_wp2_with fail
        go_ret
        exact ⟨ret_str (by rw [HF.out]), hW.out⟩
      · cases gk with
        | zero => exact absurd hz.out (by rw [Nat.pow_zero]; omega)
        | succ m =>
          have hpos : (0 : Int) < f := by omega
          obtain ⟨c, hc⟩ : ∃ c, c = UInt8.ofNat (48 + f * 10 / 65536) := ⟨_, rfl⟩
          have HDD := Lib.hid (show ∀ W, Calls Tryd.prog 20 #[.int .i64 ((f : Int) * 10 / 65536)] W fun e w' => e = .returned (.string (asStr [c])) ∧ Below W.heap.size W w' from fun W => by
            have := rDec_calls ((f * 10 / 65536 : Nat) : Int) (by omega) (by omega) W
            rw [itoa_digit _ (by omega), ← hc] at this
            exact this)
          have hz' : Hid ((f * 10 % 65536) * 2 ^ m % 65536 = 0) := by
            have h1 := hz.out
            show _ = _
            rw [Nat.pow_succ] at h1
            rw [Nat.mod_mul_mod]
            have : f * 10 * 2 ^ m = (f * (2 ^ m * 2)) * 5 := by
              rw [Nat.mul_assoc f 10, Nat.mul_assoc f, Nat.mul_comm 10, Nat.mul_assoc (2 ^ m)]
            rw [this, Nat.mul_mod, h1]
          have hacc' : Hid ((acc ++ [c]) ++ fracL m (f * 10 % 65536) = T) := by
            have h1 := hacc.out
            rw [fracL, if_neg h0] at h1
            show _ = _
            rw [List.append_assoc, hc]
            exact h1
          have hl2 : Hid ((acc ++ [c]).length + m ≤ 40) := by
            have := hlen.out
            show _ ≤ _
            rw [List.length_append, List.length_singleton]; omega
          have hzc : (asStr [c]).size ≤ 1 := by rw [asStr_size]; exact Nat.le_refl _
          clear h0 hz hacc hlen hc
          go_wp2_with fail
          refine (HDD.out _).mono ?_
          rintro e w2 ⟨rfl, q2⟩
          have HW2 := Lib.hid (hW.out.trans (q2.mono hW.out.size))
          clear q2
          go_wp2_with fail
          go_roundg m
          case measure => omega
          case rel => exact ⟨f * 10 % 65536, acc ++ [c], congrArg Value.string (asStr_append _ _), by go_num, by omega, by omega, hz', hacc', hl2, HW2⟩
  · have hT2 : Hid (([45] ++ wh ++ [46]) ++ fracL 16 (k % 65536) = T) := by
      show _ = _
      rw [hT, hnum, if_neg hr]
      simp
    have hgt : decide (0 < (k : Int) % 65536) = true := decide_eq_true (by omega)
    have hacc : ([45] ++ wh ++ [46] : List UInt8).length + 16 ≤ 40 := by simp; omega
    have HACC := Lib.hid hacc
    have hlt : k % 65536 < 65536 := by omega
    have hs0 : Hid ((.string (⟨#[45]⟩ ++ asStr wh ++ ⟨#[46]⟩) : Value) = .string (asStr ([45] ++ wh ++ [46]))) := congrArg Value.string (by simp only [← asStr_append]; first | rfl | exact (asStr_append [] _).symm.trans rfl)
    clear hT hnum hr hacc
    go_enter Tryd.func45, Tryd.ntmps45
    go_wp2_with (go_at_call 36; refine (rfits_calls _ _).mono ?_; rintro e w2 ⟨rfl, rfl⟩)
    refine (HD0.out _).mono ?_
    rintro e w1 ⟨rfl, q1⟩
    have HB1 := Lib.hid q1
    clear q1
    go_wp2_with fail
    go_loopg [3, 4] 16 (fun m s v wr => ∃ (f : Nat) (acc : List UInt8), s = .string (asStr acc) ∧ v = .int .i64 f ∧ f < 65536 ∧ m ≤ 16 ∧ Hid (f * 2 ^ m % 65536 = 0) ∧ Hid (acc ++ fracL m f = T) ∧ Hid (acc.length + m ≤ 40) ∧ Hid (Below w.heap.size w wr))
    case atStart => exact ⟨k % 65536, [45] ++ wh ++ [46], hs0.out, by rw [HMOD.out], hlt, Nat.le_refl _, hf0, hT2, HACC, HB1⟩
    case round =>
      clear hs0 hgt hlt
      obtain ⟨f, acc, rfl, rfl, hf, hm, hz, hacc, hlen, hW⟩ := hrel
      have hza : (asStr acc).size ≤ 40 := by rw [asStr_size]; have := hlen.out; omega
      by_cases h0 : f = 0
      · subst h0
        have HF : Hid (acc = T) := by
          have := hacc.out
          rw [fracL_zero, List.append_nil] at this
          exact this
        go_wp2_with fail
        go_ret
        exact ⟨ret_str (by rw [HF.out]), hW.out⟩
      · cases gk with
        | zero => exact absurd hz.out (by rw [Nat.pow_zero]; omega)
        | succ m =>
          have hpos : (0 : Int) < f := by omega
          obtain ⟨c, hc⟩ : ∃ c, c = UInt8.ofNat (48 + f * 10 / 65536) := ⟨_, rfl⟩
          have HDD := Lib.hid (show ∀ W, Calls Tryd.prog 20 #[.int .i64 ((f : Int) * 10 / 65536)] W fun e w' => e = .returned (.string (asStr [c])) ∧ Below W.heap.size W w' from fun W => by
            have := rDec_calls ((f * 10 / 65536 : Nat) : Int) (by omega) (by omega) W
            rw [itoa_digit _ (by omega), ← hc] at this
            exact this)
          have hz' : Hid ((f * 10 % 65536) * 2 ^ m % 65536 = 0) := by
            have h1 := hz.out
            show _ = _
            rw [Nat.pow_succ] at h1
            rw [Nat.mod_mul_mod]
            have : f * 10 * 2 ^ m = (f * (2 ^ m * 2)) * 5 := by
              rw [Nat.mul_assoc f 10, Nat.mul_assoc f, Nat.mul_comm 10, Nat.mul_assoc (2 ^ m)]
            rw [this, Nat.mul_mod, h1]
          have hacc' : Hid ((acc ++ [c]) ++ fracL m (f * 10 % 65536) = T) := by
            have h1 := hacc.out
            rw [fracL, if_neg h0] at h1
            show _ = _
            rw [List.append_assoc, hc]
            exact h1
          have hl2 : Hid ((acc ++ [c]).length + m ≤ 40) := by
            have := hlen.out
            show _ ≤ _
            rw [List.length_append, List.length_singleton]; omega
          have hzc : (asStr [c]).size ≤ 1 := by rw [asStr_size]; exact Nat.le_refl _
          clear h0 hz hacc hlen hc
          go_wp2_with fail
          refine (HDD.out _).mono ?_
          rintro e w2 ⟨rfl, q2⟩
          have HW2 := Lib.hid (hW.out.trans (q2.mono hW.out.size))
          clear q2
          go_wp2_with fail
          go_roundg m
          case measure => omega
          case rel => exact ⟨f * 10 % 65536, acc ++ [c], congrArg Value.string (asStr_append _ _), by go_num, by omega, by omega, hz', hacc', hl2, HW2⟩

theorem fixL_num (n : Int) (hf : fitsB n = true) : fixL n = (if n < 0 then [45] else []) ++ numL n.natAbs := by
  have ha : partA n = n.natAbs := by rw [partA, if_pos hf]
  rw [fixL, partS, partW, partR, ha, numL, hf]
  by_cases hr : n.natAbs % 65536 = 0
  · rw [hr, fracL_zero]
    by_cases hn : n < 0 <;> simp [hn]
  · rw [if_neg hr, fracL, if_neg hr]
    by_cases hn : n < 0 <;> simp [hn]
theorem r1Print_calls (n : Int) (hf : fitsB n = true) (w : World) :
    Calls Tryd.prog 45 #[.int .i64 n] w fun e w' => e = .returned (.string (asStr (fixL n))) ∧ Below w.heap.size w w' := by
  have hf2 := hf
  simp only [fitsB, Bool.and_eq_true, decide_eq_true_eq] at hf2
  rw [fixL_num n hf]
  by_cases hn : n < 0
  · rw [if_pos hn]
    have h := r1Print_neg n.natAbs (by omega) (by omega) w
    rw [show -((n.natAbs : Nat) : Int) = n from by omega] at h
    exact h
  · rw [if_neg hn]
    have h := r1Print_pos n.natAbs (by omega) w
    rw [show ((n.natAbs : Nat) : Int) = n from by omega] at h
    exact h
theorem realL_fix (n : Int) : realL n = if (partR n).isEmpty then fixL n ++ [46, 48] else fixL n := by
  rw [realL, fixL]
  by_cases h : (partR n).isEmpty
  · rw [if_pos h, if_pos h, if_pos h]; simp
  · rw [if_neg h, if_neg h, if_neg h]; simp
theorem partR_empty (n : Int) (hf : fitsB n = true) : (partR n).isEmpty = (n.tmod 65536 == 0) := by
  have ha : partA n = n.natAbs := by rw [partA, if_pos hf]
  rw [partR, ha]
  have hm : n.tmod 65536 = 0 ↔ n.natAbs % 65536 = 0 := by
    rw [← Int.natAbs_eq_zero, Int.natAbs_tmod]
    exact Iff.rfl
  by_cases hr : n.natAbs % 65536 = 0
  · rw [hr, fracL_zero, hm.2 hr]; rfl
  · rw [show (n.tmod 65536 == 0) = false from beq_eq_false_iff_ne.2 (fun h => hr (hm.1 h)), fracL, if_neg hr]; rfl

set_option maxHeartbeats 800000 in
set_option maxRecDepth 100000 in
theorem rPrintReal_calls (n : Int) (hf : fitsB n = true) (w : World) :
    Calls Tryd.prog 21 #[.int .i64 n] w fun e w' => e = .returned (.string (asStr (realL n))) ∧ Below w.heap.size w w' := by
  rw [realL_fix, partR_empty n hf]
  have HP := Lib.hid (fun W => r1Print_calls n hf W)
  have hz : (asStr (fixL n)).size ≤ 40 := by
    rw [asStr_size]
    have h1 := partS_le n; have h2 := partW_le n; have h3 := partR_le n
    rw [fixL]
    split <;> simp only [List.length_append, List.length_cons, List.length_nil] <;> omega
  have hf2 := hf
  simp only [fitsB, Bool.and_eq_true, decide_eq_true_eq] at hf2
  obtain ⟨hn1, hn2⟩ := hf2
  generalize fixL n = F at *
  cases hb : (n.tmod 65536 == 0) with
  | true =>
    rw [if_pos rfl]
    go_enter Tryd.func21, Tryd.ntmps21
    go_wp2_with (go_at_call 36; refine (rfits_calls _ _).mono ?_; rintro e w2 ⟨rfl, rfl⟩)
    refine (HP.out _).mono ?_
    rintro e w1 ⟨rfl, q1⟩
    have Q1 := Lib.hid q1
    clear q1
    go_wp2_with fail
    go_ret
    exact ⟨ret_str (by rw [← asStr_append]; rfl), Q1.out⟩
  | false =>
    rw [if_neg Bool.false_ne_true]
    go_enter Tryd.func21, Tryd.ntmps21
    go_wp2_with (go_at_call 36; refine (rfits_calls _ _).mono ?_; rintro e w2 ⟨rfl, rfl⟩)
    refine (HP.out _).mono ?_
    rintro e w1 ⟨rfl, q1⟩
    have Q1 := Lib.hid q1
    clear q1
    go_wp2_with fail
    go_ret
    exact ⟨rfl, Q1.out⟩
end Go.Proofs.YtkcdckcckpgliaaDoor
