/- The reference's names and strings as bytes: hexa, Name, Text. -/
import Derived.Test.YtkcdckcckpgliaaDoorPr1b
import Derived.BigQuiet
import Derived.Deep.QuietTactic
namespace Go.Proofs.YtkcdckcckpgliaaDoor
open Go.RowKit Go.Shelf

theorem below_drewN' {B : Nat} {a w : World} (h : Below B a w) (n : Nat) : Below B a (w.drewN n) := ⟨h.os, h.tape, h.output, h.size, h.block⟩

def rdelimB (c : UInt8) : Bool := decide (c.toNat = 40) || decide (c.toNat = 41) || decide (c.toNat = 60) || decide (c.toNat = 62) || decide (c.toNat = 91) || decide (c.toNat = 93) || decide (c.toNat = 123) || decide (c.toNat = 125) || decide (c.toNat = 47) || decide (c.toNat = 37)
set_option maxHeartbeats 800000 in
set_option maxRecDepth 100000 in
theorem rDelimiter_calls (c : UInt8) (w : World) : Calls Tryd.prog 26 #[.int .u8 c.toNat] w fun e w' => e = .returned (.bool (rdelimB c)) ∧ w = w' := by
  go_enter Tryd.func26, Tryd.ntmps26
  go_wp2
  all_goals go_ret
  all_goals (
    refine ⟨ret_bool ?_, rfl⟩
    simp only [beq_iff_eq, beq_eq_false_iff_ne, ne_eq] at *
    rw [Bool.eq_iff_iff]
    simp only [rdelimB, Bool.or_eq_true, decide_eq_true_eq, eq_self, true_iff, Bool.false_eq_true, false_iff]
    omega)
theorem esc_all : ∀ n, n < 256 → escN (UInt8.ofNat n) = (decide (n < 33) || decide (126 < n) || decide (n = 35) || rdelimB (UInt8.ofNat n)) := by decide +kernel
theorem esc_is (c : UInt8) : escN c = (decide (c.toNat < 33) || decide (126 < c.toNat) || decide (c.toNat = 35) || rdelimB c) := by
  have := esc_all c.toNat c.toNat_lt
  rwa [UInt8.ofNat_toNat] at this

def hexS : ByteArray := ⟨#[48, 49, 50, 51, 52, 53, 54, 55, 56, 57, 97, 98, 99, 100, 101, 102]⟩
theorem hexa_cat : ∀ k : Nat, k < 256 → hexS.extract (k / 16) (k / 16 + 1) ++ hexS.extract (k % 16) (k % 16 + 1) = asStr [hexD (k / 16), hexD (k % 16)] := by decide +kernel

set_option maxHeartbeats 800000 in
set_option maxRecDepth 100000 in
theorem hexa_calls (c : UInt8) (x : Int) (hx : x = c.toNat) (w : World) : Calls Tryd.prog 46 #[.int .u8 x] w fun e w' => e = .returned (.string (asStr [hexD (c.toNat / 16), hexD (c.toNat % 16)])) ∧ Below w.heap.size w w' := by
  subst hx
  have hc := c.toNat_lt
  have HC := Lib.hid (hexa_cat c.toNat hc)
  generalize c.toNat = k at *
  have HB := Lib.hid (Below.refl w.heap.size w)
  have h1 : 0 ≤ (k : Int) / 16 := by omega
  have h2 : (k : Int) / 16 + 1 ≤ 16 := by omega
  have h3 : 0 ≤ (k : Int) % 16 := by omega
  have h4 : (k : Int) % 16 + 1 ≤ 16 := by omega
  go_enter Tryd.func46, Tryd.ntmps46
  go_wp2_with fail
  go_quiet (fail)
  go_wp2_with fail
  go_ret
  exact ⟨ret_str HC.out, below_drewN' HB.out nq⟩

set_option maxHeartbeats 1600000 in
set_option maxRecDepth 100000 in
theorem rName_calls (s : ByteArray) (w : World) (hs : s.size ≤ 17592186044416) :
    Calls Tryd.prog 22 #[.string s] w fun e w' => e = .returned (.string (asStr (nameL s.data.toList))) ∧ Below w.heap.size w w' := by
  have HB := Lib.hid (Below.refl w.heap.size w)
  have H0 : Hid (([47] : List UInt8) = 47 :: (s.data.toList.take 0).flatMap nameByte) := rfl
  go_enter Tryd.func22, Tryd.ntmps22
  go_wp2_with fail
  go_loopw [3, 4] (fun v i wr => ∃ (k : Nat) (acc : List UInt8), k ≤ s.size ∧ i = .int .i64 k ∧ v = .string (asStr acc) ∧ Hid (acc = 47 :: (s.data.toList.take k).flatMap nameByte) ∧ Hid (Below w.heap.size w wr)) (fun _ i _ => s.size - (intOf i).toNat)
  case atStart => exact ⟨0, [47], Nat.zero_le _, rfl, rfl, H0, HB⟩
  case round =>
    clear H0 HB
    obtain ⟨k, acc, hk, rfl, rfl, hacc, hW⟩ := hrel
    have hal : acc.length ≤ 3 * k + 1 := by
      rw [hacc.out, List.length_cons]
      have := flat_take_le nameByte 3 nameByte_le s.data.toList k (by rw [size_data]; omega)
      omega
    have hz : (asStr acc).size ≤ 3 * k + 1 := by rw [asStr_size]; exact hal
    clear hal
    by_cases hlt : k < s.size
    · have hkl : k < s.data.toList.length := by rw [size_data]; exact hlt
      have hstep := flat_take nameByte s.data.toList k hkl
      have hone : s.extract k (k + 1) = asStr [s.data.toList[k]] := by
        apply ba_ext0
        rw [ByteArray.data_extract, Array.toList_extract]
        simp [asStr, List.extract, List.drop_eq_getElem_cons hkl]
      have hbyte : ∀ h, s[k]'h = s.data.toList[k] := fun h => rfl
      obtain ⟨c, hc⟩ : ∃ c, c = s.data.toList[k] := ⟨_, rfl⟩
      rw [← hc] at hstep hone
      have hb2 : (s[k]'hlt) = c := by rw [hc]; rfl
      have HS := Lib.hid hstep
      have hesc := esc_is c
      clear hstep hbyte hc
      have hcl : c.toNat < 256 := c.toNat_lt
      have hzc : (asStr [c]).size ≤ 1 := by rw [asStr_size]; exact Nat.le_refl _
      have hzh : (asStr [hexD (c.toNat / 16), hexD (c.toNat % 16)]).size ≤ 2 := by rw [asStr_size]; exact Nat.le_refl _
      have hzh : (asStr [hexD (c.toNat / 16), hexD (c.toNat % 16)]).size ≤ 2 := by rw [asStr_size]; exact Nat.le_refl _
      have HESC := Lib.hid hesc
      clear hesc
      go_wp2_with fail
      rotate_left
      · have b1 : decide ((c.toNat : Int) < 33) = false := decide_eq_false (by omega)
        have b2 : decide (126 < (c.toNat : Int)) = false := decide_eq_false (by omega)
        have b3 : ((c.toNat : Int) == 35) = false := beq_eq_false_iff_ne.2 (by omega)
        refine (rDelimiter_calls c wr).mono ?_
        rintro e w1 ⟨rfl, rfl⟩
        cases hd : rdelimB c with
        | true =>
          go_wp2_with fail
          have hnext : Hid (acc ++ [35] ++ [hexD (c.toNat / 16), hexD (c.toNat % 16)] = 47 :: (s.data.toList.take (k + 1)).flatMap nameByte) := by
            have he : escN c = true := by
              rw [HESC.out]
              simp only [Bool.or_eq_true, decide_eq_true_eq]
              exact .inr hd
            show _ = _
            rw [HS.out, hacc.out, nameByte, he, if_pos rfl]
            simp only [List.append_assoc, List.cons_append, List.nil_append]
          refine (hexa_calls c _ (by omega) wr).mono ?_
          rintro e w2 ⟨rfl, q2⟩
          have HW2 := Lib.hid (hW.out.trans (q2.mono hW.out.size))
          clear q2
          try (rename (c.toNat : Int) = 35 => hq; clear hq)
          go_wp2_with fail
          go_roundw
          case rel => exact ⟨k + 1, acc ++ [35] ++ [hexD (c.toNat / 16), hexD (c.toNat % 16)], by omega, by go_num, congrArg Value.string (by rw [← asStr_append, ← asStr_append]; rfl), hnext, HW2⟩
          case measure => simp [intOf]; omega
        | false =>
          have hnext : Hid (acc ++ [c] = 47 :: (s.data.toList.take (k + 1)).flatMap nameByte) := by
            have he : escN c = false := by
              rw [HESC.out, hd]
              simp only [Bool.or_false, Bool.or_eq_false_iff, decide_eq_false_iff_not]
              omega
            show _ = _
            rw [HS.out, hacc.out, nameByte, he, if_neg Bool.false_ne_true]
            rfl
          go_wp2_with fail
          go_roundw
          case rel => exact ⟨k + 1, acc ++ [c], by omega, by go_num, congrArg Value.string (asStr_append _ _), hnext, hW⟩
          case measure => simp [intOf]; omega
      all_goals (
        have hnext : Hid (acc ++ [35] ++ [hexD (c.toNat / 16), hexD (c.toNat % 16)] = 47 :: (s.data.toList.take (k + 1)).flatMap nameByte) := by
          have he : escN c = true := by
            rw [HESC.out]
            simp only [Bool.or_eq_true, decide_eq_true_eq]
            omega
          show _ = _
          rw [HS.out, hacc.out, nameByte, he, if_pos rfl]
          simp only [List.append_assoc, List.cons_append, List.nil_append]
        refine (hexa_calls c _ (by omega) wr).mono ?_
        rintro e w2 ⟨rfl, q2⟩
        have HW2 := Lib.hid (hW.out.trans (q2.mono hW.out.size))
        clear q2
        try (rename (c.toNat : Int) = 35 => hq; clear hq)
        go_wp2_with fail
        go_roundw
        case rel => exact ⟨k + 1, acc ++ [35] ++ [hexD (c.toNat / 16), hexD (c.toNat % 16)], by omega, by go_num, congrArg Value.string (by rw [← asStr_append, ← asStr_append]; rfl), hnext, HW2⟩
        case measure => simp [intOf]; omega)
    · obtain rfl : k = s.size := by omega
      have HF : Hid (acc = nameL s.data.toList) := by
        show _ = _
        rw [hacc.out, nameL, ← size_data, List.take_length]
      go_wp2_with fail
      go_ret
      exact ⟨ret_str (by rw [HF.out]), hW.out⟩
end Go.Proofs.YtkcdckcckpgliaaDoor
