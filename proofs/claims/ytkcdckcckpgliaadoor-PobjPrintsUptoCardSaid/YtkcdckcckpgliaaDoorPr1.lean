/- The reference's numbers as bytes: udec, Dec, Print, PrintReal. -/
import Derived.Test.YtkcdckcckpgliaaDoorRSnd
import Derived.Test.YtkcdckcckpgliaaDoorWrW
import Derived.Laws.IdiomStrings
namespace Go.Proofs.YtkcdckcckpgliaaDoor
open Go.RowKit Go.Shelf

theorem one_byte (w : World) (x : Int) (c : UInt8) (hx : x = c.toNat) :
    (convert 24 9 (.slice (some ⟨w.heap.size, 0, none⟩) 1 1)).run Tryd.prog (w.alloc (.cells #[.int .u8 x] 5)) = .ok (.string (asStr [c])) (w.alloc (.cells #[.int .u8 x] 5)) := by
  subst hx
  refine run_convert_bytes_back _ 24 9 5 _ 1 [c] Tryd.underlying24 Tryd.underlying5 Tryd.underlying9 fun j hj => ?_
  obtain rfl : j = 0 := by simpa using hj
  rw [Addr.add_lit, Lib.cell_of_heap (heap_alloc_new w _)]
  rfl
theorem decDigits_big (n : Nat) (h : ¬ n < 10) : Lib.decDigits n = Lib.decDigits (n / 10) ++ [UInt8.ofNat (48 + n % 10)] := by rw [Lib.decDigits, dif_neg h]
theorem decDigits_small (n : Nat) (h : n < 10) : Lib.decDigits n = [UInt8.ofNat (48 + n)] := by rw [Lib.decDigits, dif_pos h]
theorem ofNat_toNat (n : Nat) (h : n < 256) : ((UInt8.ofNat n).toNat : Int) = n := by
  rw [UInt8.toNat_ofNat', Nat.mod_eq_of_lt h]

set_option maxHeartbeats 800000 in
set_option maxRecDepth 100000 in
theorem udec_calls (n : Nat) (hn : n ≤ 1000000000000) (w : World) :
    Calls Tryd.prog 44 #[.int .u64 n] w fun e w' => e = .returned (.string (asStr (Lib.decDigits n))) ∧ Below w.heap.size w w' := by
  have hl := decDigits_le 12 n (by omega)
  obtain ⟨D, hD⟩ : ∃ D, D = Lib.decDigits n := ⟨_, rfl⟩
  have HD0 : Hid (Lib.decDigits n ++ [] = D) := by show _ = _; rw [hD, List.append_nil]
  rw [← hD] at hl ⊢
  have HB := Lib.hid (Below.refl w.heap.size w)
  clear hD
  go_enter Tryd.func44, Tryd.ntmps44
  go_wp2_with fail
  go_loopw [0, 3] (fun u s wr => ∃ (m : Nat) (acc : List UInt8), u = .int .u64 m ∧ s = .string (asStr acc) ∧ m ≤ 1000000000000 ∧ Hid (Lib.decDigits m ++ acc = D) ∧ Hid (Below w.heap.size w wr)) (fun u _ _ => (intOf u).toNat)
  case atStart => exact ⟨n, [], rfl, rfl, hn, HD0, HB⟩
  case round =>
    clear HD0 HB hn
    obtain ⟨m, acc, rfl, rfl, hm, hE, hW⟩ := hrel
    have hacc : (asStr acc).size ≤ 13 := by
      rw [asStr_size]
      have := congrArg List.length hE.out
      rw [List.length_append] at this
      omega
    obtain ⟨c, hc⟩ : ∃ c, c = UInt8.ofNat (48 + m % 10) := ⟨_, rfl⟩
    have hone := one_byte wr (48 + (m : Int) % 10) c (by rw [hc, ofNat_toNat _ (by omega)]; omega)
    have hz1 : (asStr [c]).size ≤ 1 := by rw [asStr_size]; exact Nat.le_refl _
    have HC := Lib.hid hc
    have HW2 := Lib.hid (hW.out.trans ((below_alloc wr (.cells #[.int .u8 (48 + (m : Int) % 10)] 5)).mono hW.out.size))
    clear hc
    by_cases h9 : m < 10
    · have HF : Hid (asStr [c] ++ asStr acc = asStr D) := by
        show _ = _
        rw [← hE.out, decDigits_small m h9, asStr_append, HC.out, Nat.mod_eq_of_lt h9]
      have hq : (m : Int) / 10 = 0 := by omega
      go_wp2_with fail
      go_ret
      exact ⟨ret_str HF.out, HW2.out⟩
    · have hq : ((m / 10 : Nat) : Int) = (m : Int) / 10 := by omega
      have hne : ((m : Int) / 10 == 0) = false := beq_eq_false_iff_ne.2 (by omega)
      have HE2 : Hid (Lib.decDigits (m / 10) ++ ([c] ++ acc) = D) := by
        show _ = _
        rw [← hE.out, decDigits_big m h9, List.append_assoc, HC.out]
      have HQ := Lib.hid hq
      clear hq
      go_wp2_with fail
      go_roundw
      case rel => exact ⟨m / 10, [c] ++ acc, by rw [HQ.out], congrArg Value.string (asStr_append _ _), by omega, HE2, HW2⟩
      case measure => simp [intOf]; omega

set_option maxHeartbeats 800000 in
set_option maxRecDepth 100000 in
theorem rDec_calls (n : Int) (h0 : -1000000000000 ≤ n) (h1 : n ≤ 1000000000000) (w : World) :
    Calls Tryd.prog 20 #[.int .i64 n] w fun e w' => e = .returned (.string (asStr (Lib.itoa n))) ∧ Below w.heap.size w w' := by
  by_cases hneg : n < 0
  · have hr : Lib.itoa n = 45 :: Lib.decDigits n.natAbs := by rw [Lib.itoa, if_pos hneg]
    rw [hr]
    have hl := decDigits_le 12 n.natAbs (by omega)
    have hz : (asStr (Lib.decDigits n.natAbs)).size ≤ 13 := by rw [asStr_size]; exact hl
    have hU := Lib.hid (fun W => udec_calls n.natAbs (by omega) W)
    have hk : Hid ((n.natAbs : Int) = -(n + 1) + 1) := by show _ = _; omega
    clear hr hl
    go_enter Tryd.func20, Tryd.ntmps20
    go_wp2_with fail
    rw [← hk.out]
    refine (hU.out _).mono ?_
    rintro e w1 ⟨rfl, q1⟩
    have Q1 := Lib.hid q1
    clear q1
    go_wp2_with fail
    go_ret
    exact ⟨ret_str (asStr_append [45] _), Q1.out⟩
  · have hr : Lib.itoa n = Lib.decDigits n.toNat := by rw [Lib.itoa, if_neg hneg]
    rw [hr]
    have hU := Lib.hid (fun W => udec_calls n.toNat (by omega) W)
    have hk : Hid ((n.toNat : Int) = n) := by show _ = _; omega
    clear hr
    go_enter Tryd.func20, Tryd.ntmps20
    go_wp2_with fail
    rw [← hk.out]
    refine (hU.out _).mono ?_
    rintro e w1 ⟨rfl, q1⟩
    have Q1 := Lib.hid q1
    clear q1
    go_wp2_with fail
    go_ret
    exact ⟨rfl, Q1.out⟩
end Go.Proofs.YtkcdckcckpgliaaDoor
