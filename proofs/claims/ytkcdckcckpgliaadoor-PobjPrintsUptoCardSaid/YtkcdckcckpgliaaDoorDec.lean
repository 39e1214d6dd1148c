/- dec.digits, dec.parts, dec.PrintReal, dec.Print as the machine runs them. -/
import Derived.Test.YtkcdckcckpgliaaDoorBuilder
import Derived.Test.YtkcdckcckpgliaaDoorSnd
import Derived.Lib.ItoaNum
import Derived.Lib.Strings
import Derived.Laws.BitsLemmas
import Derived.Deep.LoopGhost
namespace Go.Proofs.YtkcdckcckpgliaaDoor
open Go.RowKit Go.Shelf

theorem ba_ext0 {s t : ByteArray} (h : s.data.toList = t.data.toList) : s = t := by
  cases s with | mk a => cases t with | mk c => exact congrArg ByteArray.mk (Array.toList_inj.1 h)
def asStr (l : List UInt8) : ByteArray := ⟨l.toArray⟩
theorem asStr_size (l : List UInt8) : (asStr l).size = l.length := by show l.toArray.size = _; simp
theorem asStr_append (a b : List UInt8) : asStr a ++ asStr b = asStr (a ++ b) := ba_ext0 (by simp [asStr])
theorem enc_digit : ∀ n : Nat, n < 10 → Utf8.encode (48 + (n : Int)) = asStr [UInt8.ofNat (48 + n)] := by decide
theorem decDigits_le : ∀ (m n : Nat), n < 10 ^ (m + 1) → (Lib.decDigits n).length ≤ m + 1
  | 0, n, h => by rw [Lib.decDigits, dif_pos (by omega)]; simp
  | m + 1, n, h => by
    rw [Lib.decDigits]
    split
    · simp
    · have := decDigits_le m (n / 10) (by rw [Nat.pow_succ] at h; omega)
      simp only [List.length_append, List.length_singleton]
      omega
set_option maxHeartbeats 1000000 in
set_option maxRecDepth 100000 in
theorem digits_calls : ∀ (m n : Nat) (w : World), n ≤ m → n < 1000000 → Calls Tryd.prog 61 #[.int .i64 n] w fun e w' => e = .returned (.string (asStr (Lib.decDigits n))) ∧ w = w' := by
  intro m
  induction m with
  | zero =>
    intro n w hm h1
    have hn : (n : Int) < 10 := by omega
    have he := enc_digit n (by omega)
    have hd : Lib.decDigits n = [UInt8.ofNat (48 + n)] := by rw [Lib.decDigits, dif_pos (by omega)]
    rw [hd]
    have HE := Lib.hid he
    clear he hd
    go_enter Tryd.func61, Tryd.ntmps61
    go_wp2_with fail
    go_ret
    exact ⟨ret_str HE.out, rfl⟩
  | succ m ih =>
    intro n w hm h1
    by_cases hn : n < 10
    · have hn' : (n : Int) < 10 := by omega
      have he := enc_digit n hn
      have hd : Lib.decDigits n = [UInt8.ofNat (48 + n)] := by rw [Lib.decDigits, dif_pos hn]
      rw [hd]
      have HE := Lib.hid he
      clear he hd hn
      go_enter Tryd.func61, Tryd.ntmps61
      go_wp2_with fail
      go_ret
      exact ⟨ret_str HE.out, rfl⟩
    · have hn' : ¬ (n : Int) < 10 := by omega
      have he := enc_digit (n % 10) (by omega)
      have hd : Lib.decDigits n = Lib.decDigits (n / 10) ++ [UInt8.ofNat (48 + n % 10)] := by rw [Lib.decDigits, dif_neg hn]
      have hl := decDigits_le 5 (n / 10) (by omega)
      have hi : ∀ W, Calls Tryd.prog 61 #[.int .i64 ((n : Int) / 10)] W fun e w' => e = .returned (.string (asStr (Lib.decDigits (n / 10)))) ∧ W = w' := fun W => ih (n / 10) W (by omega) (by omega)
      have hz : (asStr (Lib.decDigits (n / 10))).size ≤ 6 := by rw [asStr_size]; exact hl
      have hz2 : (Utf8.encode (48 + (n : Int) % 10)).size ≤ 1 := by
        rw [show ((n : Int) % 10) = ((n % 10 : Nat) : Int) from rfl, he]; exact Nat.le_refl _
      rw [hd]
      have HE := Lib.hid he
      clear he hd hn hl
      go_enter Tryd.func61, Tryd.ntmps61
      go_wp2_with (go_at_call 61; refine (hi _).mono ?_; rintro e w' ⟨rfl, rfl⟩)
      go_ret
      exact ⟨ret_str (by rw [← asStr_append]; exact congrArg (asStr _ ++ ·) HE.out), rfl⟩

theorem i64_and65535 (x : Int) (h0 : 0 ≤ x) (h1 : x < 2 ^ 40) : Go.bits .and .i64 x 65535 = x % 65536 :=
  bits_mask .i64 40 (by decide) (fun n h0 h1 => by rw [IntKind.wrap_i64]; omega) 16 (by decide) x h0 h1

/-- The digits behind the point, of f parts of 65536: at most so many. -/
def fracL : Nat → Nat → List UInt8
  | 0, _ => []
  | m + 1, f => if f = 0 then [] else UInt8.ofNat (48 + f * 10 / 65536) :: fracL m (f * 10 % 65536)
theorem fracL_le : ∀ m f, (fracL m f).length ≤ m
  | 0, _ => Nat.le_refl _
  | m + 1, f => by
    rw [fracL]
    split
    · simp
    · have := fracL_le m (f * 10 % 65536)
      simp only [List.length_cons]
      omega
theorem fracL_zero (m : Nat) : fracL m 0 = [] := by cases m <;> simp [fracL]
def partA (n : Int) : Nat := if fitsB n then n.natAbs else 0
def partS (n : Int) : List UInt8 := if fitsB n && decide (n < 0) then [45] else []
def partW (n : Int) : List UInt8 := Lib.decDigits (partA n / 65536)
def partR (n : Int) : List UInt8 := fracL 16 (partA n % 65536)

theorem byteCells_snoc (l : List UInt8) (c : UInt8) : Lib.byteCells l ++ [.int .u8 c.toNat] = Lib.byteCells (l ++ [c]) := by simp [Lib.byteCells]

set_option maxHeartbeats 1600000 in
set_option maxRecDepth 100000 in
theorem parts_pos (n : Nat) (w : World) (hn : n ≤ 2147483647) :
    Calls Tryd.prog 51 #[.int .i64 n] w fun e w' => e = .returned (.tuple #[.string (asStr []), .string (asStr (Lib.decDigits (n / 65536))), .string (asStr (fracL 16 (n % 65536)))]) ∧ Below w.heap.size w w' := by
  have hfit : fitsB (n : Int) = true := by simp only [fitsB, Bool.and_eq_true, decide_eq_true_eq]; omega
  have hand := i64_and65535 (n : Int) (by omega) (by omega)
  have hneg : decide ((n : Int) < 0) = false := decide_eq_false (by omega)
  have hmod : (n : Int) % 65536 = ((n % 65536 : Nat) : Int) := by omega
  rw [hmod] at hand
  go_enter Tryd.func51, Tryd.ntmps51
  clear hmod
  go_wp2_with (go_at_call 39; refine (Fits_calls _ _).mono ?_; rintro e w2 ⟨rfl, rfl⟩)
  have hB0 : Lib.IsBuilder 81 5 w.heap.size w.heap.size (Lib.byteCells []) (w.alloc (.cells #[.pointer none, .slice none 0 0] 81)) := Lib.fresh_isBuilder _ _ w
  have HB0 := Lib.hid hB0
  have HB1 := Lib.hid (below_alloc w (.cells #[.pointer none, .slice none 0 0] 81))
  have hf0 : Hid ((n % 65536) * 2 ^ 16 % 65536 = 0) := by show (n % 65536) * 65536 % 65536 = 0; omega
  clear hB0 hand
  go_loopg [6] 16 (fun m v wr => ∃ (f : Nat) (acc : List UInt8), v = .int .i64 f ∧ f < 65536 ∧ m ≤ 16 ∧ Hid (f * 2 ^ m % 65536 = 0) ∧ Hid (acc ++ fracL m f = fracL 16 (n % 65536)) ∧ Hid (acc.length + m = 16) ∧ Hid (Lib.IsBuilder 81 5 w.heap.size w.heap.size (Lib.byteCells acc) wr) ∧ Hid (Below w.heap.size w wr))
  case atStart => exact ⟨n % 65536, [], by go_num, by omega, Nat.le_refl _, hf0, rfl, rfl, HB0, HB1⟩
  case round =>
    obtain ⟨f, acc, rfl, hf, hm, hz, hacc, hlen, hI, hW⟩ := hrel
    by_cases h0 : f = 0
    · subst h0
      have hst : Hid (acc = fracL 16 (n % 65536)) := by
        have := hacc.out
        rw [fracL_zero, List.append_nil] at this
        exact this
      have hd : ∀ W, Calls Tryd.prog 61 #[.int .i64 ((n : Int) / 65536)] W fun e w' => e = .returned (.string (asStr (Lib.decDigits (n / 65536)))) ∧ W = w' := fun W => digits_calls (n / 65536) (n / 65536) W (Nat.le_refl _) (by omega)
      go_wp2_with fail
      refine (hd wr).mono ?_
      rintro e w2 ⟨rfl, rfl⟩
      go_wp2_with fail
      refine (Tryd.Builder_String_any w.heap.size w.heap.size acc wr hI.out hW.out.size).mono ?_
      rintro e w2 ⟨rfl, b2⟩
      have B2 := Lib.hid (hW.out.trans b2)
      clear b2
      go_wp2_with fail
      go_ret3
      exact ⟨by rw [← hst.out]; rfl, B2.out⟩
    · cases gk with
      | zero => exact absurd hz.out (by rw [Nat.pow_zero]; omega)
      | succ m =>
        have hpos : (0 : Int) < f := by omega
        have hand := i64_and65535 ((f : Int) * 10) (by omega) (by omega)
        have hz' : Hid ((f * 10 % 65536) * 2 ^ m % 65536 = 0) := by
          have h1 := hz.out
          show _ = _
          rw [Nat.pow_succ] at h1
          rw [Nat.mod_mul_mod]
          have : f * 10 * 2 ^ m = (f * (2 ^ m * 2)) * 5 := by
            rw [Nat.mul_assoc f 10, Nat.mul_assoc f, Nat.mul_comm 10, Nat.mul_assoc (2 ^ m)]
          rw [this, Nat.mul_mod, h1]
        have hacc' : Hid ((acc ++ [UInt8.ofNat (48 + f * 10 / 65536)]) ++ fracL m (f * 10 % 65536) = fracL 16 (n % 65536)) := by
          have h1 := hacc.out
          rw [fracL, if_neg h0] at h1
          show _ = _
          rw [List.append_assoc]
          exact h1
        have hbyte : Hid (Lib.byteCells acc ++ [.int .u8 (48 + (f : Int) * 10 / 65536)] = Lib.byteCells (acc ++ [UInt8.ofNat (48 + f * 10 / 65536)])) := by
          show _ = _
          rw [← byteCells_snoc]
          congr 3
          rw [UInt8.toNat_ofNat', Nat.mod_eq_of_lt (by omega)]
          omega
        have hl1 : Hid ((Lib.byteCells acc).length + 1 ≤ 140737488355328) := by
          have := hlen.out
          show _ ≤ _
          rw [Lib.byteCells_length]; omega
        have hl2 : Hid ((acc ++ [UInt8.ofNat (48 + f * 10 / 65536)]).length + m = 16) := by
          have := hlen.out
          show _ = _
          rw [List.length_append, List.length_singleton]; omega
        clear h0 hz hacc hlen
        go_wp2_with fail
        refine (builder_writeByte w.heap.size w.heap.size (Lib.byteCells acc) _ wr hI.out hl1.out hW.out.size).mono ?_
        rintro e w2 ⟨rfl, h1, b1⟩
        have H1 := Lib.hid h1
        have B1 := Lib.hid (hW.out.trans b1)
        clear h1 b1
        go_wp2_with fail
        go_roundg m
        case measure => omega
        case rel =>
          refine ⟨f * 10 % 65536, acc ++ [UInt8.ofNat (48 + f * 10 / 65536)], by go_num, by omega, by omega, hz', hacc', hl2, ?_, B1⟩
          rw [← hbyte.out]
          exact H1
set_option maxHeartbeats 1600000 in
set_option maxRecDepth 100000 in
theorem parts_neg (n : Nat) (w : World) (hn : n ≤ 2147483648) (hn0 : 0 < n) :
    Calls Tryd.prog 51 #[.int .i64 (-(n : Int))] w fun e w' => e = .returned (.tuple #[.string (asStr [45]), .string (asStr (Lib.decDigits (n / 65536))), .string (asStr (fracL 16 (n % 65536)))]) ∧ Below w.heap.size w w' := by
  have hfit : fitsB (-(n : Int)) = true := by simp only [fitsB, Bool.and_eq_true, decide_eq_true_eq]; omega
  have hand := i64_and65535 (n : Int) (by omega) (by omega)
  have hneg : decide (-(n : Int) < 0) = true := decide_eq_true (by omega)
  have hmod : (n : Int) % 65536 = ((n % 65536 : Nat) : Int) := by omega
  rw [hmod] at hand
  go_enter Tryd.func51, Tryd.ntmps51
  clear hmod
  go_wp2_with (go_at_call 39; refine (Fits_calls _ _).mono ?_; rintro e w2 ⟨rfl, rfl⟩)
  have hB0 : Lib.IsBuilder 81 5 w.heap.size w.heap.size (Lib.byteCells []) (w.alloc (.cells #[.pointer none, .slice none 0 0] 81)) := Lib.fresh_isBuilder _ _ w
  have HB0 := Lib.hid hB0
  have HB1 := Lib.hid (below_alloc w (.cells #[.pointer none, .slice none 0 0] 81))
  have hf0 : Hid ((n % 65536) * 2 ^ 16 % 65536 = 0) := by show (n % 65536) * 65536 % 65536 = 0; omega
  clear hB0 hand
  go_loopg [6] 16 (fun m v wr => ∃ (f : Nat) (acc : List UInt8), v = .int .i64 f ∧ f < 65536 ∧ m ≤ 16 ∧ Hid (f * 2 ^ m % 65536 = 0) ∧ Hid (acc ++ fracL m f = fracL 16 (n % 65536)) ∧ Hid (acc.length + m = 16) ∧ Hid (Lib.IsBuilder 81 5 w.heap.size w.heap.size (Lib.byteCells acc) wr) ∧ Hid (Below w.heap.size w wr))
  case atStart => exact ⟨n % 65536, [], by go_num, by omega, Nat.le_refl _, hf0, rfl, rfl, HB0, HB1⟩
  case round =>
    obtain ⟨f, acc, rfl, hf, hm, hz, hacc, hlen, hI, hW⟩ := hrel
    by_cases h0 : f = 0
    · subst h0
      have hst : Hid (acc = fracL 16 (n % 65536)) := by
        have := hacc.out
        rw [fracL_zero, List.append_nil] at this
        exact this
      have hd : ∀ W, Calls Tryd.prog 61 #[.int .i64 ((n : Int) / 65536)] W fun e w' => e = .returned (.string (asStr (Lib.decDigits (n / 65536)))) ∧ W = w' := fun W => digits_calls (n / 65536) (n / 65536) W (Nat.le_refl _) (by omega)
      go_wp2_with fail
      refine (hd wr).mono ?_
      rintro e w2 ⟨rfl, rfl⟩
      go_wp2_with fail
      refine (Tryd.Builder_String_any w.heap.size w.heap.size acc wr hI.out hW.out.size).mono ?_
      rintro e w2 ⟨rfl, b2⟩
      have B2 := Lib.hid (hW.out.trans b2)
      clear b2
      go_wp2_with fail
      go_ret3
      exact ⟨by rw [← hst.out]; rfl, B2.out⟩
    · cases gk with
      | zero => exact absurd hz.out (by rw [Nat.pow_zero]; omega)
      | succ m =>
        have hpos : (0 : Int) < f := by omega
        have hand := i64_and65535 ((f : Int) * 10) (by omega) (by omega)
        have hz' : Hid ((f * 10 % 65536) * 2 ^ m % 65536 = 0) := by
          have h1 := hz.out
          show _ = _
          rw [Nat.pow_succ] at h1
          rw [Nat.mod_mul_mod]
          have : f * 10 * 2 ^ m = (f * (2 ^ m * 2)) * 5 := by
            rw [Nat.mul_assoc f 10, Nat.mul_assoc f, Nat.mul_comm 10, Nat.mul_assoc (2 ^ m)]
          rw [this, Nat.mul_mod, h1]
        have hacc' : Hid ((acc ++ [UInt8.ofNat (48 + f * 10 / 65536)]) ++ fracL m (f * 10 % 65536) = fracL 16 (n % 65536)) := by
          have h1 := hacc.out
          rw [fracL, if_neg h0] at h1
          show _ = _
          rw [List.append_assoc]
          exact h1
        have hbyte : Hid (Lib.byteCells acc ++ [.int .u8 (48 + (f : Int) * 10 / 65536)] = Lib.byteCells (acc ++ [UInt8.ofNat (48 + f * 10 / 65536)])) := by
          show _ = _
          rw [← byteCells_snoc]
          congr 3
          rw [UInt8.toNat_ofNat', Nat.mod_eq_of_lt (by omega)]
          omega
        have hl1 : Hid ((Lib.byteCells acc).length + 1 ≤ 140737488355328) := by
          have := hlen.out
          show _ ≤ _
          rw [Lib.byteCells_length]; omega
        have hl2 : Hid ((acc ++ [UInt8.ofNat (48 + f * 10 / 65536)]).length + m = 16) := by
          have := hlen.out
          show _ = _
          rw [List.length_append, List.length_singleton]; omega
        clear h0 hz hacc hlen
        go_wp2_with fail
        refine (builder_writeByte w.heap.size w.heap.size (Lib.byteCells acc) _ wr hI.out hl1.out hW.out.size).mono ?_
        rintro e w2 ⟨rfl, h1, b1⟩
        have H1 := Lib.hid h1
        have B1 := Lib.hid (hW.out.trans b1)
        clear h1 b1
        go_wp2_with fail
        go_roundg m
        case measure => omega
        case rel =>
          refine ⟨f * 10 % 65536, acc ++ [UInt8.ofNat (48 + f * 10 / 65536)], by go_num, by omega, by omega, hz', hacc', hl2, ?_, B1⟩
          rw [← hbyte.out]
          exact H1
set_option maxHeartbeats 1600000 in
set_option maxRecDepth 100000 in
theorem parts_out (n : Int) (w : World) (hfit : fitsB n = false) :
    Calls Tryd.prog 51 #[.int .i64 n] w fun e w' => e = .returned (.tuple #[.string (asStr []), .string (asStr [48]), .string (asStr [])]) ∧ Below w.heap.size w w' := by
  have hand : Go.bits .and .i64 0 65535 = 0 := by decide
  have hB0 : Lib.IsBuilder 81 5 w.heap.size w.heap.size (Lib.byteCells []) (w.alloc (.cells #[.pointer none, .slice none 0 0] 81)) := Lib.fresh_isBuilder _ _ w
  have HB0 := Lib.hid hB0
  have HB1 := Lib.hid (below_alloc w (.cells #[.pointer none, .slice none 0 0] 81))
  have hd : ∀ W, Calls Tryd.prog 61 #[.int .i64 0] W fun e w' => e = .returned (.string (asStr [48])) ∧ W = w' := fun W => by
    have := digits_calls 0 0 W (Nat.le_refl _) (by omega)
    rw [Lib.decDigits, dif_pos (by omega)] at this
    exact this
  clear hB0
  go_enter Tryd.func51, Tryd.ntmps51
  go_wp2_with (go_at_call 39; refine (Fits_calls _ _).mono ?_; rintro e w2 ⟨rfl, rfl⟩)
  go_loopw [6] (fun v wr => v = .int .i64 0 ∧ Hid (wr = w.alloc (.cells #[.pointer none, .slice none 0 0] 81))) (fun _ _ => 0)
  case atStart => exact ⟨rfl, rfl⟩
  case round =>
    obtain ⟨rfl, hw⟩ := hrel
    go_wp2_with fail
    refine (hd wr).mono ?_
    rintro e w2 ⟨rfl, rfl⟩
    go_wp2_with fail
    refine (Tryd.Builder_String_any w.heap.size w.heap.size [] wr (by rw [hw.out]; exact HB0.out) (by rw [hw.out]; simp)).mono ?_
    rintro e w2 ⟨rfl, b2⟩
    have B2 := Lib.hid b2
    clear b2
    go_wp2_with fail
    go_ret3
    exact ⟨rfl, by have := B2.out; rw [hw.out] at this; exact HB1.out.trans this⟩

/-- parts: sign, whole part, what is behind the point. -/
theorem parts_calls (n : Int) (w : World) :
    Calls Tryd.prog 51 #[.int .i64 n] w fun e w' => e = .returned (.tuple #[.string (asStr (partS n)), .string (asStr (partW n)), .string (asStr (partR n))]) ∧ Below w.heap.size w w' := by
  by_cases hf : fitsB n = true
  · have hf2 := hf
    simp only [fitsB, Bool.and_eq_true, decide_eq_true_eq] at hf2
    have ha : partA n = n.natAbs := by rw [partA, if_pos hf]
    by_cases hneg : n < 0
    · have e1 : n = -((n.natAbs : Nat) : Int) := by omega
      have hs : partS n = [45] := by rw [partS, hf, decide_eq_true hneg]; rfl
      have := parts_neg n.natAbs w (by omega) (by omega)
      rw [← e1] at this
      rw [hs, partW, partR, ha]
      exact this
    · have e1 : n = ((n.natAbs : Nat) : Int) := by omega
      have hs : partS n = [] := by rw [partS, hf, decide_eq_false hneg]; rfl
      have := parts_pos n.natAbs w (by omega)
      rw [← e1] at this
      rw [hs, partW, partR, ha]
      exact this
  · have hf' : fitsB n = false := by simpa using hf
    have ha : partA n = 0 := by rw [partA, if_neg hf]
    have hs : partS n = [] := by rw [partS, hf']; rfl
    have hw : partW n = [48] := by rw [partW, ha, Lib.decDigits, dif_pos (by omega)]; rfl
    have hr : partR n = [] := by rw [partR, ha]; exact fracL_zero 16
    rw [hs, hw, hr]
    exact parts_out n w hf'

/-- A real's bytes; a number's. -/
def realL (n : Int) : List UInt8 := partS n ++ partW n ++ [46] ++ (if (partR n).isEmpty then [48] else partR n)
def fixL (n : Int) : List UInt8 := partS n ++ partW n ++ (if (partR n).isEmpty then [] else 46 :: partR n)
theorem partS_le (n : Int) : (partS n).length ≤ 1 := by unfold partS; split <;> simp
theorem partW_le (n : Int) : (partW n).length ≤ 6 := by
  refine decDigits_le 5 _ ?_
  unfold partA
  split
  · rename_i h
    simp only [fitsB, Bool.and_eq_true, decide_eq_true_eq] at h
    omega
  · omega
theorem partR_le (n : Int) : (partR n).length ≤ 16 := fracL_le 16 _

set_option maxHeartbeats 1600000 in
set_option maxRecDepth 100000 in
theorem PrintReal_calls (n : Int) (w : World) : Calls Tryd.prog 30 #[.int .i64 n] w fun e w' => e = .returned (.string (asStr (realL n))) ∧ Below w.heap.size w w' := by
  have hS := partS_le n
  have hW := partW_le n
  have hR := partR_le n
  have hr : realL n = partS n ++ partW n ++ [46] ++ (if (partR n).isEmpty then [48] else partR n) := rfl
  have hp := parts_calls n w
  generalize realL n = R at *
  generalize partS n = s at *
  generalize partW n = wh at *
  generalize partR n = r at *
  have z1 : (asStr s).size ≤ 1 := by rw [asStr_size]; exact hS
  have z2 : (asStr wh).size ≤ 6 := by rw [asStr_size]; exact hW
  have z3 : (asStr r).size ≤ 16 := by rw [asStr_size]; exact hR
  cases r with
  | nil =>
    have hne : (asStr []).toList.isEmpty = true := by rw [Lib.toList_data]; rfl
    have HR := Lib.hid hr
    clear hr
    go_enter Tryd.func30, Tryd.ntmps30
    go_wp2_with fail
    refine hp.mono ?_
    rintro e w1 ⟨rfl, b1⟩
    have B1 := Lib.hid b1
    clear b1 hp
    go_wp2_with fail
    go_ret
    exact ⟨ret_str (by
      rw [HR.out]
      show asStr s ++ asStr wh ++ asStr [46] ++ asStr [48] = asStr (s ++ wh ++ [46] ++ [48])
      simp only [asStr_append]), B1.out⟩
  | cons c r =>
    have hne : (asStr (c :: r)).toList.isEmpty = false := by rw [Lib.toList_data]; rfl
    generalize hcr : c :: r = cr at *
    have hcr2 : cr.isEmpty = false := by rw [← hcr]; rfl
    rw [hcr2, if_neg Bool.false_ne_true] at hr
    have HR := Lib.hid hr
    clear hr hcr hcr2
    go_enter Tryd.func30, Tryd.ntmps30
    go_wp2_with fail
    refine hp.mono ?_
    rintro e w1 ⟨rfl, b1⟩
    have B1 := Lib.hid b1
    clear b1 hp
    go_wp2_with fail
    go_ret
    exact ⟨ret_str (by
      rw [HR.out]
      show asStr s ++ asStr wh ++ asStr [46] ++ asStr cr = asStr (s ++ wh ++ [46] ++ cr)
      simp only [asStr_append]), B1.out⟩

end Go.Proofs.YtkcdckcckpgliaaDoor
