/- The law PobjNames as the machine runs it: true, for every two strings. -/
import Derived.Test.YtkcdckcckpgliaaDoorNames3W
namespace Go.Proofs.YtkcdckcckpgliaaDoor
open Go.RowKit Go.Shelf

theorem bytesAt_cell {w : World} {g : Nat} {l : List UInt8} (h : BytesAt w (some ⟨g, 0, none⟩) l) (i : Nat) (hi : i < l.length) : w.cell? ⟨g, i, none⟩ = some (.int .u8 (l[i].toNat : Int)) := by
  obtain ⟨a, ha, hc⟩ := h i (.int .u8 (l[i].toNat : Int)) (by simp [Lib.byteCells, hi])
  cases ha
  rw [Lib.addr_add, Nat.zero_add] at hc
  exact hc
theorem BytesAt.below {w w' : World} {g : Nat} {l : List UInt8} (h : BytesAt w (some ⟨g, 0, none⟩) l) (hg : g < w.heap.size) (hb : Below w.heap.size w w') : BytesAt w' (some ⟨g, 0, none⟩) l := by
  intro j v hj
  obtain ⟨a, ha, hc⟩ := h j v hj
  cases ha
  refine ⟨_, rfl, ?_⟩
  rw [hb.cell (by rw [Lib.block_add]; exact hg)]
  exact hc

set_option maxHeartbeats 1600000 in
set_option maxRecDepth 100000 in
theorem names_both (a b : ByteArray) (w : World) (ha : namedB a = true) (hb : namedB b = true) :
    Calls Tryd.prog 5 #[.string a, .string b] w fun e w' => e = .returned (.bool true) ∧ Below w.heap.size w w' := by
  have hPa := Print_name a w ha
  have hPb := fun W => Print_name b W hb
  go_enter Tryd.func5, Tryd.ntmps5
  go_wp2_with fail
  refine hPa.mono ?_
  rintro e w1 ⟨ga, ca, rfl, a1, a2, a3, a4, a5⟩
  have A1 := Lib.hid a1; have A2 := Lib.hid a2; have A5 := Lib.hid a5
  clear hPa a1 a2 a5
  go_wp2_with fail
  refine (hPb w1).mono ?_
  rintro e w2 ⟨gb, cb, rfl, b1, b2, b3, b4, b5⟩
  have B1 := Lib.hid b1; have B2 := Lib.hid b2; have B5 := Lib.hid b5
  have hs12 := b5.size
  clear hPb b1 b2 b5
  go_wp2_with fail
  refine (answers_calls w2).mono ?_
  rintro e w3 ⟨rfl, c5⟩
  have hA3 : BytesAt w3 (some ⟨ga, 0, none⟩) (nameL a.data.toList) := (A2.out.below a4 B5.out).below (by omega) c5
  have hB3 : BytesAt w3 (some ⟨gb, 0, none⟩) (nameL b.data.toList) := BytesAt.below B2.out b4 c5
  have hbel : Below w.heap.size w w3 := (A5.out.trans (B5.out.mono A5.out.size)).trans (c5.mono (by have := A5.out.size; omega))
  have hla := nameL_le a.data.toList
  have hlb := nameL_le b.data.toList
  have hsa : a.data.toList.length ≤ 127 := by
    rw [size_data]
    simp only [namedB, Bool.and_eq_true, decide_eq_true_eq] at ha
    exact ha.1.2
  have hreg := nameL_reg a.data.toList
  have hcell := bytesAt_cell hA3
  have h1l : 1 ≤ (nameL a.data.toList).length := by simp [nameL]
  have hx0 : (nameL a.data.toList)[0]'h1l = 47 := rfl
  have hcva := convert_back w3 _ ga ca _ rfl hA3
  have hcvb := convert_back w3 _ gb cb _ rfl hB3
  have hiff := nameL_iff a b
  generalize nameL a.data.toList = la at *
  generalize nameL b.data.toList = lb at *
  have HREG := Lib.hid hreg; have HCELL := Lib.hid hcell; have HBEL := Lib.hid hbel; have HIFF := Lib.hid hiff; have HX0 := Lib.hid hx0
  have hc0 : w3.cell? ⟨ga, 0, none⟩ = some (.int .u8 47) := by rw [hcell 0 h1l, hx0]; rfl
  clear hreg hcell hbel hiff hA3 hB3 A1 A2 A5 B1 B2 B5 c5 hx0
  go_wp2_with fail
  go_loop [9] (fun v => ∃ k : Nat, 1 ≤ k ∧ k ≤ la.length ∧ v = .int .i64 k) (fun v => la.length - (intOf v).toNat)
  case atStart => exact ⟨1, Nat.le_refl _, h1l, rfl⟩
  case round =>
    obtain ⟨k, hk1, hk, rfl⟩ := hrel
    by_cases hlt : k < la.length
    · have hc := HCELL.out k hlt
      obtain ⟨r1, r2⟩ := HREG.out k hk1 hlt
      generalize la[k] = c at hc r1 r2
      go_wp2_with (go_at_call 15; refine (Regular_calls c w3).mono ?_; rintro e w' ⟨rfl, rfl⟩)
      go_round
      case rel => exact ⟨k + 1, by omega, by omega, by go_num⟩
      case measure => simp [intOf]; omega
    · obtain rfl : k = la.length := by omega
      go_wp2
      go_ret
      refine ⟨ret_bool ?_, HBEL.out⟩
      have h := HIFF.out
      rw [Lib.toList_data, Lib.toList_data]
      by_cases e : a = b
      · have e1 := h.2 e
        subst e
        subst e1
        simp
      · have e1 : la ≠ lb := fun h2 => e (h.1 h2)
        have e2 : a.data.toList ≠ b.data.toList := fun h2 => e (ba_ext h2)
        rw [beq_eq_false_iff_ne.2 e1, beq_eq_false_iff_ne.2 e2]
        rfl

/-- A string is a name's text, or is none in one of three ways. -/
inductive Kind (s : ByteArray) : Prop where
  | good (h : namedB s = true)
  | short (h : namedB s = false) (h1 : (s.size : Int) < 1)
  | long (h : namedB s = false) (h1 : ¬ (s.size : Int) < 1) (h2 : 127 < (s.size : Int))
  | zero (h : namedB s = false) (h1 : ¬ (s.size : Int) < 1) (h2 : ¬ 127 < (s.size : Int)) (h3 : zeroB s = true)
theorem kind_of (s : ByteArray) : Kind s := by
  by_cases h : namedB s = true
  · exact .good h
  have h' : namedB s = false := by simpa using h
  by_cases h1 : (s.size : Int) < 1
  · exact .short h' h1
  by_cases h2 : 127 < (s.size : Int)
  · exact .long h' h1 h2
  rcases not_named s h' with h3 | h3 | h3
  · omega
  · omega
  · exact .zero h' h1 h2 h3
def errNo (s : ByteArray) : Int := if namedB s then 0 else 22
theorem errNo_yes (s : ByteArray) (h : namedB s = true) : errNo s = 0 := by rw [errNo, if_pos h]
theorem errNo_no (s : ByteArray) (h : namedB s = false) : errNo s = 22 := by rw [errNo, if_neg (by rw [h]; decide)]
/-- Print of any name: bytes or the error 22; old memory stands. -/
def Some2 (s : ByteArray) (w : World) (e : Ending) (w' : World) : Prop :=
  ∃ A n c, e = .returned (.tuple #[.slice A n c, .int .i64 (errNo s)]) ∧ Below w.heap.size w w'
theorem Print_name_any (s : ByteArray) (w : World) : Calls Tryd.prog 8 #[nameAgg s] w (Some2 s w) := by
  by_cases h : namedB s = true
  · refine (Print_name s w h).mono ?_
    rintro e w' ⟨g, c, rfl, -, -, -, -, hb⟩
    exact ⟨_, _, _, by rw [errNo, if_pos h], hb⟩
  · refine (Print_name_no s w (by simpa using h)).mono ?_
    rintro e w' ⟨rfl, hb⟩
    exact ⟨_, _, _, by rw [errNo, if_neg h], hb⟩
set_option maxHeartbeats 3200000 in
set_option maxRecDepth 100000 in
theorem names_no (a b : ByteArray) (w : World) (hsa : a.size ≤ 9223372036854775807) (hsb : b.size ≤ 9223372036854775807) (ha : Kind a) (hb : Kind b) (hn : ¬ (namedB a = true ∧ namedB b = true)) :
    Calls Tryd.prog 5 #[.string a, .string b] w fun e w' => e = .returned (.bool true) ∧ Below w.heap.size w w' := by
  have hPa := Print_name_any a w
  have hPb := fun W => Print_name_any b W
  have HNo := Lib.hid hn
  clear hn
  go_enter Tryd.func5, Tryd.ntmps5
  go_wp2_with fail
  refine hPa.mono ?_
  rintro e w1 ⟨A, n, c, rfl, a5⟩
  have A5 := Lib.hid a5
  clear hPa a5
  go_wp2_with fail
  refine (hPb w1).mono ?_
  rintro e w2 ⟨B, m, d, rfl, b5⟩
  have B5 := Lib.hid b5
  clear hPb b5
  have HA := Lib.hid ha
  have HBk := Lib.hid hb
  clear ha hb
  go_wp2_with fail
  refine (answers_calls w2).mono ?_
  rintro e w3 ⟨rfl, c5⟩
  have hbel : Below w.heap.size w w3 := (A5.out.trans (B5.out.mono A5.out.size)).trans (c5.mono (by have h1 := A5.out.size; have h2 := B5.out.size; omega))
  have HBEL := Lib.hid hbel
  clear A5 B5 c5 hbel
  have ha := HA.out
  have hb := HBk.out
  rcases ha with ha | ⟨ha, a1⟩ | ⟨ha, a1, a2⟩ | ⟨ha, a1, a2, a3⟩ <;> rcases hb with hb | ⟨hb, b1⟩ | ⟨hb, b1, b2⟩ | ⟨hb, b1, b2, b3⟩
  · exact absurd ⟨ha, hb⟩ HNo.out
  all_goals (
    first | rw [errNo_yes a ha] | rw [errNo_no a ha]
    first | rw [errNo_yes b hb] | rw [errNo_no b hb]
    go_wp2_with fail
    refine (answers_calls w3).mono ?_
    rintro e w4 ⟨rfl, c5⟩
    have HB4 := Lib.hid (HBEL.out.trans (c5.mono HBEL.out.size))
    clear c5
    go_wp2_with (go_at_call 14; refine (zero_calls _ _ ?_).mono ?_; (first | exact hsa | exact hsb); rintro e w5 ⟨rfl, rfl⟩)
    go_ret
    exact ⟨rfl, HB4.out⟩)
end Go.Proofs.YtkcdckcckpgliaaDoor
