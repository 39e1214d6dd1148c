/- The reference's Same and Texts as the machine runs them. -/
import Derived.Test.YtkcdckcckpgliaaDoorRd
import Derived.Outline
namespace Go.Proofs.YtkcdckcckpgliaaDoor
open Go.RowKit Go.Shelf

theorem below_drew' {n : Nat} {w w' : World} (h : Below n w w') : Below n w w'.drew := ⟨h.os, h.tape, h.output, h.size, h.block⟩
def eqL : List UInt8 → List UInt8 → Bool
  | [], [] => true
  | x :: a, y :: b => ((x.toNat : Int) == (y.toNat : Int)) && eqL a b
  | _, _ => false
def eqS : List ByteArray → List ByteArray → Bool
  | [], [] => true
  | x :: a, y :: b => (x.toList == y.toList) && eqS a b
  | _, _ => false
theorem eqL_len : ∀ a b, a.length ≠ b.length → eqL a b = false
  | [], [], h => absurd rfl h
  | [], _ :: _, _ => rfl
  | _ :: _, [], _ => rfl
  | x :: a, y :: b, h => by rw [eqL, eqL_len a b (by simpa using h), Bool.and_false]
theorem eqS_len : ∀ a b, a.length ≠ b.length → eqS a b = false
  | [], [], h => absurd rfl h
  | [], _ :: _, _ => rfl
  | _ :: _, [], _ => rfl
  | x :: a, y :: b, h => by rw [eqS, eqS_len a b (by simpa using h), Bool.and_false]
theorem eqL_step (a b : List UInt8) (i : Nat) (ha : i < a.length) (hb : i < b.length) : eqL (a.drop i) (b.drop i) = (((a[i].toNat : Int) == (b[i].toNat : Int)) && eqL (a.drop (i + 1)) (b.drop (i + 1))) := by
  rw [List.drop_eq_getElem_cons ha, List.drop_eq_getElem_cons hb]; rfl
theorem eqS_step (a b : List ByteArray) (i : Nat) (ha : i < a.length) (hb : i < b.length) : eqS (a.drop i) (b.drop i) = ((a[i].toList == b[i].toList) && eqS (a.drop (i + 1)) (b.drop (i + 1))) := by
  rw [List.drop_eq_getElem_cons ha, List.drop_eq_getElem_cons hb]; rfl
theorem cell_spot {w : World} {a : Addr} {v : Value} (h : w.cell? a = some v) : a.spot = none := by
  unfold World.cell? at h
  split at h
  · split at h
    · simp at h
    · rename_i h2; simpa using h2
  · simp at h
theorem BytesAt.elem {w : World} {A : Option Addr} {l : List UInt8} (h : BytesAt w A l) (i : Nat) (hi : i < l.length) : ∃ b off, A = some ⟨b, off, none⟩ ∧ w.cell? ⟨b, off + i, none⟩ = some (.int .u8 (l[i].toNat : Int)) := by
  obtain ⟨⟨ab, ao, sp⟩, ha, hc⟩ := h i (.int .u8 (l[i].toNat : Int)) (by simp [Lib.byteCells, hi])
  obtain ⟨a0, ha0, hc0⟩ := h 0 (.int .u8 ((l[0]'(by omega)).toNat : Int)) (by simp [Lib.byteCells, show 0 < l.length from by omega])
  rw [ha] at ha0
  cases ha0
  have hs := cell_spot hc0
  unfold Addr.add at hs
  rw [if_pos rfl] at hs
  simp only at hs
  subst hs
  rw [Lib.addr_add] at hc
  exact ⟨ab, ao, ha, hc⟩

set_option maxHeartbeats 1600000 in
set_option maxRecDepth 100000 in
theorem same_calls (a b : List UInt8) (A B : Option Addr) (ca cb : Nat) (w : World) (ha : BytesAt w A a) (hb : BytesAt w B b) (hal : a.length ≤ 140737488355328) (hbl : b.length ≤ 140737488355328) :
    Calls Tryd.prog 12 #[.slice A a.length ca, .slice B b.length cb] w fun e w' => e = .returned (.bool (eqL a b)) ∧ Below w.heap.size w w' := by
  have HA := Lib.hid (fun W (h : Below w.heap.size w W) => ha.keep h)
  have HB := Lib.hid (fun W (h : Below w.heap.size w W) => hb.keep h)
  clear ha hb
  by_cases hne : a.length = b.length
  rotate_left
  · have hr := eqL_len a b hne
    have HR := Lib.hid hr
    have hne' : ((a.length : Int) == b.length) = false := beq_eq_false_iff_ne.2 (by omega)
    clear hr
    go_enter Tryd.func12, Tryd.ntmps12
    go_wp2_with fail
    go_ret
    exact ⟨ret_bool HR.out.symm, Below.refl _ _⟩
  have hn1 : a.length ≤ b.length := by omega
  have hn2 : b.length ≤ a.length := by omega
  have HNE := Lib.hid hne
  clear hne
  generalize hr : eqL a b = R
  have HR0 : Hid (eqL (a.drop 0) (b.drop 0) = R) := hr
  clear hr
  have HB0 := Lib.hid (Below.refl w.heap.size w)
  go_enter Tryd.func12, Tryd.ntmps12
  go_wp2_with fail
  try (rename (a.length : Int) = (b.length : Int) => hq9; clear hq9)
  clear hn1 hn2
  go_loopw [5] (fun v wr => ∃ i : Nat, i ≤ a.length ∧ v = .int .i64 i ∧ Hid (eqL (a.drop i) (b.drop i) = R) ∧ Hid (Below w.heap.size w wr)) (fun v _ => a.length - (intOf v).toNat)
  case atStart => exact ⟨0, Nat.zero_le _, rfl, HR0, HB0⟩
  case round =>
    clear HR0 HB0
    obtain ⟨i, hi, rfl, hE, hw⟩ := hrel
    by_cases hlt : i < a.length
    · have hltb : i < b.length := by rw [← HNE.out]; exact hlt
      obtain ⟨ab, aoff, hA, hca⟩ := (HA.out wr hw.out).elem i hlt
      obtain ⟨bb, boff, hB, hcb⟩ := (HB.out wr hw.out).elem i hltb
      have hst := eqL_step a b i hlt hltb
      subst hA
      subst hB
      generalize a[i] = x at *
      generalize b[i] = y at *
      have HST := Lib.hid hst
      clear hst
      cases hxy : ((x.toNat : Int) == (y.toNat : Int)) with
      | false =>
        have HF : Hid (R = false) := by
          show R = false
          rw [← hE.out, HST.out, hxy]; rfl
        go_wp2_with fail
        go_region
        all_goals (
          go_wp2_with fail
          go_ret
          exact ⟨ret_bool HF.out.symm, below_drew' hw.out⟩)
      | true =>
        have HF : Hid (eqL (a.drop (i + 1)) (b.drop (i + 1)) = R) := by
          show _ = R
          rw [← hE.out, HST.out, hxy]; rfl
        have HW := Lib.hid (below_drew' hw.out)
        go_wp2_with fail
        go_region
        all_goals (
          go_wp2_with fail
          go_roundw
          case rel => exact ⟨i + 1, by omega, by go_num, HF, HW⟩
          case measure => simp [intOf]; omega)
    · obtain rfl : i = a.length := by omega
      have HF : Hid (R = true) := by
        show R = true
        rw [← hE.out, List.drop_of_length_le (Nat.le_refl _), List.drop_of_length_le (by rw [HNE.out]; exact Nat.le_refl _)]; rfl
      go_wp2_with fail
      go_ret
      exact ⟨ret_bool HF.out.symm, hw.out⟩

set_option maxHeartbeats 1600000 in
set_option maxRecDepth 100000 in
theorem texts_calls (a b : List ByteArray) (A B : Option Addr) (ca cb : Nat) (w : World) (ha : StrsAt w A a) (hb : StrsAt w B b) (hal : a.length ≤ 140737488355328) (hbl : b.length ≤ 140737488355328) :
    Calls Tryd.prog 24 #[.slice A a.length ca, .slice B b.length cb] w fun e w' => e = .returned (.bool (eqS a b)) ∧ Below w.heap.size w w' := by
  have HA := Lib.hid (fun W (h : Below w.heap.size w W) => ha.keep h)
  have HB := Lib.hid (fun W (h : Below w.heap.size w W) => hb.keep h)
  clear ha hb
  by_cases hne : a.length = b.length
  rotate_left
  · have hr := eqS_len a b hne
    have HR := Lib.hid hr
    have hne' : ((a.length : Int) == b.length) = false := beq_eq_false_iff_ne.2 (by omega)
    clear hr
    go_enter Tryd.func24, Tryd.ntmps24
    go_wp2_with fail
    go_ret
    exact ⟨ret_bool HR.out.symm, Below.refl _ _⟩
  have hn1 : a.length ≤ b.length := by omega
  have hn2 : b.length ≤ a.length := by omega
  have HNE := Lib.hid hne
  clear hne
  generalize hr : eqS a b = R
  have HR0 : Hid (eqS (a.drop 0) (b.drop 0) = R) := hr
  clear hr
  have HB0 := Lib.hid (Below.refl w.heap.size w)
  go_enter Tryd.func24, Tryd.ntmps24
  go_wp2_with fail
  try (rename (a.length : Int) = (b.length : Int) => hq9; clear hq9)
  clear hn1 hn2
  go_loopw [5] (fun v wr => ∃ i : Nat, i ≤ a.length ∧ v = .int .i64 i ∧ Hid (eqS (a.drop i) (b.drop i) = R) ∧ Hid (Below w.heap.size w wr)) (fun v _ => a.length - (intOf v).toNat)
  case atStart => exact ⟨0, Nat.zero_le _, rfl, HR0, HB0⟩
  case round =>
    clear HR0 HB0
    obtain ⟨i, hi, rfl, hE, hw⟩ := hrel
    by_cases hlt : i < a.length
    · have hltb : i < b.length := by rw [← HNE.out]; exact hlt
      obtain ⟨ab, aoff, hA, hca⟩ := (HA.out wr hw.out).elem i hlt
      obtain ⟨bb, boff, hB, hcb⟩ := (HB.out wr hw.out).elem i hltb
      have hst := eqS_step a b i hlt hltb
      subst hA
      subst hB
      generalize a[i] = x at *
      generalize b[i] = y at *
      have HST := Lib.hid hst
      clear hst
      cases hxy : (x.toList == y.toList) with
      | false =>
        have HF : Hid (R = false) := by
          show R = false
          rw [← hE.out, HST.out, hxy]; rfl
        go_wp2_with fail
        go_region
        all_goals (
          go_wp2_with fail
          go_ret
          exact ⟨ret_bool HF.out.symm, below_drew' hw.out⟩)
      | true =>
        have HF : Hid (eqS (a.drop (i + 1)) (b.drop (i + 1)) = R) := by
          show _ = R
          rw [← hE.out, HST.out, hxy]; rfl
        have HW := Lib.hid (below_drew' hw.out)
        go_wp2_with fail
        go_region
        all_goals (
          go_wp2_with fail
          go_roundw
          case rel => exact ⟨i + 1, by omega, by go_num, HF, HW⟩
          case measure => simp [intOf]; omega)
    · obtain rfl : i = a.length := by omega
      have HF : Hid (R = true) := by
        show R = true
        rw [← hE.out, List.drop_of_length_le (Nat.le_refl _), List.drop_of_length_le (by rw [HNE.out]; exact Nat.le_refl _)]; rfl
      go_wp2_with fail
      go_ret
      exact ⟨ret_bool HF.out.symm, hw.out⟩
end Go.Proofs.YtkcdckcckpgliaaDoor
