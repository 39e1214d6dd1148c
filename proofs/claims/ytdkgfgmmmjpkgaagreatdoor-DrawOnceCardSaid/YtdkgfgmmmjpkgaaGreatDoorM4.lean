/-
  Lemmas, in their order: Points and segments compared, as the machine does it. · Rows of numbers, segments and clips compared, as the machine does it. · The writer's pens as the machine writes them. · pobj.Print of a PString. · The writer's letters as the machine writes them. · Rows of clips compared, as the machine does it.
-/
import Derived.BigQuiet
import Derived.Deep.QuietTactic
import Derived.Deep.RegionHeld3
import Derived.Deep.DeepCutAuto
import Derived.Deep.RegionLaw
import Derived.Deep.AppendLies
import Derived.Test.YtdkgfgmmmjpkgaaGreatDoorM3

namespace Go.Proofs.YtdkgfgmmmjpkgaaGreatDoor
open Go.RowKit

theorem fields_pt : (Tryz.prog.fieldsOf 54).toList.map (fun f => (f.name, f.type, f.offset)) = [("X", 3, 0), ("Y", 3, 1)] := by kernel_rfl
theorem under_pt : Tryz.prog.underlying 54 = some (.struct (Tryz.prog.fieldsOf 54)) := by kernel_rfl
theorem held_pt : Tryz.prog.stoodInHeld 54 = false := by kernel_rfl
theorem fieldsL_pt : ∃ f g : Field, (Tryz.prog.fieldsOf 54).toList = [f, g] ∧ f.name ≠ "_" ∧ g.name ≠ "_" ∧ f.type = 3 ∧ g.type = 3 ∧ f.offset = 0 ∧ g.offset = 1 := by
  obtain ⟨f, g, h, hf, hg⟩ := two_of_map fields_pt
  simp only [Prod.mk.injEq] at hf hg
  exact ⟨f, g, h, by rw [hf.1]; decide, by rw [hg.1]; decide, hf.2.1, hg.2.1, hf.2.2, hg.2.2⟩
set_option maxRecDepth 100000 in
theorem eq_pt (d : Nat) (a0 a1 b0 b1 : Int) (w : World) :
    (Op.equalIn (d + 2) 54 (.agg #[.int .i64 a0, .int .i64 a1]) (.agg #[.int .i64 b0, .int .i64 b1])).run Tryz.prog w = .ok (a0 == b0 && a1 == b1) w := by
  rw [run_equalIn_struct w (d + 1) _ _ _ under_pt held_pt]
  obtain ⟨f, g, hfs, hf, hg, hft, hgt, hfo, hgo⟩ := fieldsL_pt
  rw [hfs]
  have e0 : ∀ (x0 x1 : Int), (part 3 #[.int .i64 x0, .int .i64 x1] 0).run Tryz.prog w = .ok (.int .i64 x0) w := fun x0 x1 => part_int _ 0 x0 w rfl
  have e1 : ∀ (x0 x1 : Int), (part 3 #[.int .i64 x0, .int .i64 x1] 1).run Tryz.prog w = .ok (.int .i64 x1) w := fun x0 x1 => part_int _ 1 x1 w rfl
  simp only [Op.eqFields, hf, hg, hft, hgt, hfo, hgo, ne_eq, not_false_eq_true, if_true, Sem.run_bind, e0, eq_int, Result.andThen_ok]
  by_cases h0 : a0 = b0
  · subst h0
    cases hh : (a1 == b1) <;> simp [hh, e1, eq_int]
  · have : (a0 == b0) = false := beq_eq_false_iff_ne.2 h0
    simp [this]
theorem neq_pt (a0 a1 b0 b1 : Int) (w : World) : (binOp .neq 54 (.agg #[.int .i64 a0, .int .i64 a1]) (.agg #[.int .i64 b0, .int .i64 b1])).run Tryz.prog w = .ok (.bool (!(a0 == b0 && a1 == b1))) w := by
  rw [run_neq_struct, eq_pt 9998]
  rfl
theorem size_pt : (Tryz.prog.info? 54).map (fun i => i.size) = some 2 := by kernel_rfl
set_option maxRecDepth 100000 in
theorem eq_pts (d : Nat) (a0 a1 a2 a3 a4 a5 b0 b1 b2 b3 b4 b5 : Int) (w : World) :
    (Op.equalIn (d + 3) 55 (.agg #[.int .i64 a0, .int .i64 a1, .int .i64 a2, .int .i64 a3, .int .i64 a4, .int .i64 a5]) (.agg #[.int .i64 b0, .int .i64 b1, .int .i64 b2, .int .i64 b3, .int .i64 b4, .int .i64 b5])).run Tryz.prog w = .ok (a0 == b0 && (a1 == b1 && (a2 == b2 && (a3 == b3 && (a4 == b4 && a5 == b5))))) w := by
  obtain ⟨i, hi, -⟩ := Option.map_eq_some_iff.1 size_pt
  rw [run_equalIn_array (w := w) (d + 2) _ _ Tryz.underlying55 hi, cellsPt]
  have e : ∀ (k : Nat) (cs : Array Value) (x y : Value), cs.extract k (k + 2) = #[x, y] → (part 54 cs k).run Tryz.prog w = .ok (.agg #[x, y]) w := fun k cs x y h => by
    simp only [part, Sem.run_bind, Tryz.isAgg54, Result.andThen_ok, if_true, run_sizeOf w hi, cellsPt]
    rw [h]
    rfl
  have e0 : ∀ x0 x1 x2 x3 x4 x5 : Value, (part 54 #[x0, x1, x2, x3, x4, x5] (0 * 2)).run Tryz.prog w = .ok (.agg #[x0, x1]) w := fun x0 x1 x2 x3 x4 x5 => e 0 _ _ _ rfl
  have e1 : ∀ x0 x1 x2 x3 x4 x5 : Value, (part 54 #[x0, x1, x2, x3, x4, x5] (1 * 2)).run Tryz.prog w = .ok (.agg #[x2, x3]) w := fun x0 x1 x2 x3 x4 x5 => e 2 _ _ _ rfl
  have e2 : ∀ x0 x1 x2 x3 x4 x5 : Value, (part 54 #[x0, x1, x2, x3, x4, x5] (2 * 2)).run Tryz.prog w = .ok (.agg #[x4, x5]) w := fun x0 x1 x2 x3 x4 x5 => e 4 _ _ _ rfl
  show (Op.eqItems _ _ _ _ _ [0, 1, 2]).run Tryz.prog w = _
  have hr : (a0 == b0 && (a1 == b1 && (a2 == b2 && (a3 == b3 && (a4 == b4 && a5 == b5))))) = ((a0 == b0 && a1 == b1) && ((a2 == b2 && a3 == b3) && (a4 == b4 && a5 == b5))) := by simp only [Bool.and_assoc]
  rw [hr]
  have p0 := eq_pt d a0 a1 b0 b1 w
  have p1 := eq_pt d a2 a3 b2 b3 w
  have p2 := eq_pt d a4 a5 b4 b5 w
  generalize (a0 == b0 && a1 == b1) = r0 at *
  generalize (a2 == b2 && a3 == b3) = r1 at *
  generalize (a4 == b4 && a5 == b5) = r2 at *
  cases r0 <;> cases r1 <;> cases r2 <;> simp [Op.eqItems, e0, e1, e2, p0, p1, p2]
theorem fields_seg : (Tryz.prog.fieldsOf 57).toList.map (fun f => (f.name, f.type, f.offset)) = [("Kind", 3, 0), ("P", 55, 1)] := by kernel_rfl
theorem under_seg : Tryz.prog.underlying 57 = some (.struct (Tryz.prog.fieldsOf 57)) := by kernel_rfl
theorem held_seg : Tryz.prog.stoodInHeld 57 = false := by kernel_rfl
theorem fieldsL_seg : ∃ f g : Field, (Tryz.prog.fieldsOf 57).toList = [f, g] ∧ f.name ≠ "_" ∧ g.name ≠ "_" ∧ f.type = 3 ∧ g.type = 55 ∧ f.offset = 0 ∧ g.offset = 1 := by
  obtain ⟨f, g, h, hf, hg⟩ := two_of_map fields_seg
  simp only [Prod.mk.injEq] at hf hg
  exact ⟨f, g, h, by rw [hf.1]; decide, by rw [hg.1]; decide, hf.2.1, hg.2.1, hf.2.2, hg.2.2⟩
theorem size_pts : (Tryz.prog.info? 55).map (fun i => i.size) = some 6 := by kernel_rfl
set_option maxRecDepth 100000 in
theorem eq_seg (d : Nat) (ka a0 a1 a2 a3 a4 a5 kb b0 b1 b2 b3 b4 b5 : Int) (w : World) :
    (Op.equalIn (d + 4) 57 (.agg #[.int .i64 ka, .int .i64 a0, .int .i64 a1, .int .i64 a2, .int .i64 a3, .int .i64 a4, .int .i64 a5]) (.agg #[.int .i64 kb, .int .i64 b0, .int .i64 b1, .int .i64 b2, .int .i64 b3, .int .i64 b4, .int .i64 b5])).run Tryz.prog w = .ok (eqSeg ⟨ka, a0, a1, a2, a3, a4, a5⟩ ⟨kb, b0, b1, b2, b3, b4, b5⟩) w := by
  obtain ⟨i, hi, -⟩ := Option.map_eq_some_iff.1 size_pts
  rw [run_equalIn_struct w (d + 3) _ _ _ under_seg held_seg]
  obtain ⟨f, g, hfs, hf, hg, hft, hgt, hfo, hgo⟩ := fieldsL_seg
  rw [hfs]
  have e1 : ∀ x0 x1 x2 x3 x4 x5 x6 : Value, (part 55 #[x0, x1, x2, x3, x4, x5, x6] 1).run Tryz.prog w = .ok (.agg #[x1, x2, x3, x4, x5, x6]) w := fun x0 x1 x2 x3 x4 x5 x6 => by
    simp only [part, Sem.run_bind, Tryz.isAgg55, Result.andThen_ok, if_true, run_sizeOf w hi]
    rfl
  have e0 : ∀ (x0 : Int) (x1 x2 x3 x4 x5 x6 : Value), (part 3 #[.int .i64 x0, x1, x2, x3, x4, x5, x6] 0).run Tryz.prog w = .ok (.int .i64 x0) w := fun x0 x1 x2 x3 x4 x5 x6 => part_int _ 0 x0 w rfl
  have hp := eq_pts d a0 a1 a2 a3 a4 a5 b0 b1 b2 b3 b4 b5 w
  unfold eqSeg
  generalize (a0 == b0 && (a1 == b1 && (a2 == b2 && (a3 == b3 && (a4 == b4 && a5 == b5))))) = r at *
  simp only [Op.eqFields, hf, hg, hft, hgt, hfo, hgo, ne_eq, not_false_eq_true, if_true, Sem.run_bind, e0, eq_int, Result.andThen_ok]
  by_cases h0 : ka = kb
  · subst h0
    cases r <;> simp [e1, hp]
  · have : (ka == kb) = false := beq_eq_false_iff_ne.2 h0
    simp [this]
theorem neq_seg (ka a0 a1 a2 a3 a4 a5 kb b0 b1 b2 b3 b4 b5 : Int) (w : World) :
    (binOp .neq 57 (.agg #[.int .i64 ka, .int .i64 a0, .int .i64 a1, .int .i64 a2, .int .i64 a3, .int .i64 a4, .int .i64 a5]) (.agg #[.int .i64 kb, .int .i64 b0, .int .i64 b1, .int .i64 b2, .int .i64 b3, .int .i64 b4, .int .i64 b5])).run Tryz.prog w = .ok (.bool (!(eqSeg ⟨ka, a0, a1, a2, a3, a4, a5⟩ ⟨kb, b0, b1, b2, b3, b4, b5⟩))) w := by
  rw [run_neq_struct, eq_seg 9996]
  rfl
theorem infoI2 : (Tryz.prog.info? 3).map (fun i => i.size) = some 1 := by kernel_rfl
set_option maxRecDepth 100000 in
/-- Six numbers compared. -/
theorem neq_arr6 (a0 a1 a2 a3 a4 a5 b0 b1 b2 b3 b4 b5 : Int) (w : World) :
    (binOp .neq 48 (.agg #[.int .i64 a0, .int .i64 a1, .int .i64 a2, .int .i64 a3, .int .i64 a4, .int .i64 a5]) (.agg #[.int .i64 b0, .int .i64 b1, .int .i64 b2, .int .i64 b3, .int .i64 b4, .int .i64 b5])).run Tryz.prog w = .ok (.bool (!(a0 == b0 && (a1 == b1 && (a2 == b2 && (a3 == b3 && (a4 == b4 && a5 == b5))))))) w := by
  obtain ⟨i, hi, -⟩ := Option.map_eq_some_iff.1 infoI2
  rw [run_neq_struct, run_equalIn_array (w := w) 9999 _ _ Tryz.underlying48 hi, cellsI']
  rw [items_ints 9998 _ _ w (List.range 6) [a0, a1, a2, a3, a4, a5] [b0, b1, b2, b3, b4, b5] rfl rfl (fun j i a hj ha => ?_) (fun j i a hj ha => ?_)]
  · simp [List.all]
  · match j, hj, ha with
    | 0, hj, ha | 1, hj, ha | 2, hj, ha | 3, hj, ha | 4, hj, ha | 5, hj, ha => cases hj; cases ha; rfl
  · match j, hj, ha with
    | 0, hj, ha | 1, hj, ha | 2, hj, ha | 3, hj, ha | 4, hj, ha | 5, hj, ha => cases hj; cases ha; rfl
end Go.Proofs.YtdkgfgmmmjpkgaaGreatDoor

namespace Go.Proofs.YtdkgfgmmmjpkgaaGreatDoor
open Go.RowKit Go.Shelf

theorem eqInts_len : ∀ a b : List Int, a.length ≠ b.length → eqInts a b = false
  | [], [], h => absurd rfl h
  | [], _ :: _, _ => rfl
  | _ :: _, [], _ => rfl
  | x :: a, y :: b, h => by rw [eqInts, eqInts_len a b (by simpa using h), Bool.and_false]
theorem eqInts_step (a b : List Int) (i : Nat) (ha : i < a.length) (hb : i < b.length) : eqInts (a.drop i) (b.drop i) = ((a[i] == b[i]) && eqInts (a.drop (i + 1)) (b.drop (i + 1))) := by
  rw [List.drop_eq_getElem_cons ha, List.drop_eq_getElem_cons hb]; rfl
theorem eqPath_len : ∀ a b : List SegP, a.length ≠ b.length → eqPath a b = false
  | [], [], h => absurd rfl h
  | [], _ :: _, _ => rfl
  | _ :: _, [], _ => rfl
  | x :: a, y :: b, h => by rw [eqPath, eqPath_len a b (by simpa using h), Bool.and_false]
theorem eqPath_step (a b : List SegP) (i : Nat) (ha : i < a.length) (hb : i < b.length) : eqPath (a.drop i) (b.drop i) = (eqSeg a[i] b[i] && eqPath (a.drop (i + 1)) (b.drop (i + 1))) := by
  rw [List.drop_eq_getElem_cons ha, List.drop_eq_getElem_cons hb]; rfl
theorem eqClips_len : ∀ a b : List ClipP, a.length ≠ b.length → eqClips a b = false
  | [], [], h => absurd rfl h
  | [], _ :: _, _ => rfl
  | _ :: _, [], _ => rfl
  | x :: a, y :: b, h => by rw [eqClips, eqClips_len a b (by simpa using h), Bool.and_false]
theorem eqClips_step (a b : List ClipP) (i : Nat) (ha : i < a.length) (hb : i < b.length) : eqClips (a.drop i) (b.drop i) = (eqClip a[i] b[i] && eqClips (a.drop (i + 1)) (b.drop (i + 1))) := by
  rw [List.drop_eq_getElem_cons ha, List.drop_eq_getElem_cons hb]; rfl
set_option maxHeartbeats 1600000 in
set_option maxRecDepth 100000 in
theorem rInts_calls (a b : List Int) (A B : Option Addr) (ca cb : Nat) (w : World) (ha : IntsAt w A a) (hb : IntsAt w B b) (hal : a.length ≤ maxLen) (_hbl : b.length ≤ maxLen) :
    Calls Tryz.prog 14 #[.slice A a.length ca, .slice B b.length cb] w fun e w' => e = .returned (.bool (eqInts a b)) ∧ Below w.heap.size w w' := by
  unfold maxLen at hal
  have HA := Lib.hid (fun W (h : Below w.heap.size w W) => ha.keep h)
  have HB := Lib.hid (fun W (h : Below w.heap.size w W) => hb.keep h)
  clear ha hb
  by_cases hne : a.length = b.length
  rotate_left
  · have hr := eqInts_len a b hne
    have HR := Lib.hid hr
    have hne' : ((a.length : Int) == b.length) = false := beq_eq_false_iff_ne.2 (by omega)
    clear hr
    go_enter Tryz.func14, Tryz.ntmps14
    go_wp2_with fail
    go_ret
    exact ⟨ret_bool HR.out.symm, Below.refl _ _⟩
  have hn1 : a.length ≤ b.length := by omega
  have hn2 : b.length ≤ a.length := by omega
  have HNE := Lib.hid hne
  clear hne
  generalize hr : eqInts a b = R
  have HR0 : Hid (eqInts (a.drop 0) (b.drop 0) = R) := hr
  clear hr
  have HB0 := Lib.hid (Below.refl w.heap.size w)
  go_enter Tryz.func14, Tryz.ntmps14
  go_wp2_with fail
  try (rename (a.length : Int) = (b.length : Int) => hq9; clear hq9)
  clear hn1 hn2
  go_loopw [5] (fun v wr => ∃ i : Nat, i ≤ a.length ∧ v = .int .i64 i ∧ Hid (eqInts (a.drop i) (b.drop i) = R) ∧ Hid (Below w.heap.size w wr)) (fun v _ => a.length - (intOf v).toNat)
  case atStart => exact ⟨0, Nat.zero_le _, rfl, HR0, HB0⟩
  case round =>
    clear HR0 HB0
    obtain ⟨i, hi, rfl, hE, hw⟩ := hrel
    by_cases hlt : i < a.length
    · have hltb : i < b.length := by rw [← HNE.out]; exact hlt
      obtain ⟨ab, aoff, hA, hca⟩ := (HA.out wr hw.out).elem i hlt
      obtain ⟨bb, boff, hB, hcb⟩ := (HB.out wr hw.out).elem i hltb
      have hst := eqInts_step a b i hlt hltb
      subst hA
      subst hB
      generalize a[i] = x at *
      generalize b[i] = y at *
      have HST := Lib.hid hst
      clear hst
      cases hxy : (x == y) with
      | false =>
        have HF : Hid (R = false) := by
          show R = false
          rw [← hE.out, HST.out, hxy]; rfl
        go_wp2_with fail
        go_quiet (fail)
        go_wp2_with fail
        go_ret
        exact ⟨ret_bool HF.out.symm, below_drewN hw.out nq⟩
      | true =>
        have HF : Hid (eqInts (a.drop (i + 1)) (b.drop (i + 1)) = R) := by
          show _ = R
          rw [← hE.out, HST.out, hxy]; rfl
        have HW := Lib.hid (fun n => below_drewN hw.out n)
        go_wp2_with fail
        go_quiet (fail)
        go_wp2_with fail
        go_roundw
        case rel => exact ⟨i + 1, by omega, by go_num, HF, HW.out nq⟩
        case measure => simp [intOf]; omega
    · obtain rfl : i = a.length := by omega
      have HF : Hid (R = true) := by
        show R = true
        rw [← hE.out, List.drop_of_length_le (Nat.le_refl _), List.drop_of_length_le (by rw [HNE.out]; exact Nat.le_refl _)]; rfl
      go_wp2_with fail
      go_ret
      exact ⟨ret_bool HF.out.symm, hw.out⟩
set_option maxHeartbeats 1600000 in
set_option maxRecDepth 100000 in
theorem equalInts_calls (a b : List Int) (A B : Option Addr) (ca cb : Nat) (w : World) (ha : IntsAt w A a) (hb : IntsAt w B b) (hal : a.length ≤ maxLen) (_hbl : b.length ≤ maxLen) :
    Calls Tryz.prog 79 #[.slice A a.length ca, .slice B b.length cb] w fun e w' => e = .returned (.bool (eqInts a b)) ∧ Below w.heap.size w w' := by
  unfold maxLen at hal
  have HA := Lib.hid (fun W (h : Below w.heap.size w W) => ha.keep h)
  have HB := Lib.hid (fun W (h : Below w.heap.size w W) => hb.keep h)
  clear ha hb
  by_cases hne : a.length = b.length
  rotate_left
  · have hr := eqInts_len a b hne
    have HR := Lib.hid hr
    have hne' : ((a.length : Int) == b.length) = false := beq_eq_false_iff_ne.2 (by omega)
    clear hr
    go_enter Tryz.func79, Tryz.ntmps79
    go_wp2_with fail
    go_ret
    exact ⟨ret_bool HR.out.symm, Below.refl _ _⟩
  have hn1 : a.length ≤ b.length := by omega
  have hn2 : b.length ≤ a.length := by omega
  have HNE := Lib.hid hne
  clear hne
  generalize hr : eqInts a b = R
  have HR0 : Hid (eqInts (a.drop 0) (b.drop 0) = R) := hr
  clear hr
  have HB0 := Lib.hid (Below.refl w.heap.size w)
  go_enter Tryz.func79, Tryz.ntmps79
  go_wp2_with fail
  try (rename (a.length : Int) = (b.length : Int) => hq9; clear hq9)
  clear hn1 hn2
  go_loopw [5, 13] (fun _ v wr => ∃ i : Nat, i ≤ a.length ∧ v = .int .i64 i ∧ Hid (eqInts (a.drop i) (b.drop i) = R) ∧ Hid (Below w.heap.size w wr)) (fun _ v _ => a.length - (intOf v).toNat)
  case atStart => exact ⟨0, Nat.zero_le _, rfl, HR0, HB0⟩
  case round =>
    clear HR0 HB0
    obtain ⟨i, hi, rfl, hE, hw⟩ := hrel
    by_cases hlt : i < a.length
    · have hltb : i < b.length := by rw [← HNE.out]; exact hlt
      obtain ⟨ab, aoff, hA, hca⟩ := (HA.out wr hw.out).elem i hlt
      obtain ⟨bb, boff, hB, hcb⟩ := (HB.out wr hw.out).elem i hltb
      have hst := eqInts_step a b i hlt hltb
      subst hA
      subst hB
      generalize a[i] = x at *
      generalize b[i] = y at *
      have HST := Lib.hid hst
      clear hst
      cases hxy : (x == y) with
      | false =>
        have HF : Hid (R = false) := by
          show R = false
          rw [← hE.out, HST.out, hxy]; rfl
        go_wp2_with fail
        go_quiet (fail)
        go_wp2_with fail
        go_ret
        exact ⟨ret_bool HF.out.symm, below_drewN hw.out nq⟩
      | true =>
        have HF : Hid (eqInts (a.drop (i + 1)) (b.drop (i + 1)) = R) := by
          show _ = R
          rw [← hE.out, HST.out, hxy]; rfl
        have HW := Lib.hid (fun n => below_drewN hw.out n)
        go_wp2_with fail
        go_quiet (fail)
        go_wp2_with fail
        go_roundw
        case rel => exact ⟨i + 1, by omega, by go_num, HF, HW.out nq⟩
        case measure => simp [intOf]; omega
    · obtain rfl : i = a.length := by omega
      have HF : Hid (R = true) := by
        show R = true
        rw [← hE.out, List.drop_of_length_le (Nat.le_refl _), List.drop_of_length_le (by rw [HNE.out]; exact Nat.le_refl _)]; rfl
      go_wp2_with fail
      go_ret
      exact ⟨ret_bool HF.out.symm, hw.out⟩
set_option maxHeartbeats 1600000 in
set_option maxRecDepth 100000 in
theorem rSegs_calls (a b : List SegP) (A B : Option Addr) (ca cb : Nat) (w : World) (ha : PathAt w A a) (hb : PathAt w B b) (hal : a.length ≤ maxLen) (_hbl : b.length ≤ maxLen) :
    Calls Tryz.prog 56 #[.slice A a.length ca, .slice B b.length cb] w fun e w' => e = .returned (.bool (eqPath a b)) ∧ Below w.heap.size w w' := by
  unfold maxLen at hal
  have HA := Lib.hid (fun W (h : Below w.heap.size w W) => ha.keep h)
  have HB := Lib.hid (fun W (h : Below w.heap.size w W) => hb.keep h)
  clear ha hb
  by_cases hne : a.length = b.length
  rotate_left
  · have hr := eqPath_len a b hne
    have HR := Lib.hid hr
    have hne' : ((a.length : Int) == b.length) = false := beq_eq_false_iff_ne.2 (by omega)
    clear hr
    go_enter Tryz.func56, Tryz.ntmps56
    go_wp2_with fail
    go_ret
    exact ⟨ret_bool HR.out.symm, Below.refl _ _⟩
  have hn1 : a.length ≤ b.length := by omega
  have hn2 : b.length ≤ a.length := by omega
  have HNE := Lib.hid hne
  clear hne
  generalize hr : eqPath a b = R
  have HR0 : Hid (eqPath (a.drop 0) (b.drop 0) = R) := hr
  clear hr
  have HB0 := Lib.hid (Below.refl w.heap.size w)
  go_enter Tryz.func56, Tryz.ntmps56
  go_wp2_with fail
  try (rename (a.length : Int) = (b.length : Int) => hq9; clear hq9)
  clear hn1 hn2
  go_loopw [5] (fun v wr => ∃ i : Nat, i ≤ a.length ∧ v = .int .i64 i ∧ Hid (eqPath (a.drop i) (b.drop i) = R) ∧ Hid (Below w.heap.size w wr)) (fun v _ => a.length - (intOf v).toNat)
  case atStart => exact ⟨0, Nat.zero_le _, rfl, HR0, HB0⟩
  case round =>
    clear HR0 HB0
    obtain ⟨i, hi, rfl, hE, hw⟩ := hrel
    by_cases hlt : i < a.length
    · have hltb : i < b.length := by rw [← HNE.out]; exact hlt
      obtain ⟨ab, aoff, hA, hca⟩ := (HA.out wr hw.out).elem i hlt
      obtain ⟨bb, boff, hB, hcb⟩ := (HB.out wr hw.out).elem i hltb
      have hst := eqPath_step a b i hlt hltb
      subst hA
      subst hB
      generalize a[i] = x at *
      generalize b[i] = y at *
      have HST := Lib.hid hst
      clear hst
      obtain ⟨xk, x0, x1, x2, x3, x4, x5⟩ := x
      obtain ⟨yk, y0, y1, y2, y3, y4, y5⟩ := y
      have HNS := fun W : World => neq_seg xk x0 x1 x2 x3 x4 x5 yk y0 y1 y2 y3 y4 y5 W
      have c0 := hca 0 (.int .i64 xk) rfl
      have d0 := hcb 0 (.int .i64 yk) rfl
      have c1 := hca 1 (.int .i64 x0) rfl
      have d1 := hcb 1 (.int .i64 y0) rfl
      have c2 := hca 2 (.int .i64 x1) rfl
      have d2 := hcb 2 (.int .i64 y1) rfl
      have c3 := hca 3 (.int .i64 x2) rfl
      have d3 := hcb 3 (.int .i64 y2) rfl
      have c4 := hca 4 (.int .i64 x3) rfl
      have d4 := hcb 4 (.int .i64 y3) rfl
      have c5 := hca 5 (.int .i64 x4) rfl
      have d5 := hcb 5 (.int .i64 y4) rfl
      have c6 := hca 6 (.int .i64 x5) rfl
      have d6 := hcb 6 (.int .i64 y5) rfl
      simp only [Nat.add_zero] at c0 d0
      generalize eqSeg ⟨xk, x0, x1, x2, x3, x4, x5⟩ ⟨yk, y0, y1, y2, y3, y4, y5⟩ = r at *
      clear hca hcb
      cases r with
      | false =>
        have HF : Hid (R = false) := by
          show R = false
          rw [← hE.out, HST.out]; rfl
        go_wp2_with fail
        go_quiet (fail)
        go_wp2_with fail
        go_ret
        exact ⟨ret_bool HF.out.symm, below_drewN hw.out nq⟩
      | true =>
        have HF : Hid (eqPath (a.drop (i + 1)) (b.drop (i + 1)) = R) := by
          show _ = R
          rw [← hE.out, HST.out]; rfl
        have HW := Lib.hid (fun n => below_drewN hw.out n)
        go_wp2_with fail
        go_quiet (fail)
        go_wp2_with fail
        go_roundw
        case rel => exact ⟨i + 1, by omega, by go_num, HF, HW.out nq⟩
        case measure => simp [intOf]; omega
    · obtain rfl : i = a.length := by omega
      have HF : Hid (R = true) := by
        show R = true
        rw [← hE.out, List.drop_of_length_le (Nat.le_refl _), List.drop_of_length_le (by rw [HNE.out]; exact Nat.le_refl _)]; rfl
      go_wp2_with fail
      go_ret
      exact ⟨ret_bool HF.out.symm, hw.out⟩
set_option maxHeartbeats 1600000 in
set_option maxRecDepth 100000 in
theorem equalSegs_calls (a b : List SegP) (A B : Option Addr) (ca cb : Nat) (w : World) (ha : PathAt w A a) (hb : PathAt w B b) (hal : a.length ≤ maxLen) (_hbl : b.length ≤ maxLen) :
    Calls Tryz.prog 117 #[.slice A a.length ca, .slice B b.length cb] w fun e w' => e = .returned (.bool (eqPath a b)) ∧ Below w.heap.size w w' := by
  unfold maxLen at hal
  have HA := Lib.hid (fun W (h : Below w.heap.size w W) => ha.keep h)
  have HB := Lib.hid (fun W (h : Below w.heap.size w W) => hb.keep h)
  clear ha hb
  by_cases hne : a.length = b.length
  rotate_left
  · have hr := eqPath_len a b hne
    have HR := Lib.hid hr
    have hne' : ((a.length : Int) == b.length) = false := beq_eq_false_iff_ne.2 (by omega)
    clear hr
    go_enter Tryz.func117, Tryz.ntmps117
    go_wp2_with fail
    go_ret
    exact ⟨ret_bool HR.out.symm, Below.refl _ _⟩
  have hn1 : a.length ≤ b.length := by omega
  have hn2 : b.length ≤ a.length := by omega
  have HNE := Lib.hid hne
  clear hne
  generalize hr : eqPath a b = R
  have HR0 : Hid (eqPath (a.drop 0) (b.drop 0) = R) := hr
  clear hr
  have HB0 := Lib.hid (Below.refl w.heap.size w)
  go_enter Tryz.func117, Tryz.ntmps117
  go_wp2_with fail
  try (rename (a.length : Int) = (b.length : Int) => hq9; clear hq9)
  clear hn1 hn2
  go_loopw [5, 13] (fun _ v wr => ∃ i : Nat, i ≤ a.length ∧ v = .int .i64 i ∧ Hid (eqPath (a.drop i) (b.drop i) = R) ∧ Hid (Below w.heap.size w wr)) (fun _ v _ => a.length - (intOf v).toNat)
  case atStart => exact ⟨0, Nat.zero_le _, rfl, HR0, HB0⟩
  case round =>
    clear HR0 HB0
    obtain ⟨i, hi, rfl, hE, hw⟩ := hrel
    by_cases hlt : i < a.length
    · have hltb : i < b.length := by rw [← HNE.out]; exact hlt
      obtain ⟨ab, aoff, hA, hca⟩ := (HA.out wr hw.out).elem i hlt
      obtain ⟨bb, boff, hB, hcb⟩ := (HB.out wr hw.out).elem i hltb
      have hst := eqPath_step a b i hlt hltb
      subst hA
      subst hB
      generalize a[i] = x at *
      generalize b[i] = y at *
      have HST := Lib.hid hst
      clear hst
      obtain ⟨xk, x0, x1, x2, x3, x4, x5⟩ := x
      obtain ⟨yk, y0, y1, y2, y3, y4, y5⟩ := y
      have HNS := fun W : World => neq_seg xk x0 x1 x2 x3 x4 x5 yk y0 y1 y2 y3 y4 y5 W
      have c0 := hca 0 (.int .i64 xk) rfl
      have d0 := hcb 0 (.int .i64 yk) rfl
      have c1 := hca 1 (.int .i64 x0) rfl
      have d1 := hcb 1 (.int .i64 y0) rfl
      have c2 := hca 2 (.int .i64 x1) rfl
      have d2 := hcb 2 (.int .i64 y1) rfl
      have c3 := hca 3 (.int .i64 x2) rfl
      have d3 := hcb 3 (.int .i64 y2) rfl
      have c4 := hca 4 (.int .i64 x3) rfl
      have d4 := hcb 4 (.int .i64 y3) rfl
      have c5 := hca 5 (.int .i64 x4) rfl
      have d5 := hcb 5 (.int .i64 y4) rfl
      have c6 := hca 6 (.int .i64 x5) rfl
      have d6 := hcb 6 (.int .i64 y5) rfl
      simp only [Nat.add_zero] at c0 d0
      generalize eqSeg ⟨xk, x0, x1, x2, x3, x4, x5⟩ ⟨yk, y0, y1, y2, y3, y4, y5⟩ = r at *
      clear hca hcb
      cases r with
      | false =>
        have HF : Hid (R = false) := by
          show R = false
          rw [← hE.out, HST.out]; rfl
        go_wp2_with fail
        go_quiet (fail)
        go_wp2_with fail
        go_ret
        exact ⟨ret_bool HF.out.symm, below_drewN hw.out nq⟩
      | true =>
        have HF : Hid (eqPath (a.drop (i + 1)) (b.drop (i + 1)) = R) := by
          show _ = R
          rw [← hE.out, HST.out]; rfl
        have HW := Lib.hid (fun n => below_drewN hw.out n)
        go_wp2_with fail
        go_quiet (fail)
        go_wp2_with fail
        go_roundw
        case rel => exact ⟨i + 1, by omega, by go_num, HF, HW.out nq⟩
        case measure => simp [intOf]; omega
    · obtain rfl : i = a.length := by omega
      have HF : Hid (R = true) := by
        show R = true
        rw [← hE.out, List.drop_of_length_le (Nat.le_refl _), List.drop_of_length_le (by rw [HNE.out]; exact Nat.le_refl _)]; rfl
      go_wp2_with fail
      go_ret
      exact ⟨ret_bool HF.out.symm, hw.out⟩
end Go.Proofs.YtdkgfgmmmjpkgaaGreatDoor

namespace Go.Proofs.YtdkgfgmmmjpkgaaGreatDoor
open Go.RowKit Go.Shelf

def penW (o p : PenP) : List UInt8 := if p.wd != o.wd then lineB [p.wd] [119] else []
def penJ (o p : PenP) : List UInt8 := if p.cap != o.cap then digB p.cap 74 else []
def penJ2 (o p : PenP) : List UInt8 := if p.join != o.join then digB p.join 106 else []
def penM (o p : PenP) : List UInt8 := if p.miter != o.miter then lineB [p.miter] [77] else []
def penD (o p : PenP) : List UInt8 := if p.phase != o.phase || !eqInts p.dash o.dash then dashB p else []
theorem penB_parts (o p : PenP) : penB o p = penW o p ++ (penJ o p ++ (penJ2 o p ++ (penM o p ++ penD o p))) := rfl
theorem digB_le (n : Int) (op : UInt8) (h : 0 ≤ n ∧ n ≤ 2) : (digB n op).length ≤ 24 := by
  have := itoa_le n (by omega)
  rw [digB]
  simp only [List.length_append, List.length_cons, List.length_nil]
  omega
theorem dashB_le (p : PenP) : (dashB p).length ≤ 25 * p.dash.length + 40 := by
  have h1 := dashItems_le true p.dash
  have h2 := lineB_le [p.phase] [100]
  rw [dashB]
  simp only [List.length_append, List.length_cons, List.length_nil] at h2 ⊢
  omega

set_option maxHeartbeats 6400000 in
set_option maxRecDepth 100000 in
theorem drawn_calls {T : TypeId} {ok : Nat → Prop} {b : Nat} {bs : List UInt8} (p : PenP) (A : Option Addr) (c : Nat) (w0 w : World) (st : StP) (fs : List Int) (hp : (0 ≤ p.cap ∧ p.cap ≤ 2) ∧ 0 ≤ p.join ∧ p.join ≤ 2) (hA : DashAt w0 A c p) (ht : Tab w0) (h : DrAt T w0 ok b bs st fs w) (hok : ∀ k, w.heap.size ≤ k → ok k) (h0 : Below w0.heap.size w0 w) (hok0 : ∀ k, ok k → w0.heap.size ≤ k) (hlim : bs.length + 25 * p.dash.length + 2000 ≤ 70368744177664) :
    Calls Tryz.prog 44 #[.pointer (some ⟨b, 0, none⟩), .agg (penA p A c)] w fun e w' => e = .returned (.tuple #[]) ∧ DrAt T w0 ok b (bs ++ penB st.so.pen p) ⟨⟨st.so.fill, st.so.stroke, p⟩, st.outer, st.clips⟩ fs w' ∧ Fr ok w w' := by
  obtain ⟨Ad, cd, Ao, co, Ac, cc, vf, hB, hD, hC, hf, hfo⟩ := h
  obtain ⟨⟨fill, stroke, pen⟩, outer, clips⟩ := st
  simp only at hD hC ⊢
  rw [penB_parts]
  have l1 : (penW pen p).length ≤ 40 := by
    unfold penW; split
    · have := lineB_le [p.wd] [119]; simp only [List.length_cons, List.length_nil] at this; omega
    · simp
  have l2 : (penJ pen p).length ≤ 40 := by
    unfold penJ; split
    · have := digB_le p.cap 74 hp.1; omega
    · simp
  have l3 : (penJ2 pen p).length ≤ 40 := by
    unfold penJ2; split
    · have := digB_le p.join 106 hp.2; omega
    · simp
  have l4 : (penM pen p).length ≤ 40 := by
    unfold penM; split
    · have := lineB_le [p.miter] [77]; simp only [List.length_cons, List.length_nil] at this; omega
    · simp
  obtain ⟨owd, ocap, ojoin, omiter, od, ophase⟩ := pen
  obtain ⟨wd, cap, join, miter, l, phase⟩ := p
  unfold penA
  simp only at hp hA hD hlim ⊢
  have hw1 : penW ⟨owd, ocap, ojoin, omiter, od, ophase⟩ ⟨wd, cap, join, miter, l, phase⟩ = if wd != owd then lineB [wd] [119] else [] := rfl
  have hw2 : penJ ⟨owd, ocap, ojoin, omiter, od, ophase⟩ ⟨wd, cap, join, miter, l, phase⟩ = if cap != ocap then digB cap 74 else [] := rfl
  have hw3 : penJ2 ⟨owd, ocap, ojoin, omiter, od, ophase⟩ ⟨wd, cap, join, miter, l, phase⟩ = if join != ojoin then digB join 106 else [] := rfl
  have hw4 : penM ⟨owd, ocap, ojoin, omiter, od, ophase⟩ ⟨wd, cap, join, miter, l, phase⟩ = if miter != omiter then lineB [miter] [77] else [] := rfl
  have hw5 : penD ⟨owd, ocap, ojoin, omiter, od, ophase⟩ ⟨wd, cap, join, miter, l, phase⟩ = if phase != ophase || !eqInts l od then dashB ⟨wd, cap, join, miter, l, phase⟩ else [] := rfl
  generalize penW ⟨owd, ocap, ojoin, omiter, od, ophase⟩ ⟨wd, cap, join, miter, l, phase⟩ = X1 at *
  generalize penJ ⟨owd, ocap, ojoin, omiter, od, ophase⟩ ⟨wd, cap, join, miter, l, phase⟩ = X2 at *
  generalize penJ2 ⟨owd, ocap, ojoin, omiter, od, ophase⟩ ⟨wd, cap, join, miter, l, phase⟩ = X3 at *
  generalize penM ⟨owd, ocap, ojoin, omiter, od, ophase⟩ ⟨wd, cap, join, miter, l, phase⟩ = X4 at *
  generalize penD ⟨owd, ocap, ojoin, omiter, od, ophase⟩ ⟨wd, cap, join, miter, l, phase⟩ = X5 at *
  have HW1 := Lib.hid hw1; have HW2 := Lib.hid hw2; have HW3 := Lib.hid hw3; have HW4 := Lib.hid hw4; have HW5 := Lib.hid hw5
  clear hw1 hw2 hw3 hw4 hw5
  obtain ⟨X, hX⟩ : ∃ X, X = #[Value.int .i64 wd, .int .i64 cap, .int .i64 join, .int .i64 miter, .slice A l.length c, .int .i64 phase] := ⟨_, rfl⟩
  obtain ⟨rst, hrst⟩ : ∃ rst, rst = restC ⟨⟨fill, stroke, ⟨owd, ocap, ojoin, omiter, od, ophase⟩⟩, outer, clips⟩ Ad cd Ao co Ac cc vf := ⟨_, rfl⟩
  obtain ⟨okB, hokB⟩ : ∃ okB, okB = but (okF ok vf) w.heap.size := ⟨_, rfl⟩
  have hblt := hB.lt
  have HBN := Lib.hid (show okF ok vf b from hB.ok_)
  have HNB := Lib.hid (show ∀ W : World, (w.alloc (.cells X 47)).heap.size ≤ W.heap.size → ∀ q, W.heap.size ≤ q → okB q from fun W hW q hq => by
    rw [hokB]; simp at hW
    exact ⟨⟨hok q (by omega), fun he => by have := hf.lt q he.symm; omega⟩, by omega⟩)
  have HB0 := Lib.hid (show BufAt 5 T rst okB b bs (w.alloc (.cells X 47)) from by
    rw [hrst, hokB]
    exact (hB.imp (ok' := but (okF ok vf) w.heap.size) fun q hq ho => ⟨ho, by omega⟩).alloc _)
  have HF0 := Lib.hid (Fr.refl okB (w.alloc (.cells X 47)))
  have HCE := Lib.hid (show ∀ (W : World) (acc : List UInt8), BufAt 5 T rst okB b acc W → Fr okB (w.alloc (.cells X 47)) W →
      (W.cell? ⟨w.heap.size, 0, none⟩ = some (.int .i64 wd) ∧ W.cell? ⟨w.heap.size, 1, none⟩ = some (.int .i64 cap) ∧ W.cell? ⟨w.heap.size, 2, none⟩ = some (.int .i64 join) ∧ W.cell? ⟨w.heap.size, 3, none⟩ = some (.int .i64 miter) ∧ W.cell? ⟨w.heap.size, 4, none⟩ = some (.slice A l.length c) ∧ W.cell? ⟨w.heap.size, 5, none⟩ = some (.int .i64 phase)) ∧
      W.cell? ⟨b, 13, none⟩ = some (.int .i64 owd) ∧ W.cell? ⟨b, 14, none⟩ = some (.int .i64 ocap) ∧ W.cell? ⟨b, 15, none⟩ = some (.int .i64 ojoin) ∧ W.cell? ⟨b, 16, none⟩ = some (.int .i64 omiter) ∧ W.cell? ⟨b, 17, none⟩ = some (.slice Ad od.length cd) ∧ W.cell? ⟨b, 18, none⟩ = some (.int .i64 ophase) from fun W acc hb hw => by
    rw [hokB] at hw
    refine ⟨⟨own_cell hw 0 _ (by rw [hX]; rfl), own_cell hw 1 _ (by rw [hX]; rfl), own_cell hw 2 _ (by rw [hX]; rfl), own_cell hw 3 _ (by rw [hX]; rfl), own_cell hw 4 _ (by rw [hX]; rfl), own_cell hw 5 _ (by rw [hX]; rfl)⟩, hb.rest_cell 10 _ (by rw [hrst]; rfl), hb.rest_cell 11 _ (by rw [hrst]; rfl), hb.rest_cell 12 _ (by rw [hrst]; rfl), hb.rest_cell 13 _ (by rw [hrst]; rfl), hb.rest_cell 14 _ (by rw [hrst]; rfl), hb.rest_cell 15 _ (by rw [hrst]; rfl)⟩)
  have HKE := Lib.hid (show ∀ W : World, Fr okB (w.alloc (.cells X 47)) W → Below w0.heap.size w0 W from fun W hW => keeps (h0.trans ((below_alloc w _).mono h0.size)) hW (fun q hq => hok0 q (by rw [hokB] at hq; exact hq.1.1)))
  have HL := Lib.hid (show ∀ (op : ByteArray) (ns : List Int) (acc : List UInt8) (cs : Array Value) (W : World) (r m : Nat), r = W.heap.size → m = ns.length → BufAt 5 T rst okB b acc W → Fr okB (w.alloc (.cells X 47)) W → cs = (ns.map (Value.int .i64)).toArray → op.size ≤ 16 → acc.length + 25 * ns.length + 20 ≤ 140737488355328 →
      Calls Tryz.prog 21 #[.pointer (some ⟨b, 0, none⟩), .string op, .slice (some ⟨r, 0, none⟩) m m] (W.alloc (.cells cs 3)) fun e w' => e = .returned (.tuple #[]) ∧ BufAt 5 T rst okB b (acc ++ lineB ns op.data.toList) w' ∧ Fr okB (w.alloc (.cells X 47)) w' from fun op ns acc cs W r m hr hm hB hF hcs hop hl => by
    subst hr
    subst hm
    have hB2 : BufAt 5 T rst (but okB W.heap.size) b acc (W.alloc (.cells cs 3)) := (hB.imp (ok' := but okB W.heap.size) fun q hq ho => ⟨ho, by omega⟩).alloc _
    refine (line_calls (T := T) (rest := rst) (ok := but okB W.heap.size) (bs := acc) op ns (some ⟨W.heap.size, 0, none⟩) ns.length (W.alloc (.cells cs 3)) hop hB2 (fun q hq => ⟨HNB.out W hF.size q (by simp at hq; omega), by simp at hq; omega⟩) (ints_fresh W cs _ ns hcs) (fun a ha _ hn => by cases ha; exact hn.2 rfl) hl).mono fun e w' h' => ⟨h'.1, h'.2.1.imp fun q _ ho => ho.1, ?_⟩
    exact hF.trans ((Fr.alloc (Fr.refl okB W) _).trans (h'.2.2.mono fun q _ ho => ho.1)))
  have HDG := Lib.hid (show ∀ (n : Int) (op : UInt8) (acc : List UInt8) (W : World), 0 ≤ n ∧ n ≤ 2 → BufAt 5 T rst okB b acc W → Fr okB (w.alloc (.cells X 47)) W → acc.length + 24 ≤ 140737488355328 →
      Calls Tryz.prog 78 #[.pointer (some ⟨b, 0, none⟩), .int .i64 n, .string ⟨#[op]⟩] W fun e w' => e = .returned (.tuple #[]) ∧ BufAt 5 T rst okB b (acc ++ digB n op) w' ∧ Fr okB (w.alloc (.cells X 47)) w' from fun n op acc W hn hB hF hl =>
    (digit_calls (T := T) (rest := rst) (ok := okB) (bs := acc) n op W hn (ht.keep (HKE.out W hF)) hB (HNB.out W hF.size) hl).mono fun e w' h' => ⟨h'.1, h'.2.1, hF.trans h'.2.2⟩)
  have HDS := Lib.hid (show ∀ (acc : List UInt8) (W : World), BufAt 5 T rst okB b acc W → Fr okB (w.alloc (.cells X 47)) W → acc.length + 25 * l.length + 1000 ≤ 70368744177664 →
      Calls Tryz.prog 80 #[.pointer (some ⟨b, 0, none⟩), .agg #[.int .i64 wd, .int .i64 cap, .int .i64 join, .int .i64 miter, .slice A l.length c, .int .i64 phase]] W fun e w' => e = .returned (.tuple #[]) ∧ BufAt 5 T rst okB b (acc ++ dashB ⟨wd, cap, join, miter, l, phase⟩) w' ∧ Fr okB (w.alloc (.cells X 47)) w' from fun acc W hB hF hl =>
    (dash_calls (T := T) (rest := rst) (ok := okB) (bs := acc) ⟨wd, cap, join, miter, l, phase⟩ A c w0 W hB (HNB.out W hF.size) hA.1 (HKE.out W hF) (fun q hq => hok0 q (by rw [hokB] at hq; exact hq.1.1)) hl).mono fun e w' h' => ⟨h'.1, h'.2.1, hF.trans h'.2.2⟩)
  have HEQ := Lib.hid (show ∀ W : World, Below w0.heap.size w0 W → Calls Tryz.prog 79 #[.slice A l.length c, .slice Ad od.length cd] W fun e w' => e = .returned (.bool (eqInts l od)) ∧ Below W.heap.size W w' from fun W hW => equalInts_calls l od A Ad c cd W (hA.1.keep hW) (hD.1.1.keep hW) (Nat.le_trans hA.2.1 hA.2.2) (Nat.le_trans hD.1.2.1 hD.1.2.2))
  have HA := Lib.hid hA; have HD := Lib.hid hD; have HC := Lib.hid hC; have HFS := Lib.hid hf; have HFO := Lib.hid hfo
  have HOKB := Lib.hid hokB
  have HRST := Lib.hid hrst
  have HPC := Lib.hid hp
  have HX := Lib.hid hX
  clear hA hD hC hf hfo hB hokB hrst hok h0 hok0 ht hp
  rw [← hX]
  clear hX
  go_enter Tryz.func44, Tryz.ntmps44
  rw [HX.out]
  go_wp2_with fail
  rw [← HX.out]
  obtain ⟨⟨s0, s1, s2, s3, s4, s5⟩, t0, t1, t2, t3, t4, t5⟩ := HCE.out _ _ HB0.out HF0.out
  go_quiet (fail)
  have B0 := Lib.hid (BufAt.below HB0.out (below_drewN (Below.refl _ _) nq))
  have F0 := Lib.hid (Fr.drewN HF0.out nq)
  go_upto_if 12 with fail
  go_cut [] (fun wx => Hid (BufAt 5 T rst okB b (bs ++ X1) wx) ∧ Hid (Fr okB (w.alloc (.cells X 47)) wx))
  case first =>
    have hacc : (bs).length ≤ bs.length + 0 := by first | omega | (simp only [List.length_append]; omega)
    cases hx : (wd != owd) with
    | false =>
      have hX1 : X1 = [] := by rw [HW1.out, hx]; rfl
      have HQ := Lib.hid (show bs ++ X1 = bs from by rw [hX1, List.append_nil])
      clear hX1
      go_wp2_with fail
      go_meet
      exact ⟨by rw [HQ.out]; exact B0, F0⟩
    | true =>
      have hX1 : X1 = lineB [wd] [119] := by rw [HW1.out, hx]; rfl
      have HX1 := Lib.hid hX1
      clear hX1
      go_wp2_with fail
      refine (HL.out ⟨#[119]⟩ [wd] (bs) #[.int .i64 wd] _ _ _ ?_ rfl B0.out F0.out rfl (by decide) (by simp only [List.length_cons, List.length_nil]; omega)).mono ?_
      · first | rfl | (show _ = (w.alloc _).heap.size; simp)
      rintro e w2 ⟨rfl, b2, f2⟩
      have HB9 : Hid (BufAt 5 T rst okB b (bs ++ X1) w2) := by rw [HX1.out]; exact b2
      have HF9 := Lib.hid f2
      clear b2 f2
      go_wp2_with fail
      go_meet
      exact ⟨HB9, HF9⟩
  case rest =>
    clear B0 F0 s0 s1 s2 s3 s4 s5 t0 t1 t2 t3 t4 t5
    obtain ⟨B1, F1⟩ := hcut
    generalize wc = w_1 at *
    obtain ⟨⟨s0, s1, s2, s3, s4, s5⟩, t0, t1, t2, t3, t4, t5⟩ := HCE.out _ _ B1.out F1.out
    go_wp2_with fail
    go_quiet (fail)
    have B2 := Lib.hid (BufAt.below B1.out (below_drewN (Below.refl _ _) nq))
    have F2 := Lib.hid (Fr.drewN F1.out nq)
    go_upto_if 26 with fail
    go_cut [] (fun wx => Hid (BufAt 5 T rst okB b (bs ++ X1 ++ X2) wx) ∧ Hid (Fr okB (w.alloc (.cells X 47)) wx))
    case first =>
      have hacc : (bs ++ X1).length ≤ bs.length + 40 := by first | omega | (simp only [List.length_append]; omega)
      cases hx : (cap != ocap) with
      | false =>
        have hX2 : X2 = [] := by rw [HW2.out, hx]; rfl
        have HQ := Lib.hid (show bs ++ X1 ++ X2 = bs ++ X1 from by rw [hX2, List.append_nil])
        clear hX2
        go_wp2_with fail
        go_meet
        exact ⟨by rw [HQ.out]; exact B2, F2⟩
      | true =>
        have hX2 : X2 = digB cap 74 := by rw [HW2.out, hx]; rfl
        have HX2 := Lib.hid hX2
        clear hX2
        go_wp2_with fail
        refine (HDG.out cap 74 (bs ++ X1) _ (by have := HPC.out; omega) B2.out F2.out (by omega)).mono ?_
        rintro e w2 ⟨rfl, b2, f2⟩
        have HB9 : Hid (BufAt 5 T rst okB b (bs ++ X1 ++ X2) w2) := by rw [HX2.out]; exact b2
        have HF9 := Lib.hid f2
        clear b2 f2
        go_wp2_with fail
        go_meet
        exact ⟨HB9, HF9⟩
    case rest =>
      clear B2 F2 s0 s1 s2 s3 s4 s5 t0 t1 t2 t3 t4 t5
      obtain ⟨B3, F3⟩ := hcut
      generalize wc = w_2 at *
      obtain ⟨⟨s0, s1, s2, s3, s4, s5⟩, t0, t1, t2, t3, t4, t5⟩ := HCE.out _ _ B3.out F3.out
      go_wp2_with fail
      go_quiet (fail)
      have B4 := Lib.hid (BufAt.below B3.out (below_drewN (Below.refl _ _) nq))
      have F4 := Lib.hid (Fr.drewN F3.out nq)
      go_upto_if 39 with fail
      go_cut [] (fun wx => Hid (BufAt 5 T rst okB b (bs ++ X1 ++ X2 ++ X3) wx) ∧ Hid (Fr okB (w.alloc (.cells X 47)) wx))
      case first =>
        have hacc : (bs ++ X1 ++ X2).length ≤ bs.length + 80 := by first | omega | (simp only [List.length_append]; omega)
        cases hx : (join != ojoin) with
        | false =>
          have hX3 : X3 = [] := by rw [HW3.out, hx]; rfl
          have HQ := Lib.hid (show bs ++ X1 ++ X2 ++ X3 = bs ++ X1 ++ X2 from by rw [hX3, List.append_nil])
          clear hX3
          go_wp2_with fail
          go_meet
          exact ⟨by rw [HQ.out]; exact B4, F4⟩
        | true =>
          have hX3 : X3 = digB join 106 := by rw [HW3.out, hx]; rfl
          have HX3 := Lib.hid hX3
          clear hX3
          go_wp2_with fail
          refine (HDG.out join 106 (bs ++ X1 ++ X2) _ (by have := HPC.out; omega) B4.out F4.out (by omega)).mono ?_
          rintro e w2 ⟨rfl, b2, f2⟩
          have HB9 : Hid (BufAt 5 T rst okB b (bs ++ X1 ++ X2 ++ X3) w2) := by rw [HX3.out]; exact b2
          have HF9 := Lib.hid f2
          clear b2 f2
          go_wp2_with fail
          go_meet
          exact ⟨HB9, HF9⟩
      case rest =>
        clear B4 F4 s0 s1 s2 s3 s4 s5 t0 t1 t2 t3 t4 t5
        obtain ⟨B5, F5⟩ := hcut
        generalize wc = w_3 at *
        obtain ⟨⟨s0, s1, s2, s3, s4, s5⟩, t0, t1, t2, t3, t4, t5⟩ := HCE.out _ _ B5.out F5.out
        go_wp2_with fail
        go_quiet (fail)
        have B6 := Lib.hid (BufAt.below B5.out (below_drewN (Below.refl _ _) nq))
        have F6 := Lib.hid (Fr.drewN F5.out nq)
        go_upto_if 52 with fail
        go_cut [] (fun wx => Hid (BufAt 5 T rst okB b (bs ++ X1 ++ X2 ++ X3 ++ X4) wx) ∧ Hid (Fr okB (w.alloc (.cells X 47)) wx))
        case first =>
          have hacc : (bs ++ X1 ++ X2 ++ X3).length ≤ bs.length + 120 := by first | omega | (simp only [List.length_append]; omega)
          cases hx : (miter != omiter) with
          | false =>
            have hX4 : X4 = [] := by rw [HW4.out, hx]; rfl
            have HQ := Lib.hid (show bs ++ X1 ++ X2 ++ X3 ++ X4 = bs ++ X1 ++ X2 ++ X3 from by rw [hX4, List.append_nil])
            clear hX4
            go_wp2_with fail
            go_meet
            exact ⟨by rw [HQ.out]; exact B6, F6⟩
          | true =>
            have hX4 : X4 = lineB [miter] [77] := by rw [HW4.out, hx]; rfl
            have HX4 := Lib.hid hX4
            clear hX4
            go_wp2_with fail
            refine (HL.out ⟨#[77]⟩ [miter] (bs ++ X1 ++ X2 ++ X3) #[.int .i64 miter] _ _ _ ?_ rfl B6.out F6.out rfl (by decide) (by simp only [List.length_cons, List.length_nil]; omega)).mono ?_
            · first | rfl | (show _ = (w.alloc _).heap.size; simp)
            rintro e w2 ⟨rfl, b2, f2⟩
            have HB9 : Hid (BufAt 5 T rst okB b (bs ++ X1 ++ X2 ++ X3 ++ X4) w2) := by rw [HX4.out]; exact b2
            have HF9 := Lib.hid f2
            clear b2 f2
            go_wp2_with fail
            go_meet
            exact ⟨HB9, HF9⟩
        case rest =>
          clear B6 F6 s0 s1 s2 s3 s4 s5 t0 t1 t2 t3 t4 t5
          obtain ⟨B7, F7⟩ := hcut
          generalize wc = w_4 at *
          obtain ⟨⟨s0, s1, s2, s3, s4, s5⟩, t0, t1, t2, t3, t4, t5⟩ := HCE.out _ _ B7.out F7.out
          have HS := Lib.hid (show ∀ W : World, Below w_4.heap.size w_4 W → ((W.cell? ⟨w.heap.size, 4, none⟩ = some (.slice A l.length c) ∧ W.cell? ⟨w.heap.size, 5, none⟩ = some (.int .i64 phase)) ∧ W.cell? ⟨b, 17, none⟩ = some (.slice Ad od.length cd) ∧ W.cell? ⟨b, 18, none⟩ = some (.int .i64 ophase)) ∧ Below w_4.heap.size w_4 W from fun W hW => by
            have hk := Fr.of_below okB hW
            obtain ⟨⟨-, -, -, -, s4, s5⟩, -, -, -, -, t4, t5⟩ := HCE.out W _ (BufAt.below B7.out hW) (F7.out.trans hk)
            exact ⟨⟨⟨s4, s5⟩, t4, t5⟩, hW⟩)
          have HEQ2 := Lib.hid (show ∀ W : World, Below w_4.heap.size w_4 W → Calls Tryz.prog 79 #[.slice A l.length c, .slice Ad od.length cd] W fun e w' => e = .returned (.bool (eqInts l od)) ∧ Below w_4.heap.size w_4 w' from fun W hW => (HEQ.out W ((HKE.out _ F7.out).trans (hW.mono (HKE.out _ F7.out).size))).mono fun e w' h' => ⟨h'.1, hW.trans (h'.2.mono hW.size)⟩)
          have hphs : ∀ x : Bool, phase != ophase → (phase != ophase || x) = true := fun x h => by rw [h]; rfl
          have HPH := Lib.hid hphs
          clear hphs
          generalize eqInts l od = q at *
          go_upto_region 9 with fail
          go_cut [78] (fun s78 wx => s78 = .bool (phase != ophase || !q) ∧ Hid (BufAt 5 T rst okB b (bs ++ X1 ++ X2 ++ X3 ++ X4) wx) ∧ Hid (Fr okB (w.alloc (.cells X 47)) wx))
          case first =>
            cases hph : (phase != ophase) with
            | true =>
              have HPT := Lib.hid (HPH.out (!q) hph)
              have HBN7 := Lib.hid (fun n => BufAt.below B7.out (below_drewN (Below.refl _ _) n))
              have HFN7 := Lib.hid (fun n => Fr.drewN F7.out n)
              go_wp2_with fail
              go_quiet (fail)
              go_wp2_with fail
              go_meet
              exact ⟨congrArg Value.bool HPT.out.symm, HBN7.out nq, HFN7.out nq⟩
            | false =>
              have HPF := Lib.hid (show (phase != ophase || !q) = !q from by rw [hph]; rfl)
              have HBW7 := Lib.hid (fun W (hW : Below w_4.heap.size w_4 W) => BufAt.below B7.out hW)
              have HFW7 := Lib.hid (fun W (hW : Below w_4.heap.size w_4 W) => F7.out.trans (Fr.of_below okB hW))
              clear s0 s1 s2 s3 s4 s5 t0 t1 t2 t3 t4 t5
              go_region_held3 (fun W => ((W.cell? ⟨w.heap.size, 4, none⟩ = some (.slice A l.length c) ∧ W.cell? ⟨w.heap.size, 5, none⟩ = some (.int .i64 phase)) ∧ W.cell? ⟨b, 17, none⟩ = some (.slice Ad od.length cd) ∧ W.cell? ⟨b, 18, none⟩ = some (.int .i64 ophase)) ∧ Below w_4.heap.size w_4 W)
                (first
                  | exact HS.out _ (by assumption)
                  | exact HS.out _ (below_drew' (Below.refl _ _))
                  | exact HS.out _ (Below.refl _ _))
                ((go_at_call 79; refine (HEQ2.out _ (by first | assumption | (go_split_ands; assumption))).mono ?_; rintro e w8 ⟨rfl, q8⟩))
              rename (_ ∧ Below w_4.heap.size w_4 _) => hfin
              have HFI := Lib.hid hfin.2
              clear hfin
              go_wp2_with fail
              go_meet
              exact ⟨congrArg Value.bool HPF.out.symm, HBW7.out _ HFI.out, HFW7.out _ HFI.out⟩
          case rest =>
            clear HS HEQ2 HPH s0 s1 s2 s3 s4 s5 t0 t1 t2 t3 t4 t5 B7 F7
            obtain ⟨rfl, B8, F8⟩ := hcut
            generalize wc = w_5 at *
            obtain ⟨⟨s0, s1, s2, s3, s4, s5⟩, t0, t1, t2, t3, t4, t5⟩ := HCE.out _ _ B8.out F8.out
            have hal : (bs ++ X1 ++ X2 ++ X3 ++ X4).length ≤ bs.length + 160 := by simp only [List.length_append]; omega
            cases hE : (phase != ophase || !q) with
            | false =>
              have HBY : Hid (bs ++ X1 ++ X2 ++ X3 ++ X4 = bs ++ (X1 ++ (X2 ++ (X3 ++ (X4 ++ X5))))) := by
                show _ = _
                rw [HW5.out, hE, if_neg Bool.false_ne_true]
                simp only [List.append_assoc, List.append_nil]
              have z0 := BufAt.fz B8.out 13
              have z1 := BufAt.fz B8.out 14
              have z2 := BufAt.fz B8.out 15
              have z3 := BufAt.fz B8.out 16
              have z4 := BufAt.fz B8.out 17
              have z5 := BufAt.fz B8.out 18
              go_wp2_with fail
              go_end0
              have hb6 := (((((BufAt.set_rest B8.out 10 (.int .i64 wd)).set_rest 11 (.int .i64 cap)).set_rest 12 (.int .i64 join)).set_rest 13 (.int .i64 miter)).set_rest 14 (.slice A l.length c)).set_rest 15 (.int .i64 phase)
              have hbB : okB b := BufAt.ok_ B8.out
              have hfr := (((((Fr.setCell F8.out (p := ⟨b, 13, none⟩) (.inr hbB) (.int .i64 wd)).setCell (p := ⟨b, 14, none⟩) (.inr hbB) (.int .i64 cap)).setCell (p := ⟨b, 15, none⟩) (.inr hbB) (.int .i64 join)).setCell (p := ⟨b, 16, none⟩) (.inr hbB) (.int .i64 miter)).setCell (p := ⟨b, 17, none⟩) (.inr hbB) (.slice A l.length c)).setCell (p := ⟨b, 18, none⟩) (.inr hbB) (.int .i64 phase)
              have hfr2 := (Fr.alloc (Fr.refl (okF ok vf) w) (.cells X 47)).trans (hfr.mono (ok' := okF ok vf) fun q _ ho => by rw [HOKB.out] at ho; exact ho.1)
              have hb7 := hb6.imp (ok' := okF ok vf) fun q _ ho => by rw [HOKB.out] at ho; exact ho.1
              rw [HRST.out] at hb7
              have hby : bs ++ X1 ++ X2 ++ X3 ++ X4 = bs ++ (X1 ++ (X2 ++ (X3 ++ (X4 ++ X5)))) := HBY.out
              rw [hby] at hb7
              exact ⟨rfl, ⟨A, c, Ao, co, Ac, cc, vf, hb7, ⟨HA.out, HD.out.2⟩, HC.out, owns_keep HFS.out (fun q hq => hfr2.block q (HFS.out.lt q hq).2 (fun ho => ho.2 hq.symm)), HFO.out⟩, hfr2.mono fun q _ ho => ho.1⟩
            | true =>
              have HBY : Hid (bs ++ X1 ++ X2 ++ X3 ++ X4 ++ dashB ⟨wd, cap, join, miter, l, phase⟩ = bs ++ (X1 ++ (X2 ++ (X3 ++ (X4 ++ X5))))) := by
                show _ = _
                rw [HW5.out, hE, if_pos rfl]
                simp only [List.append_assoc]
              go_wp2_with fail
              refine (HDS.out _ _ B8.out F8.out (by omega)).mono ?_
              rintro e w_6 ⟨rfl, b9, f9⟩
              have B9 := Lib.hid b9
              have F9 := Lib.hid f9
              clear b9 f9 s0 s1 s2 s3 s4 s5 t0 t1 t2 t3 t4 t5
              obtain ⟨⟨s0, s1, s2, s3, s4, s5⟩, t0, t1, t2, t3, t4, t5⟩ := HCE.out _ _ B9.out F9.out
              have z0 := BufAt.fz B9.out 13
              have z1 := BufAt.fz B9.out 14
              have z2 := BufAt.fz B9.out 15
              have z3 := BufAt.fz B9.out 16
              have z4 := BufAt.fz B9.out 17
              have z5 := BufAt.fz B9.out 18
              go_wp2_with fail
              go_end0
              have hb6 := (((((BufAt.set_rest B9.out 10 (.int .i64 wd)).set_rest 11 (.int .i64 cap)).set_rest 12 (.int .i64 join)).set_rest 13 (.int .i64 miter)).set_rest 14 (.slice A l.length c)).set_rest 15 (.int .i64 phase)
              have hbB : okB b := BufAt.ok_ B9.out
              have hfr := (((((Fr.setCell F9.out (p := ⟨b, 13, none⟩) (.inr hbB) (.int .i64 wd)).setCell (p := ⟨b, 14, none⟩) (.inr hbB) (.int .i64 cap)).setCell (p := ⟨b, 15, none⟩) (.inr hbB) (.int .i64 join)).setCell (p := ⟨b, 16, none⟩) (.inr hbB) (.int .i64 miter)).setCell (p := ⟨b, 17, none⟩) (.inr hbB) (.slice A l.length c)).setCell (p := ⟨b, 18, none⟩) (.inr hbB) (.int .i64 phase)
              have hfr2 := (Fr.alloc (Fr.refl (okF ok vf) w) (.cells X 47)).trans (hfr.mono (ok' := okF ok vf) fun q _ ho => by rw [HOKB.out] at ho; exact ho.1)
              have hb7 := hb6.imp (ok' := okF ok vf) fun q _ ho => by rw [HOKB.out] at ho; exact ho.1
              rw [HRST.out] at hb7
              have hby : bs ++ X1 ++ X2 ++ X3 ++ X4 ++ dashB ⟨wd, cap, join, miter, l, phase⟩ = bs ++ (X1 ++ (X2 ++ (X3 ++ (X4 ++ X5)))) := HBY.out
              rw [hby] at hb7
              exact ⟨rfl, ⟨A, c, Ao, co, Ac, cc, vf, hb7, ⟨HA.out, HD.out.2⟩, HC.out, owns_keep HFS.out (fun q hq => hfr2.block q (HFS.out.lt q hq).2 (fun ho => ho.2 hq.symm)), HFO.out⟩, hfr2.mono fun q _ ho => ho.1⟩
end Go.Proofs.YtdkgfgmmmjpkgaaGreatDoor

namespace Go.Proofs.YtdkgfgmmmjpkgaaGreatDoor
open Go.RowKit Go.Shelf
variable {T : TypeId} {rest : Array Value} {ok : Nat → Prop} {b : Nat} {bs : List UInt8}

abbrev textAgg (s : ByteArray) : Value := .agg #[.int .i64 5, .int .i64 0, .string s, .slice none 0 0, .slice none 0 0, .slice none 0 0]

set_option maxHeartbeats 400000 in
set_option maxRecDepth 100000 in
theorem bare_text (s : ByteArray) (w : World) : Calls Tryz.prog 162 #[textAgg s, .bool false, .bool true, .bool false, .bool false, .bool false] w fun e w' => e = .returned (.bool true) ∧ Below w.heap.size w w' := by
  go_enter Tryz.func162, Tryz.ntmps162
  go_wp2
  go_ret
  exact ⟨rfl, (Below.refl _ _).alloc (Nat.le_refl _) _⟩

set_option maxHeartbeats 800000 in
set_option maxRecDepth 100000 in
theorem sound_text (s : ByteArray) (w : World) : Calls Tryz.prog 148 #[textAgg s, .int .i64 32] w fun e w' => e = .returned (.bool (decide (s.size ≤ 65535))) ∧ Below w.heap.size w w' := by
  go_enter Tryz.func148, Tryz.ntmps148
  go_wp2_with (first | (go_at_call 162; refine (bare_text _ _).mono ?_; rintro e w1 ⟨rfl, hb⟩; obtain ⟨hc, hf⟩ := bcell hb))
  go_ret
  exact ⟨ret_bool (by simp; omega), ((Below.refl _ _).alloc (Nat.le_refl _) _).trans (hb.mono (by simp))⟩

set_option maxHeartbeats 800000 in
set_option maxRecDepth 100000 in
theorem Sound_text (s : ByteArray) (w : World) : Calls Tryz.prog 121 #[textAgg s] w fun e w' => e = .returned (.bool (decide (s.size ≤ 65535))) ∧ Below w.heap.size w w' := by
  go_enter Tryz.func121, Tryz.ntmps121
  go_wp2_with (go_at_call 148; refine (sound_text _ _).mono ?_; rintro e w1 ⟨rfl, hb⟩)
  go_ret
  exact ⟨rfl, ((Below.refl _ _).alloc (Nat.le_refl _) _).trans (hb.mono (by simp))⟩

set_option maxHeartbeats 800000 in
set_option maxRecDepth 100000 in
theorem write_text (s : ByteArray) (w : World) (h : BufAt 5 T rest ok b bs w) (hok : ∀ k, w.heap.size ≤ k → ok k) (hs : s.size ≤ 140737488355328) (hlim : bs.length + 4 * s.size + 2 ≤ 140737488355328) :
    Calls Tryz.prog 122 #[.pointer (some ⟨b, 0, none⟩), textAgg s] w fun e w' => e = .returned (.tuple #[]) ∧ BufAt 5 T rest ok b (bs ++ textL s.data.toList) w' ∧ Fr ok w w' := by
  go_enter Tryz.func122, Tryz.ntmps122
  go_wp2_with fail
  refine (text_calls (T := T) (rest := rest) (ok := ok) (bs := bs) s _ (BufAt.alloc h _) (fun k hk => hok k (by simp at hk; omega)) hs hlim).mono ?_
  rintro e w1 ⟨rfl, h1, f1⟩
  have H1 := Lib.hid h1
  have F1 := Lib.hid f1
  clear h1 f1
  go_wp2_with fail
  go_end0
  exact ⟨rfl, H1.out, (Fr.alloc (Fr.refl ok w) _).trans F1.out⟩

/-- What Print hands back where it hands back bytes: a row of its own. -/
def Printed (l : List UInt8) (w : World) (e : Ending) (w' : World) : Prop :=
  ∃ g c, e = .returned (.tuple #[.slice (some ⟨g, 0, none⟩) l.length c, .int .i64 0]) ∧ l.length ≤ c ∧ BytesAt w' (some ⟨g, 0, none⟩) l ∧ w.heap.size ≤ g ∧ g < w'.heap.size ∧ Below w.heap.size w w'

set_option maxHeartbeats 800000 in
set_option maxRecDepth 100000 in
theorem Print_text (s : ByteArray) (w : World) (hsz : s.size ≤ 65535) :
    Calls Tryz.prog 83 #[textAgg s] w (Printed (textL s.data.toList) w) := by
  have hdec : decide (s.size ≤ 65535) = true := decide_eq_true hsz
  go_enter Tryz.func83, Tryz.ntmps83
  go_wp2_with (go_at_call 121; refine (Sound_text _ _).mono ?_; rintro e w1 ⟨rfl, hb⟩; obtain ⟨hc, hf⟩ := bcell hb; have hz : w.heap.size < w1.heap.size := (by have := hb.size; simp at this; omega); refine Hid.out ?_)
  refine Lib.hid ?_
  have hB0 : BufAt 5 67 #[] (fun k => w1.heap.size ≤ k) w1.heap.size [] (w1.alloc (.cells (#[.slice none 0 0, .int .i64 0, .int .i8 0] ++ #[]) 67)) := BufAt.fresh _ _ _ _ w1 (Nat.le_refl _)
  have HB0 := Lib.hid hB0
  have HB := Lib.hid hb
  clear hB0 hb
  go_wp2_with fail
  refine (write_text (T := 67) (rest := #[]) (ok := fun k => w1.heap.size ≤ k) (bs := []) s _ HB0.out (fun k hk => by simp at hk; omega) (by omega) (by simp; omega)).mono ?_
  rintro e w2 ⟨rfl, h2, f2⟩
  have H2 := Lib.hid h2
  have F2 := Lib.hid f2
  clear h2 f2
  go_wp2_with fail
  refine (bytes_any (T := 67) (rest := #[]) (ok := fun k => w1.heap.size ≤ k) w2 H2.out).mono ?_
  rintro e w3 ⟨A, c, rfl, hlc, hba, hA, hN, n, hw3⟩
  have hne : A ≠ none := fun h => by have := (hN h).1; simp [textL] at this
  obtain ⟨a, rfl⟩ := Option.ne_none_iff_exists'.1 hne
  obtain ⟨g, rfl, hg1, hg2, hg3⟩ := hA a rfl
  have HW := Lib.hid hw3
  have HBA := Lib.hid hba
  have HLC := Lib.hid hlc
  clear hA hN hne hw3 hba hlc
  go_wp2_with fail
  go_ret2
  have e1 := HB.out.size
  simp at e1
  refine ⟨g, c, rfl, HLC.out, ?_, by omega, ?_, ?_⟩
  · rw [HW.out]; exact HBA.out
  · rw [HW.out]; exact hg3
  · have b1 : Below w.heap.size w w1 := ((Below.refl _ _).alloc (Nat.le_refl _) _).trans (HB.out.mono (by simp))
    have b2 : Below w1.heap.size w1 w2 := ((Below.refl _ _).alloc (Nat.le_refl _) _).trans (F2.out.below (by simp))
    have b3 : Below w.heap.size w w2 := b1.trans (b2.mono b1.size)
    rw [HW.out]
    exact ⟨b3.os, b3.tape, b3.output, b3.size, b3.block⟩

end Go.Proofs.YtdkgfgmmmjpkgaaGreatDoor

namespace Go.Proofs.YtdkgfgmmmjpkgaaGreatDoor
open Go.RowKit Go.Shelf

def addFont (fs : List Int) (f : Int) : List Int := if fs.contains f then fs else fs ++ [f]
def itemA (it : ItemP) (Ap : Option Addr) (cp : Nat) (Ac : Option Addr) (cc : Nat) (Ad : Option Addr) (cd : Nat) (Ab : Option Addr) (cb : Nat) : Array Value :=
  #[.int .i64 it.k, .slice Ap it.path.length cp, .int .i64 it.col.sp, .int .i64 it.col.p0, .int .i64 it.col.p1, .int .i64 it.col.p2, .int .i64 it.col.p3, .slice Ac it.clips.length cc,
      .int .i64 it.pen.wd, .int .i64 it.pen.cap, .int .i64 it.pen.join, .int .i64 it.pen.miter, .slice Ad it.pen.dash.length cd, .int .i64 it.pen.phase, .int .i64 it.font, .int .i64 it.m0, .int .i64 it.m1, .int .i64 it.m2, .int .i64 it.m3, .int .i64 it.m4, .int .i64 it.m5, .slice Ab it.bytes.length cb]
theorem contains_calls (W : World) (B : Nat) (vf : Value) (fs : List Int) (x : Int) (hl : fs.length ≤ 1000000) (h : W.ownsRow B 3 1 vf fs.length (fs.map (Value.int .i64))) :
    Calls Tryz.prog 81 #[vf, .int .i64 x] W fun e w' => e = .returned (.bool (fs.contains x)) ∧ w' = W := by
  rcases h.2 with ⟨rfl, h0⟩ | ⟨g, cap, cur, rfl, hb, hg, r⟩
  · obtain rfl := List.eq_nil_of_length_eq_zero h0
    exact Tryz.slices_Contains_int_empty none 0 x W
  · have hc := Tryz.slices_Contains_int g 0 fs.length cap fs x W (Nat.le_refl _) (by omega) (fun j hj => by
      have := h.cells rfl j (.int .i64 (fs.getD j 0)) (by simp [List.getD_eq_getElem?_getD, hj])
      rw [Lib.addr_add] at this
      exact this)
    rw [List.take_length] at hc
    exact hc
theorem owns_drewN {w : World} {B : Nat} {e : TypeId} {size : Nat} {v : Value} {n : Nat} {xs : List Value} (h : w.ownsRow B e size v n xs) (k : Nat) : (w.drewN k).ownsRow B e size v n xs := owns_keep h fun _ _ => rfl
theorem infoInt : (Tryz.prog.info? 3).map (fun i => (i.zero, i.size, i.bytes)) = some (some (.int .i64 0), 1, 8) := by kernel_rfl

theorem convert_bytes (w : World) (A : Option Addr) (c : Nat) (l : List UInt8) (h : BytesAt w A l) :
    (convert 27 9 (.slice A l.length c)).run Tryz.prog w = .ok (.string ⟨l.toArray⟩) w := by
  cases l with
  | nil =>
    cases A with
    | none => exact Lib.run_convert_nil_bytes w 27 9 5 c Tryz.underlying27 Tryz.underlying5 Tryz.underlying9
    | some a => exact run_convert_bytes_back w 27 9 5 a c [] Tryz.underlying27 Tryz.underlying5 Tryz.underlying9 fun j hj => absurd hj (Nat.not_lt_zero _)
  | cons x r =>
    obtain ⟨a, rfl, -⟩ := h 0 _ rfl
    refine run_convert_bytes_back w 27 9 5 a c (x :: r) Tryz.underlying27 Tryz.underlying5 Tryz.underlying9 fun j hj => ?_
    obtain ⟨b, hb, hc⟩ := h j (.int .u8 ((x :: r)[j].toNat : Int)) (by rw [Lib.byteCells, List.getElem?_map, List.getElem?_eq_getElem hj]; rfl)
    cases hb
    exact hc
theorem ints_cells (W : World) (r k : Nat) (l : List Int) (h : ∀ i (hi : i < l.length), W.cell? ⟨r, k + i, none⟩ = some (.int .i64 l[i])) : IntsAt W (some ⟨r, k, none⟩) l := by
  refine .inr ⟨r, k, rfl, fun i hi j v hj => ?_⟩
  have hj0 : j = 0 := by
    have := (Array.getElem?_eq_some_iff.1 hj).1
    simpa using this
  subst hj0
  have hv : v = .int .i64 l[i] := by
    have : v = .int .i64 (l.getD i 0) := by simpa using hj.symm
    rw [this, List.getD_eq_getElem?_getD, List.getElem?_eq_getElem hi]
    rfl
  rw [hv, Nat.mul_one, Nat.add_zero]
  exact h i hi
theorem write_src {T : TypeId} {rest : Array Value} {ok : Nat → Prop} {b : Nat} {bs : List UInt8} (s : List UInt8) (A : Option Addr) (c : Nat) (w : World) (h : BufAt 5 T rest ok b bs w) (hok : ∀ k, w.heap.size ≤ k → ok k) (hab : ∀ a, s ≠ [] → A = some a → a.block ≠ b) (hsrc : BytesAt w A s) (hlim : bs.length + s.length ≤ 140737488355328) :
    Calls Tryz.prog 84 #[.pointer (some ⟨b, 0, none⟩), .slice A s.length c] w fun e w' => e = .returned (.tuple #[.int .i64 s.length, .nilIface]) ∧ BufAt 5 T rest ok b (bs ++ s) w' ∧ Fr ok w w' := by
  cases s with
  | nil => rw [List.append_nil]; exact write_none A c w h
  | cons x r => exact write_all (x :: r) A c w h hok (fun a ha => hab a (by simp) ha) hsrc hlim
theorem textL_size (s : List UInt8) : (textL s).length ≤ 4 * s.length + 2 := textL_le s

set_option maxHeartbeats 6400000 in
set_option maxRecDepth 100000 in
theorem wtext_calls {T : TypeId} {ok : Nat → Prop} {b : Nat} {bs : List UInt8} (it : ItemP) (v : Array Value) (w0 w : World) (st : StP) (fs : List Int) (hv : ItemRd w0 it v) (hfont : 0 ≤ it.font ∧ it.font ≤ 13) (hby : it.bytes.length ≤ 65535) (ht : Tab w0) (h : DrAt T w0 ok b bs st fs w) (hok : ∀ k, w.heap.size ≤ k → ok k) (h0 : Below w0.heap.size w0 w) (hok0 : ∀ k, ok k → w0.heap.size ≤ k) (hlim : bs.length + 2000000 ≤ 70368744177664) (hfl : fs.length ≤ 100000) :
    Calls Tryz.prog 47 #[.pointer (some ⟨b, 0, none⟩), .agg v] w fun e w' => e = .returned (.tuple #[]) ∧ DrAt T w0 ok b (bs ++ textItemB it) st (addFont fs it.font) w' ∧ Fr ok w w' := by
  obtain ⟨Ad, cd, Ao, co, Ac, cc, vf, hB, hD, hC, hf, hfo⟩ := h
  obtain ⟨Ap', cp', Ac', cc', Ad', cd', Ab, cb, rfl, ⟨hp1, hp2, hp3⟩, ⟨hc1, hc2, hc3⟩, ⟨hd1, hd2, hd3⟩, hb1, hb2, hb3⟩ := hv
  obtain ⟨⟨⟨a0, a1, a2, a3, a4⟩, ⟨b0, b1, b2, b3, b4⟩, ⟨p0, p1, p2, p3, p4, p5⟩⟩, ⟨⟨d0, d1, d2, d3, d4⟩, ⟨e0, e1, e2, e3, e4⟩, ⟨q0, q1, q2, q3, q4, q5⟩⟩, cl⟩ := st
  obtain ⟨ik, ipath, icol, iclips, ipen, font, m0, m1, m2, m3, m4, m5, bytes⟩ := it
  simp only at hfont hby hb1 hb2 hb3 hp1 hp2 hp3 hc1 hc2 hc3 hd1 hd2 hd3 ⊢
  have htb : textItemB ⟨ik, ipath, icol, iclips, ipen, font, m0, m1, m2, m3, m4, m5, bytes⟩ = [66, 84, 10, 47, 70] ++ Lib.itoa font ++ [32, 49, 32, 84, 102, 10] ++ lineB [m0, m1, m2, m3, m4, m5] [84, 109] ++ textL bytes ++ [32, 84, 106, 10, 69, 84, 10] := rfl
  rw [htb]
  clear htb
  have hil := itoa_le font (by omega)
  have HI0 := Lib.hid (fun W (hW : Tab W) => itoa_calls font (by omega) (by omega) W hW)
  obtain ⟨F, hFx⟩ : ∃ F, F = Lib.itoa font := ⟨_, rfl⟩
  rw [← hFx] at hil HI0 ⊢
  have hz : (asStr F).size ≤ 21 := by rw [asStr_size]; exact hil
  clear hFx
  obtain ⟨RS, hRS⟩ : ∃ RS : Value → Array Value, RS = restC ⟨⟨⟨a0, a1, a2, a3, a4⟩, ⟨b0, b1, b2, b3, b4⟩, ⟨p0, p1, p2, p3, p4, p5⟩⟩, ⟨⟨d0, d1, d2, d3, d4⟩, ⟨e0, e1, e2, e3, e4⟩, ⟨q0, q1, q2, q3, q4, q5⟩⟩, cl⟩ Ad cd Ao co Ac cc := ⟨_, rfl⟩
  have hset : ∀ x y, (RS x).setIfInBounds 33 y = RS y := fun x y => by rw [hRS]; rfl
  have hget : ∀ x, (RS x)[33]? = some x := fun x => by rw [hRS]; rfl
  replace hB : BufAt 5 T (RS vf) (okF ok vf) b bs w := by rw [hRS]; exact hB
  have hfc := hB.rest_cell 33 vf (hget vf)
  simp only [Nat.reduceAdd] at hfc
  have hblt := hB.lt
  obtain ⟨i0, hi, hz0, hz1, hz2⟩ := info_parts infoInt
  obtain ⟨X, hX⟩ : ∃ X, X = #[Value.int .i64 ik, .slice Ap' ipath.length cp', .int .i64 icol.sp, .int .i64 icol.p0, .int .i64 icol.p1, .int .i64 icol.p2, .int .i64 icol.p3, .slice Ac' iclips.length cc', .int .i64 ipen.wd, .int .i64 ipen.cap, .int .i64 ipen.join, .int .i64 ipen.miter, .slice Ad' ipen.dash.length cd', .int .i64 ipen.phase, .int .i64 font, .int .i64 m0, .int .i64 m1, .int .i64 m2, .int .i64 m3, .int .i64 m4, .int .i64 m5, .slice Ab bytes.length cb] := ⟨_, rfl⟩
  have x14 : X[14]? = some (.int .i64 font) := by rw [hX]; rfl
  have x15 : X[15]? = some (.int .i64 m0) := by rw [hX]; rfl
  have x16 : X[16]? = some (.int .i64 m1) := by rw [hX]; rfl
  have x17 : X[17]? = some (.int .i64 m2) := by rw [hX]; rfl
  have x18 : X[18]? = some (.int .i64 m3) := by rw [hX]; rfl
  have x19 : X[19]? = some (.int .i64 m4) := by rw [hX]; rfl
  have x20 : X[20]? = some (.int .i64 m5) := by rw [hX]; rfl
  have x21 : X[21]? = some (.slice Ab bytes.length cb) := by rw [hX]; rfl
  have c14 : (w.alloc (.cells X 50)).cell? ⟨w.heap.size, 14, none⟩ = some (.int .i64 font) := by rw [Lib.cell_of_heap (heap_alloc_new w _)]; exact x14
  have HCON := Lib.hid (fun n => contains_calls ((w.alloc (.cells X 50)).drewN n) _ vf fs font (by omega) (owns_drewN (hf.alloc _) n))
  have HOWN := Lib.hid (fun n Y => (owns_drewN (hf.alloc (.cells X 50)) n).alloc Y)
  have HSZ := Lib.hid (show ∀ n Y, (((w.alloc (.cells X 50)).drewN n).alloc Y).heap.size = w.heap.size + 2 from fun n Y => by
    show ((w.alloc _).heap.push Y).size = _
    rw [Array.size_push]
    simp)
  have HBS := Lib.hid (show ∀ n Y, w0.heap.size ≤ (((w.alloc (.cells X 50)).drewN n).alloc Y).heap.size from fun n Y => by rw [HSZ.out]; have := h0.size; omega)
  have HNEW := Lib.hid (show ∀ n j u, [Value.int .i64 font][j]? = some u → (((w.alloc (.cells X 50)).drewN n).alloc (.cells #[.int .i64 font] 3)).cell? ((⟨w.heap.size + 1, 0, none⟩ : Addr).add j) = some u from fun n j u hj => by
    have h1 := text_cells ((w.alloc (.cells X 50)).drewN n) #[.int .i64 font] 3 [.int .i64 font] rfl j u hj
    have h2 : ((w.alloc (.cells X 50)).drewN n).heap.size = w.heap.size + 1 := by show (w.alloc _).heap.size = _; simp
    rw [h2] at h1
    exact h1)
  have HL63 := Lib.hid (show fs.length + 1 ≤ maxLen from by unfold maxLen; omega)
  have HL47 := Lib.hid (show (fs.length + 1) * 8 ≤ 140737488355328 from by omega)
  have HOLT := Lib.hid hf.lt
  have HFO := Lib.hid hfo
  have HOKN := Lib.hid hok
  have HBW := Lib.hid hB
  have HFW := Lib.hid hf
  have HX := Lib.hid hX
  have HSET := Lib.hid hset
  have HRS := Lib.hid hRS
  have HD := Lib.hid hD
  have HC := Lib.hid hC
  have HT := Lib.hid ht
  have HBY := Lib.hid (fun W (hW : Below w0.heap.size w0 W) => hb1.keep hW)
  have HKEEP := Lib.hid (show ∀ W, Fr (but ok w.heap.size) (w.alloc (.cells X 50)) W → Below w0.heap.size w0 W from fun W hW => keeps (h0.trans ((below_alloc w _).mono h0.size)) hW (fun q hq => hok0 q hq.1))
  have hadd : addFont fs font = if fs.contains font then fs else fs ++ [font] := rfl
  obtain ⟨fs', hfs'⟩ : ∃ fs', fs' = addFont fs font := ⟨_, rfl⟩
  rw [← hfs']
  rw [hadd] at hfs'
  clear hadd
  generalize fs.contains font = q at *
  have HFS := Lib.hid hfs'
  rw [← hX]
  clear hB hf hfo hok h0 hok0 ht hb1 hD hC hset hget hRS hX hfs' hp1 hc1 hd1
  go_enter Tryz.func47, Tryz.ntmps47
  rw [HX.out]
  go_wp2_with fail
  rw [← HX.out]
  go_quiet ((go_at_call 81; exact Calls.quiet_of_same (HCON.out _)))
  go_upto_if 13 with fail
  go_cut [] (fun wx => ∃ vf', Hid (BufAt 5 T (RS vf') (but (okF ok vf') w.heap.size) b bs wx) ∧ Hid (wx.ownsRow w0.heap.size 3 1 vf' fs'.length (fs'.map (Value.int .i64))) ∧ Hid (∀ k, vf'.ownBlock = some k → ok k) ∧ Hid (Fr (but ok w.heap.size) (w.alloc (.cells X 50)) wx))
  case first =>
    cases q with
    | true =>
      have P1 : Hid (BufAt 5 T (RS vf) (but (okF ok vf) w.heap.size) b bs ((w.alloc (.cells X 50)).drewN nq)) := ((HBW.out.imp (ok' := but (okF ok vf) w.heap.size) fun q hq ho => ⟨ho, by omega⟩).alloc _).below (below_drewN (Below.refl _ _) nq)
      have P2 : Hid (((w.alloc (.cells X 50)).drewN nq).ownsRow w0.heap.size 3 1 vf fs'.length (fs'.map (Value.int .i64))) := by
        show World.ownsRow _ _ _ _ _ _ _
        rw [HFS.out]
        exact owns_drewN (HFW.out.alloc _) nq
      have P3 : Hid (Fr (but ok w.heap.size) (w.alloc (.cells X 50)) ((w.alloc (.cells X 50)).drewN nq)) := Fr.drewN (Fr.refl _ _) nq
      go_wp2_with fail
      go_meet
      exact ⟨vf, P1, P2, HFO, P3⟩
    | false =>
      go_wp2_with fail
      go_region_law (
        go_loud (refine step_append_lies _ rfl (.tmp 18) (.tmp 21) 28 rfl w0.heap.size 3 i0 (.int .i64 0) 1 8 Tryz.underlying28 hi hz0 hz1 hz2 rfl (by decide) vf fs.length (fs.map (Value.int .i64)) (by simp [Act.eval]) (HOWN.out _ _) ⟨w.heap.size + 1, 0, none⟩ 1 1 [.int .i64 font] (by simp [Act.eval]) rfl (HNEW.out _) (oneCells _ rfl) (by decide) HL63.out HL47.out (HBS.out _ _) (w.heap.size + 2) (HSZ.out _ _) ?_)
        intro g cap w' hown' hgrow hg hlt
        have HOWN' := Lib.hid hown'
        have HGROW := Lib.hid hgrow
        have HG := Lib.hid hg
        have hbk : w'.heap[b]? = w.heap[b]? := (hgrow.block b (by rw [HSZ.out]; omega) (fun he => HBW.out.ok_.2 he)).trans ((Lib.alloc_old _ _ b (by show b < (w.alloc _).heap.size; simp; omega)).trans (Lib.alloc_old w _ b hblt))
        have y1 : w'.cell? ⟨b, 36, none⟩ = some vf := (World.cell?_of_block (w := w) hbk).trans hfc
        have y2 : w'.frozen? ⟨b, 36, none⟩ = false := (World.frozen?_of_block (w := w) hbk).trans (BufAt.fz HBW.out 36)
        clear hown' hgrow hg hlt hbk)
      all_goals (
        have hgr := HGROW.out
        have hg : g = w.heap.size + 2 ∨ vf.ownBlock = some g := HG.out.symm
        have hgok : ok g := by
          rcases hg with rfl | hg
          · exact HOKN.out _ (by omega)
          · exact HFO.out _ hg
        have hbg : b ≠ g := fun he => by
          rcases hg with h1 | h1
          · omega
          · exact HBW.out.ok_.2 (by rw [he]; exact h1.symm)
        have hkp : ∀ k, k < w.heap.size → okF ok vf k → w'.heap[k]? = w.heap[k]? := fun k hk ho => (hgr.block k (by rw [HSZ.out]; omega) (fun he => ho.2 he)).trans ((Lib.alloc_old _ _ k (by show k < (w.alloc _).heap.size; simp; omega)).trans (Lib.alloc_old w _ k hk))
        have P1 : Hid (BufAt 5 T (RS (.slice (some ⟨g, 0, none⟩) (fs.length + 1) cap)) (but (okF ok (.slice (some ⟨g, 0, none⟩) (fs.length + 1) cap)) w.heap.size) b bs (w'.setCell ⟨b, 36, none⟩ (.slice (some ⟨g, 0, none⟩) (fs.length + 1) cap))) := by
          show BufAt _ _ _ _ _ _ _
          have h1 := (HBW.out.imp (ok' := fun k => okF ok vf k ∧ k ≠ g ∧ k ≠ w.heap.size) fun k hk ho => ⟨ho, fun he => by
            rcases hg with h1 | h1
            · omega
            · exact ho.2 (by rw [he]; exact h1.symm), by omega⟩).move (w' := w') fun k hk ho => hkp k hk ho.1
          have h2 := h1.set_rest 33 (.slice (some ⟨g, 0, none⟩) (fs.length + 1) cap)
          rw [HSET.out] at h2
          exact h2.imp fun k _ ho => ⟨⟨ho.1.1, fun he => ho.2.1 (Option.some.inj he)⟩, ho.2.2⟩
        have P2 : Hid ((w'.setCell ⟨b, 36, none⟩ (.slice (some ⟨g, 0, none⟩) (fs.length + 1) cap)).ownsRow w0.heap.size 3 1 (.slice (some ⟨g, 0, none⟩) (fs.length + 1) cap) fs'.length (fs'.map (Value.int .i64))) := by
          show World.ownsRow _ _ _ _ _ _ _
          have h1 := HOWN'.out
          rw [HFS.out, if_neg Bool.false_ne_true, List.length_append, List.map_append]
          exact owns_keep h1 fun k hk => Below.heap_setCell _ _ _ _ (fun he => hbg (by cases hk; exact he.symm))
        have P3 : Hid (∀ k, (Value.slice (some ⟨g, 0, none⟩) (fs.length + 1) cap).ownBlock = some k → ok k) := fun k hk => by cases hk; exact hgok
        have P4 : Hid (Fr (but ok w.heap.size) (w.alloc (.cells X 50)) (w'.setCell ⟨b, 36, none⟩ (.slice (some ⟨g, 0, none⟩) (fs.length + 1) cap))) := by
          show Fr _ _ _
          exact ((Fr.alloc (Fr.drewN (Fr.refl _ _) _) _).trans (Fr.grown0 hgr fun k hk => ⟨HFO.out k hk, by have := (HOLT.out k hk).2; omega⟩)).setCell (p := ⟨b, 36, none⟩) (.inr (show but ok w.heap.size b from ⟨HBW.out.ok_.1, by omega⟩)) _
        clear hgr hg hgok hbg hkp y1 y2
        go_wp2_with fail
        go_meet
        exact ⟨_, P1, P2, P3, P4⟩)
  case rest =>
    clear HCON HOWN HSZ HBS HNEW HL63 HL47 HFW HBW HFO hfc c14 hi hz0 hz1 hz2
    obtain ⟨vf', P1, P2, P3, P4⟩ := hcut
    generalize wc = w1 at *
    obtain ⟨okN, hokN⟩ : ∃ okN, okN = but (okF ok vf') w.heap.size := ⟨_, rfl⟩
    rw [← hokN] at P1
    have HOKE := Lib.hid hokN
    have HMO := Lib.hid (show ∀ W, Fr okN w1 W → Fr (but ok w.heap.size) (w.alloc (.cells X 50)) W from fun W hW => P4.out.trans (hW.mono fun q _ ho => by rw [hokN] at ho; exact ⟨ho.1.1, ho.2⟩))
    have HSZ1 : Hid (w.heap.size < w1.heap.size) := by
      have := P4.out.size
      simp at this
      show _ < _
      omega
    have HN := Lib.hid (show ∀ W, Fr okN w1 W → ∀ q, W.heap.size ≤ q → okN q from fun W hW q hq => by
      have h1 := HSZ1.out
      have h2 := hW.size
      rw [hokN]
      exact ⟨⟨HOKN.out q (by omega), fun he => by have := P2.out.lt q he.symm; omega⟩, by omega⟩)
    have HCE := Lib.hid (show ∀ W, Fr okN w1 W → ∀ j v, X[j]? = some v → W.cell? ⟨w.heap.size, j, none⟩ = some v from fun W hW j v hj => own_cell (HMO.out W hW) j v hj)
    have HBLT := Lib.hid (show b < w1.heap.size from P1.out.lt)
    have HBOK := Lib.hid (show okN b from P1.out.ok_)
    have HL0 := Lib.hid (show ∀ (op : ByteArray) (acc : List UInt8) (W : World), BufAt 5 T (RS vf') okN b acc W → Fr okN w1 W → op.size ≤ 16 → acc.length + 20 ≤ 140737488355328 →
        Calls Tryz.prog 21 #[.pointer (some ⟨b, 0, none⟩), .string op, .slice none 0 0] W fun e w' => e = .returned (.tuple #[]) ∧ BufAt 5 T (RS vf') okN b (acc ++ lineB [] op.data.toList) w' ∧ Fr okN w1 w' from fun op acc W hB hF hop hl =>
      (line_calls (T := T) (rest := RS vf') (ok := okN) (bs := acc) op [] none 0 W hop hB (HN.out W hF) (.inl rfl) (fun a ha => by cases ha) hl).mono fun e w' h' => ⟨h'.1, h'.2.1, hF.trans h'.2.2⟩)
    have HWS := Lib.hid (show ∀ (s : ByteArray) (acc : List UInt8) (W : World), BufAt 5 T (RS vf') okN b acc W → Fr okN w1 W → acc.length + s.size ≤ 140737488355328 →
        Calls Tryz.prog 48 #[.pointer (some ⟨b, 0, none⟩), .string s] W fun e w' => e = .returned (.tuple #[.int .i64 s.size, .nilIface]) ∧ BufAt 5 T (RS vf') okN b (acc ++ s.data.toList) w' ∧ Fr okN w1 w' from fun s acc W hB hF hl =>
      (writeString_any (T := T) (rest := RS vf') (ok := okN) (bs := acc) s W hB (HN.out W hF) hl).mono fun e w' h' => ⟨h'.1, h'.2.1, hF.trans h'.2.2⟩)
    have HX14 := Lib.hid x14; have HX21 := Lib.hid x21
    have HLM := Lib.hid (show ∀ (acc : List UInt8) (W : World), BufAt 5 T (RS vf') okN b acc W → Fr okN w1 W → acc.length + 200 ≤ 140737488355328 →
        Calls Tryz.prog 21 #[.pointer (some ⟨b, 0, none⟩), .string ⟨#[84, 109]⟩, .slice (some ⟨w.heap.size, 15, none⟩) 6 6] W fun e w' => e = .returned (.tuple #[]) ∧ BufAt 5 T (RS vf') okN b (acc ++ lineB [m0, m1, m2, m3, m4, m5] [84, 109]) w' ∧ Fr okN w1 w' from fun acc W hB hF hl =>
      (line_calls (T := T) (rest := RS vf') (ok := okN) (bs := acc) ⟨#[84, 109]⟩ [m0, m1, m2, m3, m4, m5] (some ⟨w.heap.size, 15, none⟩) 6 W (by decide) hB (HN.out W hF) (ints_cells W _ 15 _ (fun i hi => by
        match i, hi with
        | 0, _ => exact HCE.out W hF 15 _ x15
        | 1, _ => exact HCE.out W hF 16 _ x16
        | 2, _ => exact HCE.out W hF 17 _ x17
        | 3, _ => exact HCE.out W hF 18 _ x18
        | 4, _ => exact HCE.out W hF 19 _ x19
        | 5, _ => exact HCE.out W hF 20 _ x20)) (fun a ha _ hn => by cases ha; rw [hokN] at hn; exact hn.2 rfl) (by simp only [List.length_cons, List.length_nil]; omega)).mono fun e w' h' => ⟨h'.1, h'.2.1, hF.trans h'.2.2⟩)
    have F1 := Lib.hid (Fr.refl okN w1)
    clear hokN x14 x15 x16 x17 x18 x19 x20 x21 hblt
    go_wp2_with fail
    refine (HL0.out ⟨#[66, 84]⟩ bs w1 P1.out F1.out (by decide) (by omega)).mono ?_
    rintro e w2 ⟨rfl, b2, f2⟩
    have B2 : Hid (BufAt 5 T (RS vf') okN b (bs ++ [66, 84, 10]) w2) := b2
    have F2 := Lib.hid f2
    clear b2 f2
    have HI := Lib.hid (fun W (hW : Fr okN w1 W) => HI0.out W (HT.out.keep (HKEEP.out W (HMO.out W hW))))
    have A1 := fun W : World => run_string_add_sum (P := Tryz.prog) W ⟨#[47, 70]⟩ (asStr F) (by show 2 + _ ≤ _; omega)
    have A2 := fun W : World => run_string_add_sum (P := Tryz.prog) W (⟨#[47, 70]⟩ ++ asStr F) ⟨#[32, 49, 32, 84, 102, 10]⟩ (by rw [ByteArray.size_append]; show 2 + _ + 6 ≤ _; omega)
    have hsum : (⟨#[47, 70]⟩ ++ asStr F ++ ⟨#[32, 49, 32, 84, 102, 10]⟩ : ByteArray) = asStr ([47, 70] ++ F ++ [32, 49, 32, 84, 102, 10]) := by simp only [← asStr_append]; rfl
    have HSUM := Lib.hid hsum
    have HC14 := HCE.out w2 F2.out 14 _ HX14.out
    clear hsum
    go_upto_region 4 with fail
    go_cut [] (fun wx => Hid (BufAt 5 T (RS vf') okN b (bs ++ [66, 84, 10] ++ ([47, 70] ++ F ++ [32, 49, 32, 84, 102, 10])) wx) ∧ Hid (Fr okN w1 wx))
    case first =>
      go_region_with (first
        | (go_at_call 82
           go_loud (refine (HI.out _ (Fr.drew F2.out)).mono ?_)
           rintro e w3 ⟨rfl, q3⟩
           have BW := Lib.hid (BufAt.below (BufAt.drew B2.out) q3)
           have FW := Lib.hid ((Fr.drew F2.out).trans (Fr.of_below okN q3))
           clear q3)
        | (go_at_call 48
           go_loud (refine (HWS.out _ _ _ BW.out FW.out (by rw [HSUM.out, asStr_size]; simp only [List.length_append, List.length_cons, List.length_nil]; omega)).mono ?_)
           rintro e w4 ⟨rfl, b4, f4⟩
           have B4 := Lib.hid b4
           have F4 := Lib.hid f4
           clear b4 f4))
      all_goals (
        have B5 : Hid (BufAt 5 T (RS vf') okN b (bs ++ [66, 84, 10] ++ ([47, 70] ++ F ++ [32, 49, 32, 84, 102, 10])) w4) := by
          have h1 := B4.out
          rw [HSUM.out, asStr_data] at h1
          exact h1
        go_wp2_with fail
        go_meet
        exact ⟨B5, F4⟩)
    case rest =>
      clear HC14 A1 A2 B2 F2
      obtain ⟨B5, F5⟩ := hcut
      generalize wc = w5 at *
      go_wp2_with fail
      refine (HLM.out _ w5 B5.out F5.out (by simp only [List.length_append, List.length_cons, List.length_nil]; omega)).mono ?_
      rintro e w6 ⟨rfl, b6, f6⟩
      have B6 := Lib.hid b6
      have F6 := Lib.hid f6
      have c21 := HCE.out w6 f6 21 _ HX21.out
      obtain ⟨ds, hds⟩ : ∃ ds : ByteArray, ds = ⟨bytes.toArray⟩ := ⟨_, rfl⟩
      have hdsz : ds.size ≤ 65535 := by rw [hds]; show bytes.toArray.size ≤ _; simpa using hby
      have hdd : ds.data.toList = bytes := by rw [hds]
      have hcv : (convert 27 9 (.slice Ab bytes.length cb)).run Tryz.prog w6 = .ok (.string ds) w6 := by
        rw [hds]; exact convert_bytes w6 Ab cb bytes (HBY.out w6 (HKEEP.out _ (HMO.out _ f6)))
      have HDD := Lib.hid hdd
      have HP := Lib.hid (Print_text ds w6 hdsz)
      clear b6 f6 hds hdd
      go_wp2_with fail
      refine HP.out.mono ?_
      rintro e w7 ⟨g', c', rfl, k1, k2, k3, k4, k5⟩
      have B7 := Lib.hid (BufAt.below B6.out k5)
      have F7 := Lib.hid (F6.out.trans (Fr.of_below okN k5))
      have K2 := Lib.hid k2
      have htl : (textL ds.data.toList).length ≤ 4 * bytes.length + 2 := by rw [HDD.out]; exact textL_le bytes
      have hgb : g' ≠ b := by have := HBLT.out; have := F6.out.size; omega
      have HWR := Lib.hid ((write_src (T := T) (rest := RS vf') (ok := okN) (b := b) (textL ds.data.toList) (some ⟨g', 0, none⟩) c' w7 B7.out (HN.out _ F7.out) (fun a _ ha => by cases ha; exact hgb) k2 (by
        have := lineB_le [m0, m1, m2, m3, m4, m5] [84, 109]
        simp only [List.length_append, List.length_cons, List.length_nil] at this ⊢
        omega)).mono fun e w' h' => (⟨h'.1, h'.2.1, F7.out.trans h'.2.2⟩ : _ ∧ _ ∧ Fr okN w1 w'))
      clear k1 k2 k3 k4 k5 hcv c21 hgb
      rw [HDD.out] at *
      go_wp2_with fail
      refine HWR.out.mono ?_
      rintro e w8 ⟨rfl, b8, f8⟩
      have B8 := Lib.hid b8
      have F8 := Lib.hid f8
      clear b8 f8
      have hl8 : (bs ++ [66, 84, 10] ++ ([47, 70] ++ F ++ [32, 49, 32, 84, 102, 10]) ++ lineB [m0, m1, m2, m3, m4, m5] [84, 109] ++ textL bytes).length ≤ 140737488355328 - 100 := by
        have := lineB_le [m0, m1, m2, m3, m4, m5] [84, 109]
        simp only [List.length_append, List.length_cons, List.length_nil] at this ⊢
        omega
      have HL8 := Lib.hid hl8
      clear hl8
      go_wp2_with fail
      refine (HWS.out ⟨#[32, 84, 106, 10]⟩ _ w8 B8.out F8.out (by have := HL8.out; show _ + 4 ≤ _; omega)).mono ?_
      rintro e w9 ⟨rfl, b9, f9⟩
      have B9 := Lib.hid b9
      have F9 := Lib.hid f9
      clear b9 f9
      go_wp2_with fail
      refine (HL0.out ⟨#[69, 84]⟩ _ w9 B9.out F9.out (by decide) (by have := HL8.out; rw [List.length_append]; show _ + 4 + 20 ≤ _; omega)).mono ?_
      rintro e w10 ⟨rfl, b10, f10⟩
      have B10 := Lib.hid b10
      have F10 := Lib.hid f10
      clear b10 f10
      go_wp2_with fail
      go_end0
      have h1 := B10.out
      have hfr := HMO.out _ F10.out
      refine ⟨rfl, ⟨Ad, cd, Ao, co, Ac, cc, vf', ?_, HD.out, HC.out, owns_keep P2.out (fun q hq => F10.out.block q (P2.out.lt q hq).2 (fun ho => by rw [HOKE.out] at ho; exact ho.1.2 hq.symm)), P3.out⟩, (Fr.alloc (Fr.refl ok w) _).trans (hfr.mono fun q _ ho => ho.1)⟩
      rw [HRS.out] at h1
      have h2 := h1.imp (ok' := okF ok vf') fun q _ ho => by rw [HOKE.out] at ho; exact ho.1
      have hb : bs ++ [66, 84, 10] ++ ([47, 70] ++ F ++ [32, 49, 32, 84, 102, 10]) ++ lineB [m0, m1, m2, m3, m4, m5] [84, 109] ++ textL bytes ++ (ByteArray.data ⟨#[32, 84, 106, 10]⟩).toList ++ lineB [] (ByteArray.data ⟨#[69, 84]⟩).toList = bs ++ ([66, 84, 10, 47, 70] ++ F ++ [32, 49, 32, 84, 102, 10] ++ lineB [m0, m1, m2, m3, m4, m5] [84, 109] ++ textL bytes ++ [32, 84, 106, 10, 69, 84, 10]) := by
        show bs ++ [66, 84, 10] ++ ([47, 70] ++ F ++ [32, 49, 32, 84, 102, 10]) ++ lineB [m0, m1, m2, m3, m4, m5] [84, 109] ++ textL bytes ++ [32, 84, 106, 10] ++ [69, 84, 10] = _
        simp only [List.append_assoc, List.cons_append, List.nil_append]
      rw [hb] at h2
      exact h2
end Go.Proofs.YtdkgfgmmmjpkgaaGreatDoor

namespace Go.Proofs.YtdkgfgmmmjpkgaaGreatDoor
open Go.RowKit Go.Shelf

theorem ClipsAt.elem' {w : World} {A : Option Addr} {l : List ClipP} (h : ClipsAt w A l) (i : Nat) (hi : i < l.length) :
    ∃ b off Ap cap, A = some ⟨b, off, none⟩ ∧ w.cell? ⟨b, off + i * 2, none⟩ = some (.slice Ap l[i].path.length cap) ∧ w.cell? ⟨b, off + i * 2 + 1, none⟩ = some (.bool l[i].eo) ∧ PathAt w Ap l[i].path ∧ l[i].path.length ≤ maxLen := by
  obtain ⟨b, off, Ap, cap, h1, h2, h3, h4, h5, h6⟩ := h.elem i hi
  exact ⟨b, off, Ap, cap, h1, h2, h3, h4, Nat.le_trans h5 h6⟩

set_option maxHeartbeats 1600000 in
set_option maxRecDepth 100000 in
theorem wsame_calls (a b : List SegP) (ea eb : Bool) (A B : Option Addr) (ca cb : Nat) (w : World) (ha : PathAt w A a) (hb : PathAt w B b) (hal : a.length ≤ maxLen) (hbl : b.length ≤ maxLen) :
    Calls Tryz.prog 76 #[.agg #[.slice A a.length ca, .bool ea], .agg #[.slice B b.length cb, .bool eb]] w fun e w' => e = .returned (.bool ((ea == eb) && eqPath a b)) ∧ Below w.heap.size w w' := by
  have HE := Lib.hid (fun X Y => equalSegs_calls a b A B ca cb ((w.alloc X).alloc Y) ((ha.keep (below_alloc w X)).keep (below_alloc _ Y)) ((hb.keep (below_alloc w X)).keep (below_alloc _ Y)) hal hbl)
  have HB := Lib.hid (fun X Y => (below_alloc w X).trans ((below_alloc (w.alloc X) Y).mono (by simp)))
  clear ha hb
  generalize eqPath a b = r at *
  cases he : (ea == eb) with
  | false =>
    go_enter Tryz.func76, Tryz.ntmps76
    go_wp2_with fail
    go_ret
    exact ⟨rfl, HB.out _ _⟩
  | true =>
    go_enter Tryz.func76, Tryz.ntmps76
    go_wp2_with fail
    refine (HE.out _ _).mono ?_
    rintro e w1 ⟨rfl, q1⟩
    have Q1 := Lib.hid ((HB.out _ _).trans (q1.mono (HB.out _ _).size))
    clear q1
    go_wp2_with fail
    go_ret
    exact ⟨ret_bool (by simp), Q1.out⟩

set_option maxHeartbeats 3200000 in
set_option maxRecDepth 100000 in
theorem equalClips_calls (a b : List ClipP) (A B : Option Addr) (ca cb : Nat) (w : World) (ha : ClipsAt w A a) (hb : ClipsAt w B b) (hal : a.length ≤ maxLen) :
    Calls Tryz.prog 75 #[.slice A a.length ca, .slice B b.length cb, .func (.func 76) #[] #[]] w fun e w' => e = .returned (.bool (eqClips a b)) ∧ Below w.heap.size w w' := by
  unfold maxLen at hal
  have HA := Lib.hid (fun W (h : Below w.heap.size w W) => ha.keep h)
  have HB := Lib.hid (fun W (h : Below w.heap.size w W) => hb.keep h)
  clear ha hb
  by_cases hne : a.length = b.length
  rotate_left
  · have hr := eqClips_len a b hne
    have HR := Lib.hid hr
    have hne' : ((a.length : Int) == b.length) = false := beq_eq_false_iff_ne.2 (by omega)
    clear hr
    go_enter Tryz.func75, Tryz.ntmps75
    go_wp2_with fail
    go_ret
    exact ⟨ret_bool HR.out.symm, Below.refl _ _⟩
  have hn1 : ((a.length : Int) != b.length) = false := by rw [hne]; simp
  have HNE := Lib.hid hne
  clear hne
  generalize hr : eqClips a b = R
  have HR0 : Hid (eqClips (a.drop 0) (b.drop 0) = R) := hr
  clear hr
  have HB0 := Lib.hid (Below.refl w.heap.size w)
  go_enter Tryz.func75, Tryz.ntmps75
  go_wp2_with fail
  clear hn1
  go_loopw [17] (fun v wr => ∃ i : Nat, i ≤ a.length ∧ v = .int .i64 i ∧ Hid (eqClips (a.drop i) (b.drop i) = R) ∧ Hid (Below w.heap.size w wr)) (fun v _ => a.length - (intOf v).toNat)
  case atStart => exact ⟨0, Nat.zero_le _, rfl, HR0, HB0⟩
  case round =>
    clear HR0 HB0
    obtain ⟨i, hi, rfl, hE, hw⟩ := hrel
    by_cases hlt : i < a.length
    · have hltb : i < b.length := by rw [← HNE.out]; exact hlt
      obtain ⟨ab, aoff, Ap, cap, hA, hca0, hca1, hpa, hla⟩ := (HA.out wr hw.out).elem' i hlt
      obtain ⟨bb, boff, Bp, cbp, hB, hcb0, hcb1, hpb, hlb⟩ := (HB.out wr hw.out).elem' i hltb
      have hst := eqClips_step a b i hlt hltb
      have hblk1 := World.block_lt_of_cell? wr _ hcb0
      have hblk2 := World.block_lt_of_cell? wr _ hca0
      simp only at hblk1 hblk2
      subst hA
      subst hB
      generalize a[i] = x at *
      generalize b[i] = y at *
      obtain ⟨xp, xe⟩ := x
      obtain ⟨yp, ye⟩ := y
      simp only at hca0 hca1 hcb0 hcb1 hpa hpb hla hlb
      have hec : eqClip ⟨xp, xe⟩ ⟨yp, ye⟩ = ((xe == ye) && eqPath xp yp) := rfl
      rw [hec] at hst
      have HS := Lib.hid (fun X Y => wsame_calls xp yp xe ye Ap Bp cap cbp ((wr.alloc X).alloc Y) ((hpa.keep (below_alloc wr X)).keep (below_alloc _ Y)) ((hpb.keep (below_alloc wr X)).keep (below_alloc _ Y)) hla hlb)
      generalize ((xe == ye) && eqPath xp yp) = r at *
      have HST := Lib.hid hst
      have HBW := Lib.hid (fun X Y => (below_alloc wr X).trans ((below_alloc (wr.alloc X) Y).mono (by simp)))
      clear hst hpa hpb hec hla hlb
      go_wp2_with fail
      refine (HS.out _ _).mono ?_
      rintro e w1 ⟨rfl, q1⟩
      have Q1 := Lib.hid (hw.out.trans (((HBW.out _ _).trans (q1.mono (HBW.out _ _).size)).mono hw.out.size))
      clear q1 hca0 hca1 hcb0 hcb1
      cases r with
      | false =>
        have HF : Hid (R = false) := by
          show R = false
          rw [← hE.out, HST.out]; rfl
        go_wp2_with fail
        go_ret
        exact ⟨ret_bool HF.out.symm, Q1.out⟩
      | true =>
        have HF : Hid (eqClips (a.drop (i + 1)) (b.drop (i + 1)) = R) := by
          show _ = R
          rw [← hE.out, HST.out]; rfl
        go_wp2_with fail
        go_roundw
        case rel => exact ⟨i + 1, by omega, by go_num, HF, Q1⟩
        case measure => simp [intOf]; omega
    · obtain rfl : i = a.length := by omega
      have HF : Hid (R = true) := by
        show R = true
        rw [← hE.out, List.drop_of_length_le (Nat.le_refl _), List.drop_of_length_le (by rw [HNE.out]; exact Nat.le_refl _)]; rfl
      go_wp2_with fail
      go_ret
      exact ⟨ret_bool HF.out.symm, hw.out⟩
end Go.Proofs.YtdkgfgmmmjpkgaaGreatDoor
