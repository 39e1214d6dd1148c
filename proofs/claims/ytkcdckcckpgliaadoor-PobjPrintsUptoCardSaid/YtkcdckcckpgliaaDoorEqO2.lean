/- The reference's Equal as the machine runs it: the elements. -/
import Derived.Test.YtkcdckcckpgliaaDoorEqO
namespace Go.Proofs.YtkcdckcckpgliaaDoor
open Go.RowKit Go.Shelf

set_option maxHeartbeats 6400000 in
set_option maxRecDepth 100000 in
theorem equal_good (m : _root_.Nat) (H : EqAt m) (a b : PO) (va vb : Array Value) (w : World) (hm : SizeOf.sizeOf a < m + 1) (ha : ORd w a va) (hb : ORd w b vb)
    (hgood : ((a.k == b.k) && (a.n == b.n) && (a.t.toList == b.t.toList) && eqS a.ks b.ks && eqL a.d b.d && ((a.l.length : Int) == b.l.length)) = true) :
    Calls Tryd.prog 13 #[.agg va, .agg vb] w fun e w' => e = .returned (.bool (eqOs a.l b.l)) ∧ Below w.heap.size w w' := by
  obtain ⟨cs, hks, hkc, hkm, hl, hc, hlc, hlm, hd, hdc, hdm, htz, hkt⟩ := ha
  rename_i k n t ks l d Ak Al Ad ck cl cd
  obtain ⟨cs', hks', hkc', hkm', hl', hc', hlc', hlm', hd', hdc', hdm', htz', hkt'⟩ := hb
  rename_i k' n' t' ks' l' d' Ak' Al' Ad' ck' cl' cd'
  simp only [Bool.and_eq_true] at hgood
  obtain ⟨⟨⟨⟨⟨g1, g2⟩, h3⟩, g4⟩, g5⟩, g6⟩ := hgood
  obtain rfl := eq_of_beq g1
  obtain rfl := eq_of_beq g2
  have hlen : l.length = l'.length := by have := eq_of_beq g6; omega
  have hlt' : ∀ i (h : i < l.length), SizeOf.sizeOf l[i] < m := fun i h => by
    have h1 := List.sizeOf_lt_of_mem (List.getElem_mem h)
    have h2 : SizeOf.sizeOf (⟨k, n, t, ks, l, d⟩ : PO) = 1 + SizeOf.sizeOf k + SizeOf.sizeOf n + SizeOf.sizeOf t + SizeOf.sizeOf ks + SizeOf.sizeOf l + SizeOf.sizeOf d := PO.mk.sizeOf_spec ..
    omega
  have hb0 : ∀ X Y, Below w.heap.size w ((w.alloc X).alloc Y) := fun X Y => (below_alloc w X).trans ((below_alloc (w.alloc X) Y).mono (by simp))
  have HB := Lib.hid hb0
  have HT := Lib.hid (fun W (h : Below w.heap.size w W) => g4 ▸ texts_calls ks ks' Ak Ak' ck ck' W (hks.keep h) (hks'.keep h) (by omega) (by omega))
  have HS := Lib.hid (fun W (h : Below w.heap.size w W) => g5 ▸ same_calls d d' Ad Ad' cd cd' W (hd.keep h) (hd'.keep h) (by omega) (by omega))
  have HL := Lib.hid hl; have HL' := Lib.hid hl'; have HC := Lib.hid hc; have HC' := Lib.hid hc'
  have HH := Lib.hid (show ∀ (i : _root_.Nat) (h : i < l.length) (y : PO) (va vb : Array Value) (W : World), ORd W l[i] va → ORd W y vb → Calls Tryd.prog 13 #[.agg va, .agg vb] W fun e w' => e = .returned (.bool (eqO l[i] y)) ∧ Below W.heap.size W w' from fun i h y va vb W h1 h2 => H l[i] y va vb W (hlt' i h) h1 h2)
  have HLEN := Lib.hid hlen
  have hn1 : l.length ≤ l'.length := by omega
  have hn2 : l'.length ≤ l.length := by omega
  simp only
  generalize hr : eqOs l l' = R
  have HR0 : Hid (eqOs (l.drop 0) (l'.drop 0) = R) := hr
  clear hks hl hc hd hkt hks' hl' hc' hd' hkt' hb0 g1 g2 g4 g5 g6 hlt' hr hm H hlen
  have HB' := Lib.hid (show ∀ X Y W, Below ((w.alloc X).alloc Y).heap.size ((w.alloc X).alloc Y) W → Below w.heap.size w W from fun X Y W h => (HB.out X Y).trans (h.mono (HB.out X Y).size))
  have HBC := Lib.hid (show ∀ X Y W, Below ((w.alloc X).alloc Y).heap.size ((w.alloc X).alloc Y) W → (∀ b o, b < w.heap.size + 2 → W.cell? ⟨b, o, none⟩ = ((w.alloc X).alloc Y).cell? ⟨b, o, none⟩) from fun X Y W h b o hlt => h.cell (p := ⟨b, o, none⟩) (by simpa using hlt))
  go_enter Tryd.func13, Tryd.ntmps13
  go_wp2_with fail
  refine (HT.out _ (HB.out _ _)).mono ?_
  rintro e w1 ⟨rfl, q1⟩
  have B1 := Lib.hid (HB'.out _ _ _ q1)
  have c1 := HBC.out _ _ _ q1
  have hz1 := q1.size
  simp only [World.size_alloc] at hz1
  have d5 := c1 w.heap.size 5 (by omega)
  have e5 := c1 (w.heap.size + 1) 5 (by omega)
  have d4 := c1 w.heap.size 4 (by omega)
  have e4 := c1 (w.heap.size + 1) 4 (by omega)
  have Q1 := Lib.hid q1
  clear c1 q1
  go_wp2_with fail
  refine (HS.out _ B1.out).mono ?_
  rintro e w2 ⟨rfl, q2⟩
  have B2 := Lib.hid (HB'.out _ _ _ (Q1.out.trans (q2.mono Q1.out.size)))
  have c2 := HBC.out _ _ _ (Q1.out.trans (q2.mono Q1.out.size))
  have g4 := c2 w.heap.size 4 (by omega)
  have k4 := c2 (w.heap.size + 1) 4 (by omega)
  have hz2 := q2.size
  have hcl : w2.cell? ⟨w.heap.size, 4, none⟩ = some (.slice Al l.length cl) := by rw [g4]; go_simp
  have hcr : w2.cell? ⟨w.heap.size + 1, 4, none⟩ = some (.slice Al' l'.length cl') := by rw [k4]; go_simp
  clear c2 q2 d5 e5 d4 e4 g4 k4
  go_wp2_with fail
  try (rename (l.length : Int) = (l'.length : Int) => hq9; clear hq9)
  try (rename ((l.length : Int) != (l'.length : Int)) = false => hq9; clear hq9)
  clear hn1 hn2
  have HCL := Lib.hid hcl; have HCR := Lib.hid hcr
  have HW0 := Lib.hid (Below.refl w2.heap.size w2)
  have hsz2 : w.heap.size + 1 < w2.heap.size := by omega
  clear hcl hcr
  generalize w2 = wm at *
  go_loopw [5] (fun v wr => ∃ i : _root_.Nat, i ≤ l.length ∧ v = .int .i64 i ∧ Hid (eqOs (l.drop i) (l'.drop i) = R) ∧ Hid (Below wm.heap.size wm wr)) (fun v _ => l.length - (intOf v).toNat)
  case atStart => exact ⟨0, Nat.zero_le _, rfl, HR0, HW0⟩
  case round =>
    clear HR0 HW0
    obtain ⟨i, hi, rfl, hE, hw⟩ := hrel
    have hcl := (hw.out.cell (p := ⟨w.heap.size, 4, none⟩) (by show w.heap.size < _; omega)).trans HCL.out
    have hcr := (hw.out.cell (p := ⟨w.heap.size + 1, 4, none⟩) (by show w.heap.size + 1 < _; omega)).trans HCR.out
    have hbw : Below w.heap.size w wr := B2.out.trans (hw.out.mono B2.out.size)
    by_cases hlt : i < l.length
    · have hltb : i < l'.length := by rw [← HLEN.out]; exact hlt
      obtain ⟨lb, loff, hAl, hcell⟩ := RowAt.elem HC.out i hlt
      obtain ⟨mb, moff, hAl', hcell'⟩ := RowAt.elem HC'.out i hltb
      have hx := HL.out i hlt
      have hy := HL'.out i hltb
      have HXX := Lib.hid (fun W (h : Below w.heap.size w W) => hx.keep h)
      have HYY := Lib.hid (fun W (h : Below w.heap.size w W) => hy.keep h)
      have HHC := Lib.hid (show ∀ (va vb : Array Value) (W : World), ORd W l[i] va → ORd W l'[i] vb → Calls Tryd.prog 13 #[.agg va, .agg vb] W fun e w' => e = .returned (.bool (eqO l[i] l'[i])) ∧ Below W.heap.size W w' from fun va vb W h1 h2 => HH.out i hlt l'[i] va vb W h1 h2)
      have hst := eqOs_step l l' i hlt hltb
      generalize l[i] = x at *
      generalize l'[i] = y at *
      generalize cs i = ci at *
      generalize cs' i = ci' at *
      obtain ⟨xn, xt, xAk, xck, xAl, xcl, xAd, xcd, rfl⟩ := hx.agg
      obtain ⟨yn, yt, yAk, yck, yAl, ycl, yAd, ycd, rfl⟩ := hy.agg
      have hcc : ∀ j v, _ → wr.cell? ⟨lb, loff + i * 6 + j, none⟩ = some v := fun j v hj => (hbw.cell (World.block_lt_of_cell? w _ (hcell j v hj))).trans (hcell j v hj)
      have hdd : ∀ j v, _ → wr.cell? ⟨mb, moff + i * 6 + j, none⟩ = some v := fun j v hj => (hbw.cell (World.block_lt_of_cell? w _ (hcell' j v hj))).trans (hcell' j v hj)
      have e0 := hcc 0 _ rfl
      have e1 := hcc 1 _ rfl
      have e2 := hcc 2 _ rfl
      have e3 := hcc 3 _ rfl
      have e4 := hcc 4 _ rfl
      have e5 := hcc 5 _ rfl
      have d0 := hdd 0 _ rfl
      have d1 := hdd 1 _ rfl
      have d2 := hdd 2 _ rfl
      have d3 := hdd 3 _ rfl
      have d4 := hdd 4 _ rfl
      have d5 := hdd 5 _ rfl
      simp only [Nat.add_zero] at e0 d0
      have HB0 := Lib.hid hbw
      subst hAl
      subst hAl'
      generalize eqO x y = bb at hst HHC
      have HST := Lib.hid hst
      clear hx hy hcell hcell' hcc hdd hbw hst
      go_wp2_with fail
      go_still_tail 10, (by kernel_rfl)
      change wpList _ _ _ _ _ wr.drew
      go_wp2_with fail
      refine (HHC.out _ _ _ (HXX.out _ (below_drew' HB0.out)) (HYY.out _ (below_drew' HB0.out))).mono ?_
      rintro e w3 ⟨rfl, q3⟩
      have hw3 : Below wm.heap.size wm w3 := (below_drew' hw.out).trans (q3.mono (below_drew' hw.out).size)
      have HW3 := Lib.hid hw3
      have HB3 := Lib.hid (B2.out.trans (hw3.mono B2.out.size))
      clear q3 hw3 e0 e1 e2 e3 e4 e5 d0 d1 d2 d3 d4 d5 hcl hcr
      cases bb with
      | false =>
        have HF : Hid (R = false) := by
          show R = false
          rw [← hE.out, HST.out]; rfl
        go_wp2_with fail
        go_ret
        exact ⟨ret_bool HF.out.symm, HB3.out⟩
      | true =>
        have HF : Hid (eqOs (l.drop (i + 1)) (l'.drop (i + 1)) = R) := by
          show _ = R
          rw [← hE.out, HST.out]; rfl
        go_wp2_with fail
        go_roundw
        case rel => exact ⟨i + 1, by omega, by go_num, HF, HW3⟩
        case measure => simp [intOf]; omega
    · obtain rfl : i = l.length := by omega
      have HF : Hid (R = true) := by
        show R = true
        rw [← hE.out, List.drop_of_length_le (Nat.le_refl _), List.drop_of_length_le (by rw [HLEN.out]; exact Nat.le_refl _), eqOs]
      have HB0 := Lib.hid hbw
      go_wp2_with fail
      go_ret
      exact ⟨ret_bool HF.out.symm, HB0.out⟩

theorem eqO_parts (a b : PO) : eqO a b = (((a.k == b.k) && (a.n == b.n) && (a.t.toList == b.t.toList) && eqS a.ks b.ks && eqL a.d b.d && ((a.l.length : Int) == b.l.length)) && eqOs a.l b.l) := by
  cases a; cases b; rw [eqO]
theorem equal_all : ∀ m, EqAt m
  | 0 => fun a _ _ _ _ h => absurd h (Nat.not_lt_zero _)
  | m + 1 => fun a b va vb w hm ha hb => by
    rw [eqO_parts]
    cases hg : ((a.k == b.k) && (a.n == b.n) && (a.t.toList == b.t.toList) && eqS a.ks b.ks && eqL a.d b.d && ((a.l.length : Int) == b.l.length)) with
    | true => rw [Bool.true_and]; exact equal_good m (equal_all m) a b va vb w hm ha hb hg
    | false => exact equal_bad a b va vb w ha hb hg
theorem rEqual_calls (a b : PO) (va vb : Array Value) (w : World) (ha : ORd w a va) (hb : ORd w b vb) :
    Calls Tryd.prog 13 #[.agg va, .agg vb] w fun e w' => e = .returned (.bool (eqO a b)) ∧ Below w.heap.size w w' := equal_all _ a b va vb w (Nat.lt_succ_self _) ha hb
end Go.Proofs.YtkcdckcckpgliaaDoor
