/- The reference's Equal as the machine runs it. -/
import Derived.Test.YtkcdckcckpgliaaDoorEq
import Derived.Test.YtkcdckcckpgliaaDoorSnd3
import Derived.StillTailTactics
import Derived.Outline
namespace Go.Proofs.YtkcdckcckpgliaaDoor
open Go.RowKit Go.Shelf

mutual
def eqO : PO → PO → Bool
  | ⟨k, n, t, ks, l, d⟩, ⟨k', n', t', ks', l', d'⟩ => (k == k') && (n == n') && (t.toList == t'.toList) && eqS ks ks' && eqL d d' && ((l.length : Int) == l'.length) && eqOs l l'
def eqOs : List PO → List PO → Bool
  | [], [] => true
  | x :: a, y :: b => eqO x y && eqOs a b
  | _, _ => false
end
theorem eqOs_step (a b : List PO) (i : Nat) (ha : i < a.length) (hb : i < b.length) : eqOs (a.drop i) (b.drop i) = (eqO a[i] b[i] && eqOs (a.drop (i + 1)) (b.drop (i + 1))) := by
  rw [List.drop_eq_getElem_cons ha, List.drop_eq_getElem_cons hb, eqOs]
def EqAt (m : _root_.Nat) : Prop := ∀ (a b : PO) (va vb : Array Value) (w : World), SizeOf.sizeOf a < m → ORd w a va → ORd w b vb →
  Calls Tryd.prog 13 #[.agg va, .agg vb] w fun e w' => e = .returned (.bool (eqO a b)) ∧ Below w.heap.size w w'

set_option maxHeartbeats 3200000 in
set_option maxRecDepth 100000 in
theorem equal_bad (a b : PO) (va vb : Array Value) (w : World) (ha : ORd w a va) (hb : ORd w b vb)
    (hbad : ((a.k == b.k) && (a.n == b.n) && (a.t.toList == b.t.toList) && eqS a.ks b.ks && eqL a.d b.d && ((a.l.length : Int) == b.l.length)) = false) :
    Calls Tryd.prog 13 #[.agg va, .agg vb] w fun e w' => e = .returned (.bool false) ∧ Below w.heap.size w w' := by
  obtain ⟨cs, hks, hkc, hkm, hl, hc, hlc, hlm, hd, hdc, hdm, htz, hkt⟩ := ha
  rename_i k n t ks l d Ak Al Ad ck cl cd
  obtain ⟨cs', hks', hkc', hkm', hl', hc', hlc', hlm', hd', hdc', hdm', htz', hkt'⟩ := hb
  rename_i k' n' t' ks' l' d' Ak' Al' Ad' ck' cl' cd'
  simp only at hbad
  have hb0 : ∀ X Y, Below w.heap.size w ((w.alloc X).alloc Y) := fun X Y => (below_alloc w X).trans ((below_alloc (w.alloc X) Y).mono (by simp))
  have HB := Lib.hid hb0
  have HT := Lib.hid (fun W (h : Below w.heap.size w W) => texts_calls ks ks' Ak Ak' ck ck' W (hks.keep h) (hks'.keep h) (by omega) (by omega))
  have HS := Lib.hid (fun W (h : Below w.heap.size w W) => same_calls d d' Ad Ad' cd cd' W (hd.keep h) (hd'.keep h) (by omega) (by omega))
  clear hks hl hc hd hkt hks' hl' hc' hd' hkt' hb0
  generalize hts : eqS ks ks' = ts at *
  generalize hss : eqL d d' = ss at *
  have HB' := Lib.hid (show ∀ X Y W, Below ((w.alloc X).alloc Y).heap.size ((w.alloc X).alloc Y) W → Below w.heap.size w W from fun X Y W h => (HB.out X Y).trans (h.mono (HB.out X Y).size))
  have HBC := Lib.hid (show ∀ X Y W, Below ((w.alloc X).alloc Y).heap.size ((w.alloc X).alloc Y) W → (∀ b o, b < w.heap.size + 2 → W.cell? ⟨b, o, none⟩ = ((w.alloc X).alloc Y).cell? ⟨b, o, none⟩) from fun X Y W h b o hlt => h.cell (p := ⟨b, o, none⟩) (by simpa using hlt))
  clear hts hss
  by_cases h1 : k = k'
  rotate_left
  · have hk := h1
    go_enter Tryd.func13, Tryd.ntmps13
    go_wp2_with fail
    go_ret
    exact ⟨rfl, HB.out _ _⟩
  subst h1
  by_cases h2 : n = n'
  rotate_left
  · have hk := h2
    go_enter Tryd.func13, Tryd.ntmps13
    go_wp2_with fail
    go_ret
    exact ⟨rfl, HB.out _ _⟩
  subst h2
  cases h3 : (t.toList == t'.toList) with
  | false =>
    go_enter Tryd.func13, Tryd.ntmps13
    go_wp2_with fail
    go_ret
    exact ⟨rfl, HB.out _ _⟩
  | true =>
  rw [h3] at hbad
  simp only [beq_self_eq_true, Bool.true_and, Bool.and_true] at hbad
  go_enter Tryd.func13, Tryd.ntmps13
  go_wp2_with fail
  refine (HT.out _ (HB.out _ _)).mono ?_
  rintro e w1 ⟨rfl, q1⟩
  have B1 := Lib.hid (HB'.out _ _ _ q1)
  have c1 := HBC.out _ _ _ q1
  have hz1 := q1.size
  simp only [World.size_alloc] at hz1
  have d5 := c1 w.heap.size 5 (by omega)
  have e5 := c1 (w.heap.size + 1) 5 (by omega)
  have d4 := c1 w.heap.size 4 (by omega)
  have e4 := c1 (w.heap.size + 1) 4 (by omega)
  have Q1 := Lib.hid q1
  clear c1 q1
  cases ts with
  | false =>
    go_wp2_with fail
    go_ret
    exact ⟨rfl, B1.out⟩
  | true =>
  go_wp2_with fail
  refine (HS.out _ B1.out).mono ?_
  rintro e w2 ⟨rfl, q2⟩
  have B2 := Lib.hid (HB'.out _ _ _ (Q1.out.trans (q2.mono Q1.out.size)))
  have c2 := HBC.out _ _ _ (Q1.out.trans (q2.mono Q1.out.size))
  have g4 := c2 w.heap.size 4 (by omega)
  have k4 := c2 (w.heap.size + 1) 4 (by omega)
  clear c2 q2 d5 e5 d4 e4
  cases ss with
  | false =>
    go_wp2_with fail
    go_ret
    exact ⟨rfl, B2.out⟩
  | true =>
  have hll : ¬ (l.length : Int) = l'.length := by
    intro h
    rw [h] at hbad
    simp at hbad
  go_wp2_with fail
  go_ret
  exact ⟨rfl, B2.out⟩
end Go.Proofs.YtkcdckcckpgliaaDoor
