/- The law PobjApart as the machine runs it. -/
import Derived.Test.YtkcdckcckpgliaaDoorRSndAll
import Derived.Test.YtkcdckcckpgliaaDoorEqO2
import Derived.Laws.IdiomStrings
import Derived.Deep.RegionHeld3
namespace Go.Proofs.YtkcdckcckpgliaaDoor
open Go.RowKit Go.Shelf

theorem convert_back (w : World) (A : Option Addr) (g c : Nat) (l : List UInt8) (hA : A = some ⟨g, 0, none⟩) (h : BytesAt w A l) :
    (convert 24 9 (.slice A l.length c)).run Tryd.prog w = .ok (.string ⟨l.toArray⟩) w := by
  subst hA
  refine run_convert_bytes_back w 24 9 5 _ c l Tryd.underlying24 Tryd.underlying5 Tryd.underlying9 fun j hj => ?_
  obtain ⟨a, ha, hc⟩ := h j (.int .u8 (l[j].toNat : Int)) (by simp [Lib.byteCells, hj])
  cases ha
  exact hc
theorem BytesAt.below {w w' : World} {A : Option Addr} {l : List UInt8} (h : BytesAt w A l) (hb : Below w.heap.size w w') : BytesAt w' A l := h.keep hb

def nameAB : PO := ⟨4, 0, ⟨#[97, 32, 98]⟩, [], [], []⟩
theorem snd_ab : sndB 32 nameAB = true := by decide +kernel
theorem wr_ab : wrL nameAB = [47, 97, 35, 50, 48, 98] := by unfold nameAB; rw [wrL]; decide
theorem rd_ab (w : World) : ORd w nameAB #[.int .i64 4, .int .i64 0, .string ⟨#[97, 32, 98]⟩, .slice none 0 0, .slice none 0 0, .slice none 0 0] :=
  ORd.mk (ks := []) (l := []) (d := []) (fun _ => #[]) (.inl rfl) (Nat.le_refl _) (by decide) (fun i h => absurd h (Nat.not_lt_zero _)) (.inl rfl) (Nat.le_refl _) (by decide) (fun j v hj => by simp [Lib.byteCells] at hj) (Nat.le_refl _) (by decide) (by decide) (fun s hs => by simp at hs)

set_option maxHeartbeats 800000 in
set_option maxRecDepth 100000 in
theorem answers_calls (w : World) (ht : Tab w) : Calls Tryd.prog 6 #[] w fun e w' => e = .returned (.bool true) ∧ Below w.heap.size w w' := by
  have hP : Calls Tryd.prog 8 #[.agg #[.int .i64 4, .int .i64 0, .string ⟨#[97, 32, 98]⟩, .slice none 0 0, .slice none 0 0, .slice none 0 0]] w (Printed [47, 97, 35, 50, 48, 98] w) := by
    have := Print_calls nameAB _ w (rd_ab w) ht snd_ab (by rw [wr_ab]; decide)
    rw [wr_ab] at this
    exact this
  clear ht
  go_enter Tryd.func6, Tryd.ntmps6
  go_wp2_with fail
  refine hP.mono ?_
  rintro e w1 ⟨g, c, rfl, h1, h2, h3, h4, h5⟩
  have hcv : (convert 24 9 (.slice (some ⟨g, 0, none⟩) 6 c)).run Tryd.prog w1 = .ok (.string ⟨#[47, 97, 35, 50, 48, 98]⟩) w1 := convert_back w1 _ g c _ rfl h2
  have HB := Lib.hid h5
  clear h1 h2 h3 h4 h5
  go_wp2_with fail
  go_ret
  exact ⟨rfl, HB.out⟩

set_option maxHeartbeats 3200000 in
set_option maxRecDepth 100000 in
theorem apart_calls (a b : PO) (va vb : Array Value) (w : World) (ha : ORd w a va) (hb : ORd w b vb) (ht : Tab w)
    (hla : sndB 32 a = true → (wrL a).length ≤ 70368744177664) (hlb : sndB 32 b = true → (wrL b).length ≤ 70368744177664)
    (hlaw : sndB 32 a = true → sndB 32 b = true → eqL (wrL a) (wrL b) = eqO a b) :
    Calls Tryd.prog 4 #[.agg va, .agg vb] w fun e w' => e = .returned (.bool true) ∧ Below w.heap.size w w' := by
  have hb0 : ∀ X Y, Below w.heap.size w ((w.alloc X).alloc Y) := fun X Y => (below_alloc w X).trans ((below_alloc (w.alloc X) Y).mono (by simp))
  have HB := Lib.hid hb0
  have HA' := Lib.hid (fun W (h : Below w.heap.size w W) => ha.keep h)
  have HBB := Lib.hid (fun W (h : Below w.heap.size w W) => hb.keep h)
  have HANS := Lib.hid (fun W (h : Below w.heap.size w W) => answers_calls W (ht.keep h))
  have HPA := Lib.hid (fun W (h : Below w.heap.size w W) hs => Print_calls a va W (ha.keep h) (ht.keep h) hs (hla hs))
  have HPB := Lib.hid (fun W (h : Below w.heap.size w W) hs => Print_calls b vb W (hb.keep h) (ht.keep h) hs (hlb hs))
  have HLA := Lib.hid (fun W (h : Below w.heap.size w W) => light_calls a va W (ha.keep h))
  have HLB := Lib.hid (fun W (h : Below w.heap.size w W) => light_calls b vb W (hb.keep h))
  have HSA := Lib.hid (fun W (h : Below w.heap.size w W) => rSound_calls a va W (ha.keep h))
  have HSB := Lib.hid (fun W (h : Below w.heap.size w W) => rSound_calls b vb W (hb.keep h))
  have HLAW := Lib.hid hlaw
  have HZA := Lib.hid hla
  have HZB := Lib.hid hlb
  obtain ⟨n, t, Ak, ck, Al, cl, Ad, cd, rfl⟩ := ha.agg
  obtain ⟨n', t', Ak', ck', Al', cl', Ad', cd', rfl⟩ := hb.agg
  clear ha hb ht hb0 hla hlb hlaw
  have HCE := Lib.hid (show ∀ W, Below ((w.alloc (.cells #[Value.int .i64 a.k, .int .i64 n, .string t, .slice Ak a.ks.length ck, .slice Al a.l.length cl, .slice Ad a.d.length cd] 26)).alloc (.cells #[Value.int .i64 b.k, .int .i64 n', .string t', .slice Ak' b.ks.length ck', .slice Al' b.l.length cl', .slice Ad' b.d.length cd'] 26)).heap.size ((w.alloc (.cells #[Value.int .i64 a.k, .int .i64 n, .string t, .slice Ak a.ks.length ck, .slice Al a.l.length cl, .slice Ad a.d.length cd] 26)).alloc (.cells #[Value.int .i64 b.k, .int .i64 n', .string t', .slice Ak' b.ks.length ck', .slice Al' b.l.length cl', .slice Ad' b.d.length cd'] 26)) W → W.cell? ⟨w.heap.size, 0, none⟩ = some (.int .i64 a.k) ∧ W.cell? ⟨w.heap.size, 1, none⟩ = some (.int .i64 n) ∧ W.cell? ⟨w.heap.size, 2, none⟩ = some (.string t) ∧ W.cell? ⟨w.heap.size, 3, none⟩ = some (.slice Ak a.ks.length ck) ∧ W.cell? ⟨w.heap.size, 4, none⟩ = some (.slice Al a.l.length cl) ∧ W.cell? ⟨w.heap.size, 5, none⟩ = some (.slice Ad a.d.length cd) ∧ W.cell? ⟨w.heap.size + 1, 0, none⟩ = some (.int .i64 b.k) ∧ W.cell? ⟨w.heap.size + 1, 1, none⟩ = some (.int .i64 n') ∧ W.cell? ⟨w.heap.size + 1, 2, none⟩ = some (.string t') ∧ W.cell? ⟨w.heap.size + 1, 3, none⟩ = some (.slice Ak' b.ks.length ck') ∧ W.cell? ⟨w.heap.size + 1, 4, none⟩ = some (.slice Al' b.l.length cl') ∧ W.cell? ⟨w.heap.size + 1, 5, none⟩ = some (.slice Ad' b.d.length cd') from fun W h => ⟨(h.cell (p := ⟨w.heap.size, 0, none⟩) (by simp <;> omega)).trans (by go_simp), (h.cell (p := ⟨w.heap.size, 1, none⟩) (by simp <;> omega)).trans (by go_simp), (h.cell (p := ⟨w.heap.size, 2, none⟩) (by simp <;> omega)).trans (by go_simp), (h.cell (p := ⟨w.heap.size, 3, none⟩) (by simp <;> omega)).trans (by go_simp), (h.cell (p := ⟨w.heap.size, 4, none⟩) (by simp <;> omega)).trans (by go_simp), (h.cell (p := ⟨w.heap.size, 5, none⟩) (by simp <;> omega)).trans (by go_simp), (h.cell (p := ⟨w.heap.size + 1, 0, none⟩) (by simp <;> omega)).trans (by go_simp), (h.cell (p := ⟨w.heap.size + 1, 1, none⟩) (by simp <;> omega)).trans (by go_simp), (h.cell (p := ⟨w.heap.size + 1, 2, none⟩) (by simp <;> omega)).trans (by go_simp), (h.cell (p := ⟨w.heap.size + 1, 3, none⟩) (by simp <;> omega)).trans (by go_simp), (h.cell (p := ⟨w.heap.size + 1, 4, none⟩) (by simp <;> omega)).trans (by go_simp), (h.cell (p := ⟨w.heap.size + 1, 5, none⟩) (by simp <;> omega)).trans (by go_simp)⟩)
  have HB' := Lib.hid (show ∀ W, Below ((w.alloc (.cells #[Value.int .i64 a.k, .int .i64 n, .string t, .slice Ak a.ks.length ck, .slice Al a.l.length cl, .slice Ad a.d.length cd] 26)).alloc (.cells #[Value.int .i64 b.k, .int .i64 n', .string t', .slice Ak' b.ks.length ck', .slice Al' b.l.length cl', .slice Ad' b.d.length cd'] 26)).heap.size ((w.alloc (.cells #[Value.int .i64 a.k, .int .i64 n, .string t, .slice Ak a.ks.length ck, .slice Al a.l.length cl, .slice Ad a.d.length cd] 26)).alloc (.cells #[Value.int .i64 b.k, .int .i64 n', .string t', .slice Ak' b.ks.length ck', .slice Al' b.l.length cl', .slice Ad' b.d.length cd'] 26)) W → Below w.heap.size w W from fun W h => (HB.out _ _).trans (h.mono (HB.out _ _).size))
  go_enter Tryd.func4, Tryd.ntmps4
  go_wp2_with fail
  refine (HANS.out _ (HB.out _ _)).mono ?_
  rintro e w1 ⟨rfl, q1⟩
  have Q1 := Lib.hid q1
  have B1 := Lib.hid (HB'.out _ Q1.out)
  clear q1
  obtain ⟨s0, s1, s2, s3, s4, s5, t0, t1, t2, t3, t4, t5⟩ := HCE.out _ Q1.out
  go_wp2_with fail
  refine (HLA.out _ B1.out).mono ?_
  rintro e w2 ⟨⟨r2, rfl⟩, q2⟩
  have Q2 := Lib.hid (Q1.out.trans (q2.mono Q1.out.size))
  have B2 := Lib.hid (HB'.out _ Q2.out)
  clear q2 s0 s1 s2 s3 s4 s5 t0 t1 t2 t3 t4 t5
  obtain ⟨s0, s1, s2, s3, s4, s5, t0, t1, t2, t3, t4, t5⟩ := HCE.out _ Q2.out
  cases r2 with
  | false =>
    go_wp2_with fail
    refine (HANS.out _ B2.out).mono ?_
    rintro e w9 ⟨rfl, q9⟩
    have B9 := Lib.hid (B2.out.trans (q9.mono B2.out.size))
    clear q9 t0
    go_wp2_with fail
    go_ret
    exact ⟨rfl, B9.out⟩
  | true =>
  go_wp2_with fail
  refine (HLB.out _ B2.out).mono ?_
  rintro e w3 ⟨⟨r3, rfl⟩, q3⟩
  have Q3 := Lib.hid (Q2.out.trans (q3.mono Q2.out.size))
  have B3 := Lib.hid (HB'.out _ Q3.out)
  clear q3 s0 s1 s2 s3 s4 s5 t0 t1 t2 t3 t4 t5
  obtain ⟨s0, s1, s2, s3, s4, s5, t0, t1, t2, t3, t4, t5⟩ := HCE.out _ Q3.out
  cases r3 with
  | false =>
    go_wp2_with fail
    refine (HANS.out _ B3.out).mono ?_
    rintro e w9 ⟨rfl, q9⟩
    have B9 := Lib.hid (B3.out.trans (q9.mono B3.out.size))
    clear q9 t0
    go_wp2_with fail
    go_ret
    exact ⟨rfl, B9.out⟩
  | true =>
  go_wp2_with fail
  refine (HSA.out _ B3.out).mono ?_
  rintro e w4 ⟨rfl, q4⟩
  have Q4 := Lib.hid (Q3.out.trans (q4.mono Q3.out.size))
  have B4 := Lib.hid (HB'.out _ Q4.out)
  clear q4 s0 s1 s2 s3 s4 s5 t0 t1 t2 t3 t4 t5
  obtain ⟨s0, s1, s2, s3, s4, s5, t0, t1, t2, t3, t4, t5⟩ := HCE.out _ Q4.out
  cases hsa : sndB 32 a with
  | false =>
    go_wp2_with fail
    refine (HANS.out _ B4.out).mono ?_
    rintro e w9 ⟨rfl, q9⟩
    have B9 := Lib.hid (B4.out.trans (q9.mono B4.out.size))
    clear q9 t0
    go_wp2_with fail
    go_ret
    exact ⟨rfl, B9.out⟩
  | true =>
  go_wp2_with fail
  refine (HSB.out _ B4.out).mono ?_
  rintro e w5 ⟨rfl, q5⟩
  have Q5 := Lib.hid (Q4.out.trans (q5.mono Q4.out.size))
  have B5 := Lib.hid (HB'.out _ Q5.out)
  clear q5 s0 s1 s2 s3 s4 s5 t0 t1 t2 t3 t4 t5
  obtain ⟨s0, s1, s2, s3, s4, s5, t0, t1, t2, t3, t4, t5⟩ := HCE.out _ Q5.out
  cases hsb : sndB 32 b with
  | false =>
    go_wp2_with fail
    refine (HANS.out _ B5.out).mono ?_
    rintro e w9 ⟨rfl, q9⟩
    have B9 := Lib.hid (B5.out.trans (q9.mono B5.out.size))
    clear q9 t0
    go_wp2_with fail
    go_ret
    exact ⟨rfl, B9.out⟩
  | true =>
  have HLW := HLAW.out hsa hsb
  have HL2 := Lib.hid HLW
  have hza := HZA.out hsa
  have hzb := HZB.out hsb
  have HPA2 := Lib.hid (fun W h => HPA.out W h hsa)
  have HPB2 := Lib.hid (fun W h => HPB.out W h hsb)
  clear HLW hsa hsb
  go_wp2_with fail
  refine (HPA2.out _ B5.out).mono ?_
  rintro e w6 ⟨g, c, rfl, p1, p2, p3, p4, q6⟩
  have Q6 := Lib.hid (Q5.out.trans (q6.mono Q5.out.size))
  have B6 := Lib.hid (HB'.out _ Q6.out)
  have P1 := Lib.hid p1; have P2 := Lib.hid p2; have P4 := Lib.hid p4
  clear q6 p1 p2 p3 p4 s0 s1 s2 s3 s4 s5 t0 t1 t2 t3 t4 t5
  obtain ⟨s0, s1, s2, s3, s4, s5, t0, t1, t2, t3, t4, t5⟩ := HCE.out _ Q6.out
  go_wp2_with fail
  refine (HPB2.out _ B6.out).mono ?_
  rintro e w7 ⟨g', c', rfl, p1, p2, p3, p4, q7⟩
  have Q7 := Lib.hid (Q6.out.trans (q7.mono Q6.out.size))
  have B7 := Lib.hid (HB'.out _ Q7.out)
  have hP2 : BytesAt w7 (some ⟨g, 0, none⟩) (wrL a) := P2.out.keep q7
  have HSAME := Lib.hid (fun W (h : Below w7.heap.size w7 W) => same_calls (wrL a) (wrL b) (some ⟨g, 0, none⟩) (some ⟨g', 0, none⟩) c c' W (hP2.keep h) (p2.keep h) (by omega) (by omega))
  have HEQ := Lib.hid (fun W (h : Below w7.heap.size w7 W) => rEqual_calls a b _ _ W (HA'.out W (B7.out.trans (h.mono B7.out.size))) (HBB.out W (B7.out.trans (h.mono B7.out.size))))
  clear q7 p1 p2 p3 p4 hP2 s0 s1 s2 s3 s4 s5 t0 t1 t2 t3 t4 t5
  obtain ⟨s0, s1, s2, s3, s4, s5, t0, t1, t2, t3, t4, t5⟩ := HCE.out _ Q7.out
  generalize wrL a = LA at *
  generalize wrL b = LB at *
  generalize eqL LA LB = r1 at *
  generalize eqO a b = r2 at *
  clear hza hzb HZA HZB HLAW
  have hr12 : r1 = r2 := HL2.out
  subst hr12
  have HS := Lib.hid (show ∀ W, Below w7.heap.size w7 W → (W.cell? ⟨w.heap.size, 0, none⟩ = some (.int .i64 a.k) ∧ W.cell? ⟨w.heap.size, 1, none⟩ = some (.int .i64 n) ∧ W.cell? ⟨w.heap.size, 2, none⟩ = some (.string t) ∧ W.cell? ⟨w.heap.size, 3, none⟩ = some (.slice Ak a.ks.length ck) ∧ W.cell? ⟨w.heap.size, 4, none⟩ = some (.slice Al a.l.length cl) ∧ W.cell? ⟨w.heap.size, 5, none⟩ = some (.slice Ad a.d.length cd) ∧ W.cell? ⟨w.heap.size + 1, 0, none⟩ = some (.int .i64 b.k) ∧ W.cell? ⟨w.heap.size + 1, 1, none⟩ = some (.int .i64 n') ∧ W.cell? ⟨w.heap.size + 1, 2, none⟩ = some (.string t') ∧ W.cell? ⟨w.heap.size + 1, 3, none⟩ = some (.slice Ak' b.ks.length ck') ∧ W.cell? ⟨w.heap.size + 1, 4, none⟩ = some (.slice Al' b.l.length cl') ∧ W.cell? ⟨w.heap.size + 1, 5, none⟩ = some (.slice Ad' b.d.length cd')) ∧ Below w7.heap.size w7 W from fun W h => ⟨HCE.out W (Q7.out.trans (h.mono Q7.out.size)), h⟩)
  have HSAME2 := Lib.hid (fun W (h : Below w7.heap.size w7 W) => (HSAME.out W h).mono (fun e w' (h' : e = .returned (.bool r1) ∧ Below W.heap.size W w') => (⟨h'.1, h.trans (h'.2.mono h.size)⟩ : e = .returned (.bool r1) ∧ Below w7.heap.size w7 w')))
  have HEQ2 := Lib.hid (fun W (h : Below w7.heap.size w7 W) => (HEQ.out W h).mono (fun e w' (h' : e = .returned (.bool r1) ∧ Below W.heap.size W w') => (⟨h'.1, h.trans (h'.2.mono h.size)⟩ : e = .returned (.bool r1) ∧ Below w7.heap.size w7 w')))
  clear HSAME HEQ
  go_wp2_with fail
  go_region_held3 (fun W => (W.cell? ⟨w.heap.size, 0, none⟩ = some (.int .i64 a.k) ∧ W.cell? ⟨w.heap.size, 1, none⟩ = some (.int .i64 n) ∧ W.cell? ⟨w.heap.size, 2, none⟩ = some (.string t) ∧ W.cell? ⟨w.heap.size, 3, none⟩ = some (.slice Ak a.ks.length ck) ∧ W.cell? ⟨w.heap.size, 4, none⟩ = some (.slice Al a.l.length cl) ∧ W.cell? ⟨w.heap.size, 5, none⟩ = some (.slice Ad a.d.length cd) ∧ W.cell? ⟨w.heap.size + 1, 0, none⟩ = some (.int .i64 b.k) ∧ W.cell? ⟨w.heap.size + 1, 1, none⟩ = some (.int .i64 n') ∧ W.cell? ⟨w.heap.size + 1, 2, none⟩ = some (.string t') ∧ W.cell? ⟨w.heap.size + 1, 3, none⟩ = some (.slice Ak' b.ks.length ck') ∧ W.cell? ⟨w.heap.size + 1, 4, none⟩ = some (.slice Al' b.l.length cl') ∧ W.cell? ⟨w.heap.size + 1, 5, none⟩ = some (.slice Ad' b.d.length cd')) ∧ Below w7.heap.size w7 W)
    (first
      | exact HS.out _ (by assumption)
      | exact HS.out _ (below_drew' (Below.refl _ _))
      | exact HS.out _ (Below.refl _ _))
    (first
      | (go_at_call 12; refine (HSAME2.out _ (by first | assumption | (go_split_ands; assumption))).mono ?_; rintro e w8 ⟨rfl, q8⟩)
      | (go_at_call 13; refine (HEQ2.out _ (by first | assumption | (go_split_ands; assumption))).mono ?_; rintro e w8 ⟨rfl, q8⟩))
  rename (_ ∧ Below w7.heap.size w7 _) => hfin
  have HFIN := Lib.hid hfin.2
  clear hfin
  go_wp2_with fail
  go_ret
  exact ⟨ret_bool (by simp), B7.out.trans (HFIN.out.mono B7.out.size)⟩
end Go.Proofs.YtkcdckcckpgliaaDoor
