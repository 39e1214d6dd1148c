/- The law PobjPrints as the machine runs it. -/
import Derived.Test.YtkcdckcckpgliaaDoorApart
import Derived.Test.YtkcdckcckpgliaaDoorPrAll
namespace Go.Proofs.YtkcdckcckpgliaaDoor
open Go.RowKit Go.Shelf

set_option maxHeartbeats 3200000 in
set_option maxRecDepth 100000 in
theorem prints_calls (a : PO) (va : Array Value) (w : World) (ha : ORd w a va) (ht : Tab w) (hla : sndB 32 a = true → (wrL a).length ≤ 70368744177664) :
    Calls Tryd.prog 3 #[.agg va] w fun e w' => e = .returned (.bool true) ∧ Below w.heap.size w w' := by
  have HANS := Lib.hid (fun W (h : Below w.heap.size w W) => answers_calls W (ht.keep h))
  have HPA := Lib.hid (fun W (h : Below w.heap.size w W) hs => Print_calls a va W (ha.keep h) (ht.keep h) hs (hla hs))
  have HPN := Lib.hid (fun W (h : Below w.heap.size w W) hs => Print_no a va W (ha.keep h) hs)
  have HLA := Lib.hid (fun W (h : Below w.heap.size w W) => light_calls a va W (ha.keep h))
  have HSA := Lib.hid (fun W (h : Below w.heap.size w W) => rSound_calls a va W (ha.keep h))
  have HSP := Lib.hid (fun W (h : Below w.heap.size w W) => Sound_calls a va W (ha.keep h))
  have HRP := Lib.hid (fun W (h : Below w.heap.size w W) hs => rPrint_calls a va W (ha.keep h) hs (hla hs))
  have HZA := Lib.hid hla
  obtain ⟨n, t, Ak, ck, Al, cl, Ad, cd, rfl⟩ := ha.agg
  clear ha ht hla
  obtain ⟨X, hX⟩ : ∃ X, X = #[Value.int .i64 a.k, .int .i64 n, .string t, .slice Ak a.ks.length ck, .slice Al a.l.length cl, .slice Ad a.d.length cd] := ⟨_, rfl⟩
  have HCE := Lib.hid (show ∀ W, Below (w.alloc (.cells X 26)).heap.size (w.alloc (.cells X 26)) W → W.cell? ⟨w.heap.size, 0, none⟩ = some (.int .i64 a.k) ∧ W.cell? ⟨w.heap.size, 1, none⟩ = some (.int .i64 n) ∧ W.cell? ⟨w.heap.size, 2, none⟩ = some (.string t) ∧ W.cell? ⟨w.heap.size, 3, none⟩ = some (.slice Ak a.ks.length ck) ∧ W.cell? ⟨w.heap.size, 4, none⟩ = some (.slice Al a.l.length cl) ∧ W.cell? ⟨w.heap.size, 5, none⟩ = some (.slice Ad a.d.length cd) from fun W h => ⟨own_after h 0 _ (by rw [hX]; rfl), own_after h 1 _ (by rw [hX]; rfl), own_after h 2 _ (by rw [hX]; rfl), own_after h 3 _ (by rw [hX]; rfl), own_after h 4 _ (by rw [hX]; rfl), own_after h 5 _ (by rw [hX]; rfl)⟩)
  have HB' := Lib.hid (fun W (h : Below (w.alloc (.cells X 26)).heap.size (w.alloc (.cells X 26)) W) => (below_alloc w (.cells X 26)).trans (h.mono (by simp)))
  subst hX
  go_enter Tryd.func3, Tryd.ntmps3
  go_wp2_with fail
  refine (HANS.out _ (below_alloc w _)).mono ?_
  rintro e w1 ⟨rfl, q1⟩
  have Q1 := Lib.hid q1
  have B1 := Lib.hid (HB'.out _ Q1.out)
  clear q1
  obtain ⟨s0, s1, s2, s3, s4, s5⟩ := HCE.out _ Q1.out
  go_wp2_with fail
  refine (HLA.out _ B1.out).mono ?_
  rintro e w2 ⟨⟨r2, rfl⟩, q2⟩
  have Q2 := Lib.hid (Q1.out.trans (q2.mono Q1.out.size))
  have B2 := Lib.hid (HB'.out _ Q2.out)
  clear q2 s0 s1 s2 s3 s4 s5
  obtain ⟨s0, s1, s2, s3, s4, s5⟩ := HCE.out _ Q2.out
  cases r2 with
  | false =>
    go_wp2_with fail
    refine (HANS.out _ B2.out).mono ?_
    rintro e w9 ⟨rfl, q9⟩
    have B9 := Lib.hid (B2.out.trans (q9.mono B2.out.size))
    clear q9 s0
    go_wp2_with fail
    go_ret
    exact ⟨rfl, B9.out⟩
  | true =>
  cases hsa : sndB 32 a with
  | false =>
    have HPN2 := Lib.hid (fun W h => HPN.out W h hsa)
    have HSA2 := Lib.hid (show ∀ W, Below w.heap.size w W → Calls Tryd.prog 9 #[.agg #[Value.int .i64 a.k, .int .i64 n, .string t, .slice Ak a.ks.length ck, .slice Al a.l.length cl, .slice Ad a.d.length cd]] W fun e w' => e = .returned (.bool false) ∧ Below W.heap.size W w' from fun W h => hsa ▸ HSA.out W h)
    have HSP2 := Lib.hid (show ∀ W, Below w.heap.size w W → Calls Tryd.prog 10 #[.agg #[Value.int .i64 a.k, .int .i64 n, .string t, .slice Ak a.ks.length ck, .slice Al a.l.length cl, .slice Ad a.d.length cd]] W fun e w' => e = .returned (.bool false) ∧ Below W.heap.size W w' from fun W h => hsa ▸ HSP.out W h)
    clear hsa HPN HSA HSP HPA HRP HZA
    go_wp2_with fail
    refine (HPN2.out _ B2.out).mono ?_
    rintro e w3 ⟨rfl, q3⟩
    have Q3 := Lib.hid (Q2.out.trans (q3.mono Q2.out.size))
    have B3 := Lib.hid (HB'.out _ Q3.out)
    clear q3 s0 s1 s2 s3 s4 s5
    obtain ⟨s0, s1, s2, s3, s4, s5⟩ := HCE.out _ Q3.out
    go_wp2_with fail
    refine (HSA2.out _ B3.out).mono ?_
    rintro e w4 ⟨rfl, q4⟩
    have Q4 := Lib.hid (Q3.out.trans (q4.mono Q3.out.size))
    have B4 := Lib.hid (HB'.out _ Q4.out)
    clear q4 s0 s1 s2 s3 s4 s5
    obtain ⟨s0, s1, s2, s3, s4, s5⟩ := HCE.out _ Q4.out
    go_wp2_with fail
    refine (HSP2.out _ B4.out).mono ?_
    rintro e w5 ⟨rfl, q5⟩
    have Q5 := Lib.hid (Q4.out.trans (q5.mono Q4.out.size))
    have B5 := Lib.hid (HB'.out _ Q5.out)
    clear q5 s0 s1 s2 s3 s4 s5
    go_wp2_with fail
    go_ret
    exact ⟨rfl, B5.out⟩
  | true =>
    have HPA2 := Lib.hid (fun W h => HPA.out W h hsa)
    have HRP2 := Lib.hid (fun W h => HRP.out W h hsa)
    have HSA2 := Lib.hid (show ∀ W, Below w.heap.size w W → Calls Tryd.prog 9 #[.agg #[Value.int .i64 a.k, .int .i64 n, .string t, .slice Ak a.ks.length ck, .slice Al a.l.length cl, .slice Ad a.d.length cd]] W fun e w' => e = .returned (.bool true) ∧ Below W.heap.size W w' from fun W h => hsa ▸ HSA.out W h)
    have HSP2 := Lib.hid (show ∀ W, Below w.heap.size w W → Calls Tryd.prog 10 #[.agg #[Value.int .i64 a.k, .int .i64 n, .string t, .slice Ak a.ks.length ck, .slice Al a.l.length cl, .slice Ad a.d.length cd]] W fun e w' => e = .returned (.bool true) ∧ Below W.heap.size W w' from fun W h => hsa ▸ HSP.out W h)
    have hza := HZA.out hsa
    clear hsa HPN HSA HSP HPA HRP HZA
    go_wp2_with fail
    refine (HPA2.out _ B2.out).mono ?_
    rintro e w3 ⟨g, c, rfl, p1, p2, p3, p4, q3⟩
    have Q3 := Lib.hid (Q2.out.trans (q3.mono Q2.out.size))
    have B3 := Lib.hid (HB'.out _ Q3.out)
    have HDATA := Lib.hid (fun W (h : Below w3.heap.size w3 W) => convert_back W _ g c _ rfl (p2.keep h))
    clear q3 p1 p2 p3 p4 s0 s1 s2 s3 s4 s5
    obtain ⟨s0, s1, s2, s3, s4, s5⟩ := HCE.out _ Q3.out
    go_wp2_with fail
    refine (HSA2.out _ B3.out).mono ?_
    rintro e w4 ⟨rfl, q4⟩
    have Q4 := Lib.hid (Q3.out.trans (q4.mono Q3.out.size))
    have D4 := Lib.hid q4
    have B4 := Lib.hid (HB'.out _ Q4.out)
    clear q4 s0 s1 s2 s3 s4 s5
    obtain ⟨s0, s1, s2, s3, s4, s5⟩ := HCE.out _ Q4.out
    go_wp2_with fail
    refine (HSP2.out _ B4.out).mono ?_
    rintro e w5 ⟨rfl, q5⟩
    have Q5 := Lib.hid (Q4.out.trans (q5.mono Q4.out.size))
    have D5 := Lib.hid (D4.out.trans (q5.mono D4.out.size))
    have B5 := Lib.hid (HB'.out _ Q5.out)
    clear q5 s0 s1 s2 s3 s4 s5
    generalize wrL a = LA at *
    have HS := Lib.hid (show ∀ W, Below w5.heap.size w5 W → (W.cell? ⟨w.heap.size, 0, none⟩ = some (.int .i64 a.k) ∧ W.cell? ⟨w.heap.size, 1, none⟩ = some (.int .i64 n) ∧ W.cell? ⟨w.heap.size, 2, none⟩ = some (.string t) ∧ W.cell? ⟨w.heap.size, 3, none⟩ = some (.slice Ak a.ks.length ck) ∧ W.cell? ⟨w.heap.size, 4, none⟩ = some (.slice Al a.l.length cl) ∧ W.cell? ⟨w.heap.size, 5, none⟩ = some (.slice Ad a.d.length cd) ∧ (convert 24 9 (.slice (some ⟨g, 0, none⟩) LA.length c)).run Tryd.prog W = .ok (.string ⟨LA.toArray⟩) W) ∧ Below w5.heap.size w5 W from fun W h => ⟨by
      obtain ⟨s0, s1, s2, s3, s4, s5⟩ := HCE.out _ (Q5.out.trans (h.mono Q5.out.size))
      exact ⟨s0, s1, s2, s3, s4, s5, HDATA.out W (D5.out.trans (h.mono D5.out.size))⟩, h⟩)
    have HRP3 := Lib.hid (fun W (h : Below w5.heap.size w5 W) => (HRP2.out W (B5.out.trans (h.mono B5.out.size))).mono (fun e w' (h' : e = .returned (.string (asStr LA)) ∧ Below W.heap.size W w') => (⟨h'.1, h.trans (h'.2.mono h.size)⟩ : e = .returned (.string ⟨LA.toArray⟩) ∧ Below w5.heap.size w5 w')))
    clear HDATA HRP2 HPA2
    go_wp2_with fail
    go_region_held3 (fun W => (W.cell? ⟨w.heap.size, 0, none⟩ = some (.int .i64 a.k) ∧ W.cell? ⟨w.heap.size, 1, none⟩ = some (.int .i64 n) ∧ W.cell? ⟨w.heap.size, 2, none⟩ = some (.string t) ∧ W.cell? ⟨w.heap.size, 3, none⟩ = some (.slice Ak a.ks.length ck) ∧ W.cell? ⟨w.heap.size, 4, none⟩ = some (.slice Al a.l.length cl) ∧ W.cell? ⟨w.heap.size, 5, none⟩ = some (.slice Ad a.d.length cd) ∧ (convert 24 9 (.slice (some ⟨g, 0, none⟩) LA.length c)).run Tryd.prog W = .ok (.string ⟨LA.toArray⟩) W) ∧ Below w5.heap.size w5 W)
      (first
        | exact HS.out _ (by assumption)
        | exact HS.out _ (below_drew' (Below.refl _ _))
        | exact HS.out _ (Below.refl _ _))
      ((go_at_call 11; refine (HRP3.out _ (by first | assumption | (go_split_ands; assumption))).mono ?_; rintro e w8 ⟨rfl, q8⟩))
    rename (_ ∧ Below w5.heap.size w5 _) => hfin
    have HFIN := Lib.hid hfin.2
    clear hfin
    go_wp2_with fail
    go_ret
    exact ⟨ret_bool (by simp), B5.out.trans (HFIN.out.mono B5.out.size)⟩
end Go.Proofs.YtkcdckcckpgliaaDoor
