/-
  Lemmas, in their order: path.fits; which points are not zero. · path.Sound: which paths are sound. · Soundness of a page: a colour. · Soundness: clips. · Soundness: a pen. · Soundness: fonts' names, letters. · Soundness: an item.
-/
import Derived.Test.YtdkgfgmmmjpkgaaGreatDoorM6

namespace Go.Proofs.YtdkgfgmmmjpkgaaGreatDoor
open Go.RowKit Go.Shelf

set_option maxHeartbeats 800000 in
set_option maxRecDepth 100000 in
theorem nozero_calls (x y : Int) (w : World) : Calls Tryz.prog 116 #[.agg #[.int .i64 x, .int .i64 y]] w fun e w' => e = .returned (.bool (!zero2 (x, y))) ∧ Below w.heap.size w w' := by
  have HN := fun W : World => neq_pt x y 0 0 W
  have HE := Lib.hid (show zero2 (x, y) = (x == 0 && y == 0) from rfl)
  go_enter Tryz.func116, Tryz.ntmps116
  go_wp2_with fail
  go_ret
  exact ⟨ret_bool (by rw [HE.out, Bool.not_and]), below_alloc w _⟩
/-- Two numbers' cells. -/
def ptC (p : Int × Int) : Array Value := #[.int .i64 p.1, .int .i64 p.2]
def PtsAt (w : World) (A : Option Addr) (l : List (Int × Int)) : Prop := RowAt w A l.length 2 (fun i => ptC (l.getD i (0, 0)))
theorem any_range {α : Type} (l : List α) (d : α) (f : α → Bool) : (List.range l.length).any (fun i => f (l.getD i d)) = l.any f := by
  rw [Bool.eq_iff_iff, List.any_eq_true, List.any_eq_true]
  constructor
  · rintro ⟨i, hi, hf⟩
    have hi' := List.mem_range.1 hi
    rw [List.getD_eq_getElem?_getD, List.getElem?_eq_getElem hi'] at hf
    exact ⟨l[i], List.getElem_mem hi', hf⟩
  · rintro ⟨x, hx, hf⟩
    obtain ⟨i, hi, rfl⟩ := List.mem_iff_getElem.1 hx
    exact ⟨i, List.mem_range.2 hi, by rw [List.getD_eq_getElem?_getD, List.getElem?_eq_getElem hi]; exact hf⟩

set_option maxHeartbeats 1600000 in
set_option maxRecDepth 100000 in
theorem idx_zero (bad : Nat → Bool) (n c : Nat) (A : Option Addr) (cs : Nat → Array Value) (caps : Array Value) (w : World) (hs : ∀ i, i < n → (cs i).size = 2) (hrow : RowAt w A n 2 cs) (hlc : n ≤ c) (hcm : c ≤ 9223372036854775807)
    (hc : ∀ i, i < n → ∀ W, Below w.heap.size w W → Calls Tryz.prog 116 (#[.agg (cs i)] ++ caps) W fun e w' => e = .returned (.bool (bad i)) ∧ Below W.heap.size W w') :
    Calls Tryz.prog 146 #[.slice A n c, .func (.func 116) #[] caps] w fun e w' => ∃ q : Int, e = .returned (.int .i64 q) ∧ Hid (decide (0 ≤ q) = (List.range n).any bad) ∧ Below w.heap.size w w' := by
  have HS := Lib.hid hs
  have HROW := Lib.hid hrow
  have HC := Lib.hid hc
  clear hs hrow hc
  go_enter Tryz.func146, Tryz.ntmps146
  go_wp2_with fail
  go_loopw [5, 8] (fun _ v wr => ∃ i : Nat, i ≤ n ∧ v = .int .i64 i ∧ Hid (∀ j, j < i → bad j = false) ∧ Hid (Below w.heap.size w wr)) (fun _ v _ => n - (intOf v).toNat)
  case atStart => exact ⟨0, Nat.zero_le _, rfl, fun j hj => absurd hj (Nat.not_lt_zero _), Below.refl _ _⟩
  case round =>
    obtain ⟨i, hi, rfl, hD, hB⟩ := hrel
    by_cases hlt : i < n
    · obtain ⟨b, off, hA, hcell⟩ := RowAt.elem (RowAt.keep HROW.out hB.out) i hlt
      subst hA
      have HRG := Lib.hid (show wr.rangeAt b (off + i * 2) (cs i).toList from fun j u hj => hcell j u (by rw [← hj]; exact Array.getElem?_toList.symm))
      have HXI := Lib.hid (show (Tryz.prog.info? 54).map (·.size) = some (cs i).toList.length from by rw [Array.length_toList, HS.out i hlt]; kernel_rfl)
      have HCC := Lib.hid (HC.out i hlt wr hB.out)
      clear hcell
      generalize cs i = X at *
      go_wp2_with (refine wpList_load_mid rfl 54 _ rfl b (off + i * 2) rfl X.toList _ HRG.out Tryz.underlying54 rfl HXI.out ?_; simp only [Array.toArray_toList])
      refine HCC.out.mono ?_
      rintro e w1 ⟨rfl, h1⟩
      have H1 := Lib.hid (hB.out.trans (h1.mono hB.out.size))
      clear h1
      generalize hb : bad i = bb
      have HBB := Lib.hid hb
      clear hb
      cases bb
      · have hn : Hid (∀ j, j < i + 1 → bad j = false) := fun j hj => by
          by_cases hji : j = i
          · rw [hji]; exact HBB.out
          · exact hD.out j (by omega)
        go_wp2_with fail
        go_roundw
        case rel => exact ⟨i + 1, by omega, by go_num, hn, H1⟩
        case measure => simp [intOf]; omega
      · have hn : Hid ((List.range n).any bad = true) := List.any_eq_true.2 ⟨i, List.mem_range.2 hlt, HBB.out⟩
        go_wp2_with fail
        go_ret
        exact ⟨_, rfl, (show decide (0 ≤ (i : Int)) = _ by rw [hn.out]; simp), H1.out⟩
    · obtain rfl : i = n := by omega
      have hn : Hid ((List.range i).any bad = false) := List.any_eq_false.2 fun j hj => by rw [hD.out j (List.mem_range.1 hj)]; simp
      go_wp2_with fail
      go_ret
      exact ⟨_, rfl, (show decide (0 ≤ (-1 : Int)) = _ by rw [hn.out]; rfl), hB.out⟩
set_option maxHeartbeats 1600000 in
set_option maxRecDepth 100000 in
theorem any_zero (bad : Nat → Bool) (n c : Nat) (A : Option Addr) (cs : Nat → Array Value) (caps : Array Value) (w : World) (hs : ∀ i, i < n → (cs i).size = 2) (hrow : RowAt w A n 2 cs) (hlc : n ≤ c) (hcm : c ≤ 9223372036854775807)
    (hc : ∀ i, i < n → ∀ W, Below w.heap.size w W → Calls Tryz.prog 116 (#[.agg (cs i)] ++ caps) W fun e w' => e = .returned (.bool (bad i)) ∧ Below W.heap.size W w') :
    Calls Tryz.prog 115 #[.slice A n c, .func (.func 116) #[] caps] w fun e w' => e = .returned (.bool ((List.range n).any bad)) ∧ Below w.heap.size w w' := by
  have hI := idx_zero bad n c A cs caps w hs hrow hlc hcm hc
  clear hs hrow hc
  go_enter Tryz.func115, Tryz.ntmps115
  go_wp2_with fail
  refine hI.mono ?_
  rintro e w1 ⟨q, rfl, hq, h1⟩
  have H1 := Lib.hid h1
  clear h1
  have HQ := Lib.hid hq.out
  clear hq hI
  go_wp2_with fail
  go_ret
  exact ⟨ret_bool HQ.out, H1.out⟩

theorem anyzero_calls (l : List (Int × Int)) (A : Option Addr) (c : Nat) (w : World) (h : PtsAt w A l) (hlc : l.length ≤ c) (hcm : c ≤ 9223372036854775807) :
    Calls Tryz.prog 115 #[.slice A l.length c, .func (.func 116) #[] #[]] w fun e w' => e = .returned (.bool (l.any fun p => !zero2 p)) ∧ Below w.heap.size w w' := by
  rw [← any_range l (0, 0)]
  exact any_zero _ _ c A (fun i => ptC (l.getD i (0, 0))) #[] w (fun i _ => rfl) h hlc hcm fun i _ W _ => nozero_calls _ _ W
set_option maxHeartbeats 800000 in
set_option maxRecDepth 100000 in
theorem pfits_calls (l : List (Int × Int)) (A : Option Addr) (c : Nat) (w : World) (h : PtsAt w A l) (hlc : l.length ≤ c) (hcm : c ≤ 9223372036854775807) :
    Calls Tryz.prog 114 #[.slice A l.length c] w fun e w' => e = .returned (.bool (l.all fit2)) ∧ Below w.heap.size w w' := by
  have HA : Calls Tryz.prog 115 #[.slice A l.length c, .func (.func 145) #[] #[]] w fun e w' => e = .returned (.bool (l.any fun p => !fit2 p)) ∧ Below w.heap.size w w' := by
    rw [← any_range l (0, 0)]
    exact any_fits _ _ c A (fun i => ptC (l.getD i (0, 0))) #[] w (fun i _ => rfl) h hlc hcm fun i _ W _ => nofit_calls _ _ W
  have HQ := Lib.hid (show l.all fit2 = !(l.any fun p => !fit2 p) from by rw [List.all_eq_not_any_not])
  go_enter Tryz.func114, Tryz.ntmps114
  go_wp2_with fail
  refine HA.mono ?_
  rintro e w1 ⟨rfl, h1⟩
  have H1 := Lib.hid h1
  clear h1
  go_wp2_with fail
  go_ret
  exact ⟨ret_bool HQ.out.symm, H1.out⟩
end Go.Proofs.YtdkgfgmmmjpkgaaGreatDoor

namespace Go.Proofs.YtdkgfgmmmjpkgaaGreatDoor
open Go.RowKit Go.Shelf

theorem pts_row (W : World) (r : Nat) (s : SegP) (n : Nat) (hn : n ≤ 3) (h : ∀ j v, (segC s)[j]? = some v → W.cell? ⟨r, j, none⟩ = some v) : PtsAt W (some ⟨r, 1 + n * 2, none⟩) ((pts s).drop n) := by
  refine .inr ⟨r, 1 + n * 2, rfl, fun i hi j v hj => ?_⟩
  have hl : ((pts s).drop n).length = 3 - n := by simp [pts]
  rw [hl] at hi
  have hj2 : j < 2 := (Array.getElem?_eq_some_iff.1 hj).1
  have e : 1 + n * 2 + i * 2 + j = 1 + (n + i) * 2 + j := by omega
  rw [e]
  refine h _ v ?_
  have hg : ((pts s).drop n).getD i (0, 0) = (pts s).getD (n + i) (0, 0) := by simp [List.getD_eq_getElem?_getD, List.getElem?_drop]
  simp only [hg] at hj
  rw [← hj]
  have hni : n + i = 0 ∨ n + i = 1 ∨ n + i = 2 := by omega
  have hjj : j = 0 ∨ j = 1 := by omega
  rcases hni with h1 | h1 | h1 <;> rcases hjj with rfl | rfl <;> rw [h1] <;> rfl
theorem nPts_of (k : Int) : nPts k = -1 ∨ nPts k = 0 ∨ nPts k = 1 ∨ nPts k = 3 := by
  rw [nPts]
  split
  · exact .inr (.inr (.inl rfl))
  · split
    · exact .inr (.inr (.inr rfl))
    · split
      · exact .inr (.inl rfl)
      · exact .inl rfl
theorem segsOk_step (last : Int) (l : List SegP) (i : Nat) (h : i < l.length) : segsOk last (l.drop i) = (segOk last l[i] && segsOk l[i].k (l.drop (i + 1))) := by
  rw [List.drop_eq_getElem_cons h, segsOk]
theorem segC_ok (s : SegP) : (segC s).size = 7 ∧ (segC s).all (·.oneCell') = true := ⟨rfl, by simp [segC, Value.oneCell']⟩

set_option maxHeartbeats 6400000 in
set_option maxRecDepth 100000 in
theorem psound_calls (l : List SegP) (A : Option Addr) (c : Nat) (w : World) (h : PathAt w A l) (_hlc : l.length ≤ c) (_hcm : c ≤ maxLen) :
    Calls Tryz.prog 73 #[.slice A l.length c] w fun e w' => e = .returned (.bool (pathOk l)) ∧ Below w.heap.size w w' := by
  have HP := Lib.hid h
  have HQ := Lib.hid (show pathOk l = (decide (l.length ≤ 4096) && segsOk 0 l) from rfl)
  have HB0 := Lib.hid (Below.refl w.heap.size w)
  generalize hR : pathOk l = R at *
  clear h hR
  by_cases hbig : 4096 < l.length
  · have q1 : decide ((4096 : Int) < (l.length : Int)) = true := decide_eq_true (by omega)
    have HE := Lib.hid (show R = false from by rw [HQ.out, decide_eq_false (by omega)]; rfl)
    go_enter Tryz.func73, Tryz.ntmps73
    go_wp2_with fail
    go_ret
    exact ⟨ret_bool HE.out.symm, Below.refl _ _⟩
  have q1 : decide ((4096 : Int) < (l.length : Int)) = false := decide_eq_false (by omega)
  have HE0 : Hid (segsOk 0 (l.drop 0) = R) := by show _ = _; rw [HQ.out, decide_eq_true (by omega)]; rfl
  clear HQ
  go_enter Tryz.func73, Tryz.ntmps73
  go_wp2_with fail
  clear q1
  go_loopw [3, 5, 6, 12] (fun v3 _ _ v12 wr => ∃ (i : Nat) (last : Int), i ≤ l.length ∧ v12 = .int .i64 i ∧ v3 = .int .i64 last ∧ Hid (segsOk last (l.drop i) = R) ∧ Hid (Below w.heap.size w wr)) (fun _ _ _ v _ => l.length - (intOf v).toNat)
  case atStart => exact ⟨0, 0, Nat.zero_le _, rfl, rfl, HE0, HB0⟩
  case round =>
    clear HE0 HB0
    obtain ⟨i, last, hi, rfl, rfl, hE, hB⟩ := hrel
    by_cases hlt : i < l.length
    · obtain ⟨b, off, hA, hcell⟩ := PathAt.elem (HP.out.keep hB.out) i hlt
      subst hA
      have hst := segsOk_step last l i hlt
      generalize l[i] = s at *
      rw [hE.out] at hst
      have HST := Lib.hid hst
      have HRG := Lib.hid (show wr.rangeAt b (off + i * 7) (segC s).toList from fun j u hj => hcell j u (by rw [← hj]; exact Array.getElem?_toList.symm))
      have HSO := Lib.hid (show segOk last s = (decide (0 ≤ nPts s.k) && followsB s.k last && (pts s).all fit2 && ((pts s).drop (nPts s.k).toNat).all zero2) from rfl)
      have HXI := Lib.hid (show (Tryz.prog.info? 57).map (·.size) = some (segC s).toList.length from by rw [Array.length_toList, (segC_ok s).1]; kernel_rfl)
      have HXJ := Lib.hid (show (Tryz.prog.info? 57).map (·.size) = some (segC s).size from by rw [(segC_ok s).1]; kernel_rfl)
      have HX1 := Lib.hid (segC_ok s).2
      have HCE := Lib.hid (show ∀ W, Below (wr.heap.size + 1) (wr.alloc (.cells (segC s) 57)) W → ∀ j v, (segC s)[j]? = some v → W.cell? ⟨wr.heap.size, j, none⟩ = some v from fun W hW j v hj => by
        rw [hW.cell (by simp), Lib.cell_of_heap (heap_alloc_new wr _)]
        exact hj)
      have HC0 := Lib.hid (show ∀ W, Below (wr.heap.size + 1) (wr.alloc (.cells (segC s) 57)) W → W.cell? ⟨wr.heap.size, 0, none⟩ = some (.int .i64 s.k) from fun W hW => HCE.out W hW 0 _ rfl)
      have HPA := Lib.hid (show ∀ W, Below (wr.heap.size + 1) (wr.alloc (.cells (segC s) 57)) W → ∀ n, n ≤ 3 → PtsAt W (some ⟨wr.heap.size, 1 + n * 2, none⟩) ((pts s).drop n) from fun W hW n hn => pts_row W _ s n hn (HCE.out W hW))
      have HBW := Lib.hid (show ∀ W, Below (wr.heap.size + 1) (wr.alloc (.cells (segC s) 57)) W → Below w.heap.size w W from fun W hW => (hB.out.trans ((below_alloc wr _).mono hB.out.size)).trans (hW.mono (by have := hB.out.size; omega)))
      have hpl : (pts s).length = 3 := rfl
      obtain ⟨X, hX⟩ : ∃ X, X = segC s := ⟨_, rfl⟩
      rw [← hX] at HRG HXI HXJ HX1 HC0 HPA HBW HCE
      have HXS := Lib.hid (show #[Value.int .i64 0, .int .i64 0, .int .i64 0, .int .i64 0, .int .i64 0, .int .i64 0, .int .i64 0].size = X.size from by rw [hX]; rfl)
      have c0 := HC0.out _ (Below.refl _ _)
      have HN := Lib.hid (nPts_of s.k)
      clear hcell hst hX
      go_wp2_with (first
        | (refine wpList_load_mid rfl 57 _ rfl b (off + i * 7) rfl X.toList _ HRG.out Tryz.underlying57 rfl HXI.out ?_; simp only [Array.toArray_toList])
        | (refine wpList_store_new rfl 57 _ _ rfl _ X rfl rfl HXJ.out HXS.out HX1.out ?_))
      refine (points_calls s.k _).mono ?_
      rintro e w2 ⟨rfl, rfl⟩
      generalize nPts s.k = N at *
      rcases HN.out with rfl | rfl | rfl | rfl
      · have HS0 := Lib.hid (show R = false from by rw [HST.out, HSO.out]; rfl)
        go_wp2_with fail
        go_ret
        exact ⟨ret_bool HS0.out.symm, HBW.out _ (Below.refl _ _)⟩
      · have HFO := Lib.hid (follows_calls s.k last)
        have HS1 := Lib.hid (show R = ((followsB s.k last && (pts s).all fit2 && ((pts s).drop 0).all zero2) && segsOk s.k (l.drop (i + 1))) from by rw [HST.out, HSO.out]; rfl)
        generalize followsB s.k last = fb at *
        generalize hfq : (pts s).all fit2 = fq at *
        generalize hzq : ((pts s).drop 0).all zero2 = zq at *
        have HFQ := Lib.hid hfq
        have HZQ := Lib.hid hzq
        clear hfq hzq HST HSO HN
        cases fb with
        | false =>
          have HS0 := Lib.hid (show R = false from by rw [HS1.out]; rfl)
          go_wp2_with fail
          refine (HFO.out _).mono ?_
          rintro e w3 ⟨rfl, rfl⟩
          go_wp2_with fail
          go_ret
          exact ⟨ret_bool HS0.out.symm, HBW.out _ (Below.refl _ _)⟩
        | true =>
          have HP1 := Lib.hid (pfits_calls (pts s) (some ⟨wr.heap.size, 1, none⟩) 3 (wr.alloc (.cells X 57)) (HPA.out _ (Below.refl _ _) 0 (by omega)) (by rw [hpl]; omega) (by omega))
          rw [HFQ.out, hpl] at HP1
          go_wp2_with fail
          refine (HFO.out _).mono ?_
          rintro e w3 ⟨rfl, rfl⟩
          go_wp2_with fail
          refine HP1.out.mono ?_
          rintro e w4 ⟨rfl, b4⟩
          have B4 := Lib.hid (b4.mono (show wr.heap.size + 1 ≤ _ from by simp))
          clear b4 HP1
          have c4 := HC0.out w4 B4.out
          cases fq with
          | false =>
            have HS0 := Lib.hid (show R = false from by rw [HS1.out]; rfl)
            go_wp2_with fail
            go_ret
            exact ⟨ret_bool HS0.out.symm, HBW.out _ B4.out⟩
          | true =>
            have HP2 := Lib.hid (anyzero_calls ((pts s).drop 0) (some ⟨wr.heap.size, 1 + 0 * 2, none⟩) 3 w4 (HPA.out _ B4.out 0 (by omega)) (by rw [List.length_drop, hpl]; omega) (by omega))
            rw [show (((pts s).drop 0).any fun p => !zero2 p) = !zq from by rw [← HZQ.out, List.all_eq_not_any_not, Bool.not_not], show ((pts s).drop 0).length = 3 from rfl] at HP2
            try simp only [Nat.reduceMul, Nat.reduceAdd] at HP2
            go_wp2_with fail
            refine HP2.out.mono ?_
            rintro e w5 ⟨rfl, b5⟩
            have B5 := Lib.hid (B4.out.trans (b5.mono (by have := B4.out.size; simp only [World.size_alloc] at this; omega)))
            clear b5 HP2 c4
            have c5 := HC0.out w5 B5.out
            cases zq with
            | false =>
              have HS0 := Lib.hid (show R = false from by rw [HS1.out]; rfl)
              go_wp2_with fail
              go_ret
              exact ⟨ret_bool HS0.out.symm, HBW.out _ B5.out⟩
            | true =>
              have HS0 : Hid (segsOk s.k (l.drop (i + 1)) = R) := by show _ = _; rw [HS1.out]; rfl
              have BW := Lib.hid (HBW.out _ B5.out)
              go_wp2_with fail
              go_roundw
              case rel => exact ⟨i + 1, s.k, by omega, by go_num, rfl, HS0, BW⟩
              case measure => simp [intOf]; omega
      · have HFO := Lib.hid (follows_calls s.k last)
        have HS1 := Lib.hid (show R = ((followsB s.k last && (pts s).all fit2 && ((pts s).drop 1).all zero2) && segsOk s.k (l.drop (i + 1))) from by rw [HST.out, HSO.out]; rfl)
        generalize followsB s.k last = fb at *
        generalize hfq : (pts s).all fit2 = fq at *
        generalize hzq : ((pts s).drop 1).all zero2 = zq at *
        have HFQ := Lib.hid hfq
        have HZQ := Lib.hid hzq
        clear hfq hzq HST HSO HN
        cases fb with
        | false =>
          have HS0 := Lib.hid (show R = false from by rw [HS1.out]; rfl)
          go_wp2_with fail
          refine (HFO.out _).mono ?_
          rintro e w3 ⟨rfl, rfl⟩
          go_wp2_with fail
          go_ret
          exact ⟨ret_bool HS0.out.symm, HBW.out _ (Below.refl _ _)⟩
        | true =>
          have HP1 := Lib.hid (pfits_calls (pts s) (some ⟨wr.heap.size, 1, none⟩) 3 (wr.alloc (.cells X 57)) (HPA.out _ (Below.refl _ _) 0 (by omega)) (by rw [hpl]; omega) (by omega))
          rw [HFQ.out, hpl] at HP1
          go_wp2_with fail
          refine (HFO.out _).mono ?_
          rintro e w3 ⟨rfl, rfl⟩
          go_wp2_with fail
          refine HP1.out.mono ?_
          rintro e w4 ⟨rfl, b4⟩
          have B4 := Lib.hid (b4.mono (show wr.heap.size + 1 ≤ _ from by simp))
          clear b4 HP1
          have c4 := HC0.out w4 B4.out
          cases fq with
          | false =>
            have HS0 := Lib.hid (show R = false from by rw [HS1.out]; rfl)
            go_wp2_with fail
            go_ret
            exact ⟨ret_bool HS0.out.symm, HBW.out _ B4.out⟩
          | true =>
            have HP2 := Lib.hid (anyzero_calls ((pts s).drop 1) (some ⟨wr.heap.size, 1 + 1 * 2, none⟩) 2 w4 (HPA.out _ B4.out 1 (by omega)) (by rw [List.length_drop, hpl]; omega) (by omega))
            rw [show (((pts s).drop 1).any fun p => !zero2 p) = !zq from by rw [← HZQ.out, List.all_eq_not_any_not, Bool.not_not], show ((pts s).drop 1).length = 2 from rfl] at HP2
            try simp only [Nat.reduceMul, Nat.reduceAdd] at HP2
            go_wp2_with fail
            refine HP2.out.mono ?_
            rintro e w5 ⟨rfl, b5⟩
            have B5 := Lib.hid (B4.out.trans (b5.mono (by have := B4.out.size; simp only [World.size_alloc] at this; omega)))
            clear b5 HP2 c4
            have c5 := HC0.out w5 B5.out
            cases zq with
            | false =>
              have HS0 := Lib.hid (show R = false from by rw [HS1.out]; rfl)
              go_wp2_with fail
              go_ret
              exact ⟨ret_bool HS0.out.symm, HBW.out _ B5.out⟩
            | true =>
              have HS0 : Hid (segsOk s.k (l.drop (i + 1)) = R) := by show _ = _; rw [HS1.out]; rfl
              have BW := Lib.hid (HBW.out _ B5.out)
              go_wp2_with fail
              go_roundw
              case rel => exact ⟨i + 1, s.k, by omega, by go_num, rfl, HS0, BW⟩
              case measure => simp [intOf]; omega
      · have HFO := Lib.hid (follows_calls s.k last)
        have HS1 := Lib.hid (show R = ((followsB s.k last && (pts s).all fit2 && ((pts s).drop 3).all zero2) && segsOk s.k (l.drop (i + 1))) from by rw [HST.out, HSO.out]; rfl)
        generalize followsB s.k last = fb at *
        generalize hfq : (pts s).all fit2 = fq at *
        generalize hzq : ((pts s).drop 3).all zero2 = zq at *
        have HFQ := Lib.hid hfq
        have HZQ := Lib.hid hzq
        clear hfq hzq HST HSO HN
        cases fb with
        | false =>
          have HS0 := Lib.hid (show R = false from by rw [HS1.out]; rfl)
          go_wp2_with fail
          refine (HFO.out _).mono ?_
          rintro e w3 ⟨rfl, rfl⟩
          go_wp2_with fail
          go_ret
          exact ⟨ret_bool HS0.out.symm, HBW.out _ (Below.refl _ _)⟩
        | true =>
          have HP1 := Lib.hid (pfits_calls (pts s) (some ⟨wr.heap.size, 1, none⟩) 3 (wr.alloc (.cells X 57)) (HPA.out _ (Below.refl _ _) 0 (by omega)) (by rw [hpl]; omega) (by omega))
          rw [HFQ.out, hpl] at HP1
          go_wp2_with fail
          refine (HFO.out _).mono ?_
          rintro e w3 ⟨rfl, rfl⟩
          go_wp2_with fail
          refine HP1.out.mono ?_
          rintro e w4 ⟨rfl, b4⟩
          have B4 := Lib.hid (b4.mono (show wr.heap.size + 1 ≤ _ from by simp))
          clear b4 HP1
          have c4 := HC0.out w4 B4.out
          cases fq with
          | false =>
            have HS0 := Lib.hid (show R = false from by rw [HS1.out]; rfl)
            go_wp2_with fail
            go_ret
            exact ⟨ret_bool HS0.out.symm, HBW.out _ B4.out⟩
          | true =>
            have HP2 := Lib.hid (anyzero_calls ((pts s).drop 3) (some ⟨wr.heap.size, 1, none⟩) 0 w4 (.inl rfl) (by rw [List.length_drop, hpl]; omega) (by omega))
            rw [show (((pts s).drop 3).any fun p => !zero2 p) = !zq from by rw [← HZQ.out, List.all_eq_not_any_not, Bool.not_not], show ((pts s).drop 3).length = 0 from rfl] at HP2
            try simp only [Nat.reduceMul, Nat.reduceAdd] at HP2
            go_wp2_with fail
            refine HP2.out.mono ?_
            rintro e w5 ⟨rfl, b5⟩
            have B5 := Lib.hid (B4.out.trans (b5.mono (by have := B4.out.size; simp only [World.size_alloc] at this; omega)))
            clear b5 HP2 c4
            have c5 := HC0.out w5 B5.out
            cases zq with
            | false =>
              have HS0 := Lib.hid (show R = false from by rw [HS1.out]; rfl)
              go_wp2_with fail
              go_ret
              exact ⟨ret_bool HS0.out.symm, HBW.out _ B5.out⟩
            | true =>
              have HS0 : Hid (segsOk s.k (l.drop (i + 1)) = R) := by show _ = _; rw [HS1.out]; rfl
              have BW := Lib.hid (HBW.out _ B5.out)
              go_wp2_with fail
              go_roundw
              case rel => exact ⟨i + 1, s.k, by omega, by go_num, rfl, HS0, BW⟩
              case measure => simp [intOf]; omega
    · obtain rfl : i = l.length := by omega
      have HF := Lib.hid (show R = true from by rw [← hE.out, List.drop_of_length_le (Nat.le_refl _)]; rfl)
      go_wp2_with fail
      go_ret
      exact ⟨ret_bool HF.out.symm, hB.out⟩
end Go.Proofs.YtdkgfgmmmjpkgaaGreatDoor

namespace Go.Proofs.YtdkgfgmmmjpkgaaGreatDoor
open Go.RowKit Go.Shelf

def colR (sp p0 p1 p2 p3 : Int) : Nat → Bool
  | 0 => partOk 0 sp p0 && (partOk 1 sp p1 && (partOk 2 sp p2 && (partOk 3 sp p3 && (true))))
  | 1 => partOk 1 sp p1 && (partOk 2 sp p2 && (partOk 3 sp p3 && (true)))
  | 2 => partOk 2 sp p2 && (partOk 3 sp p3 && (true))
  | 3 => partOk 3 sp p3 && (true)
  | _ => true
theorem colOk_eq (sp p0 p1 p2 p3 : Int) : colOk ⟨sp, p0, p1, p2, p3⟩ = ((sp == 1 || sp == 3 || sp == 4) && colR sp p0 p1 p2 p3 0) := by
  simp only [colOk, colR, Bool.and_assoc, Bool.and_true]

set_option maxHeartbeats 3200000 in
set_option maxRecDepth 100000 in
theorem color_ok_calls (c : ColP) (w : World) : Calls Tryz.prog 69 #[.agg (colA c)] w fun e w' => e = .returned (.bool (colOk c)) ∧ Below w.heap.size w w' := by
  obtain ⟨sp, p0, p1, p2, p3⟩ := c
  have HQ := Lib.hid (colOk_eq sp p0 p1 p2 p3)
  generalize hR : colOk ⟨sp, p0, p1, p2, p3⟩ = Q at *
  clear hR
  unfold colA
  simp only
  by_cases hsp : sp = 1 ∨ sp = 3 ∨ sp = 4
  rotate_left
  · have h1 : (sp != 1) = true := bne_iff_ne.2 fun h => hsp (.inl h)
    have h3 : (sp != 3) = true := bne_iff_ne.2 fun h => hsp (.inr (.inl h))
    have h4 : (sp != 4) = true := bne_iff_ne.2 fun h => hsp (.inr (.inr h))
    have HE := Lib.hid (show Q = false from by
      rw [HQ.out, beq_eq_false_iff_ne.2 (bne_iff_ne.1 h1), beq_eq_false_iff_ne.2 (bne_iff_ne.1 h3), beq_eq_false_iff_ne.2 (bne_iff_ne.1 h4)]; rfl)
    clear hsp HQ
    go_enter Tryz.func69, Tryz.ntmps69
    go_wp2_with fail
    go_ret
    exact ⟨ret_bool HE.out.symm, below_alloc w _⟩
  rcases hsp with rfl | rfl | rfl
  · have hD0 : Hid (Q = colR 1 p0 p1 p2 p3 0) := HQ.out
    clear HQ
    go_enter Tryz.func69, Tryz.ntmps69
    go_wp2_with fail
    have hB0 := Lib.hid (below_alloc w (.cells #[.int .i64 1, .int .i64 p0, .int .i64 p1, .int .i64 p2, .int .i64 p3] 44))
    go_loopw [3, 4, 20] (fun _ _ v wr => ∃ i : Nat, i ≤ 4 ∧ v = .int .i64 i ∧ Hid (Q = colR 1 p0 p1 p2 p3 i) ∧ Hid (wr = w.alloc (.cells #[.int .i64 1, .int .i64 p0, .int .i64 p1, .int .i64 p2, .int .i64 p3] 44))) (fun _ _ v _ => 4 - (intOf v).toNat)
    case atStart => exact ⟨0, by omega, rfl, hD0, rfl⟩
    case round =>
      clear hD0
      obtain ⟨i, hi, rfl, hD, hw⟩ := hrel
      obtain rfl := hw.out
      have hB := hB0
      match i, hi with
      | 0, _ =>
        have ix : ∀ w : World, (Instr.index 42 (.agg #[.int .i64 p0, .int .i64 p1, .int .i64 p2, .int .i64 p3]) (.int .i64 0)).run Tryz.prog w = .ok (.int .i64 p0) w := fun _ => by kernel_rfl
        have HS := Lib.hid (show Q = (partOk 0 1 p0 && colR 1 p0 p1 p2 p3 1) from hD.out)
        have HPQ := Lib.hid (show partOk 0 1 p0 = (decide (0 ≤ p0) && decide (p0 ≤ 65536) && (decide ((0 : Int) < 1) || p0 == 0)) from rfl)
        cases h1 : decide (p0 < 0) with
        | true =>
          have hx := of_decide_eq_true h1
          have HE := Lib.hid (show Q = false from by rw [HS.out, HPQ.out, decide_eq_false (show ¬ 0 ≤ p0 from by omega)]; rfl)
          clear hx
          go_wp2_with fail
          go_ret
          exact ⟨ret_bool HE.out.symm, hB.out⟩
        | false =>
          have hx := of_decide_eq_false h1
          cases h2 : decide (65536 < p0) with
          | true =>
            have hy := of_decide_eq_true h2
            have HE := Lib.hid (show Q = false from by rw [HS.out, HPQ.out, decide_eq_false (show ¬ p0 ≤ 65536 from by omega), Bool.and_false]; rfl)
            clear hx hy
            go_wp2_with fail
            go_ret
            exact ⟨ret_bool HE.out.symm, hB.out⟩
          | false =>
            have hy := of_decide_eq_false h2
            have HP2 := Lib.hid (show partOk 0 1 p0 = (decide ((0 : Int) < 1) || p0 == 0) from by rw [HPQ.out, decide_eq_true (show 0 ≤ p0 from by omega), decide_eq_true (show p0 ≤ 65536 from by omega)]; rfl)
            clear hx hy
            have hn : Hid (Q = colR 1 p0 p1 p2 p3 1) := by
              show _ = _
              rw [HS.out, HP2.out]
              rfl
            go_wp2_with fail
            go_roundw
            case rel => exact ⟨1, by omega, by go_num, hn, by first | exact hw | exact Lib.hid trivial⟩
            case measure => simp [intOf]
      | 1, _ =>
        have ix : ∀ w : World, (Instr.index 42 (.agg #[.int .i64 p0, .int .i64 p1, .int .i64 p2, .int .i64 p3]) (.int .i64 1)).run Tryz.prog w = .ok (.int .i64 p1) w := fun _ => by kernel_rfl
        have HS := Lib.hid (show Q = (partOk 1 1 p1 && colR 1 p0 p1 p2 p3 2) from hD.out)
        have HPQ := Lib.hid (show partOk 1 1 p1 = (decide (0 ≤ p1) && decide (p1 ≤ 65536) && (decide ((1 : Int) < 1) || p1 == 0)) from rfl)
        cases h1 : decide (p1 < 0) with
        | true =>
          have hx := of_decide_eq_true h1
          have HE := Lib.hid (show Q = false from by rw [HS.out, HPQ.out, decide_eq_false (show ¬ 0 ≤ p1 from by omega)]; rfl)
          clear hx
          go_wp2_with fail
          go_ret
          exact ⟨ret_bool HE.out.symm, hB.out⟩
        | false =>
          have hx := of_decide_eq_false h1
          cases h2 : decide (65536 < p1) with
          | true =>
            have hy := of_decide_eq_true h2
            have HE := Lib.hid (show Q = false from by rw [HS.out, HPQ.out, decide_eq_false (show ¬ p1 ≤ 65536 from by omega), Bool.and_false]; rfl)
            clear hx hy
            go_wp2_with fail
            go_ret
            exact ⟨ret_bool HE.out.symm, hB.out⟩
          | false =>
            have hy := of_decide_eq_false h2
            have HP2 := Lib.hid (show partOk 1 1 p1 = (decide ((1 : Int) < 1) || p1 == 0) from by rw [HPQ.out, decide_eq_true (show 0 ≤ p1 from by omega), decide_eq_true (show p1 ≤ 65536 from by omega)]; rfl)
            clear hx hy
            cases h3 : (p1 != 0) with
            | true =>
              have HE := Lib.hid (show Q = false from by rw [HS.out, HP2.out, beq_eq_false_iff_ne.2 (bne_iff_ne.1 h3)]; rfl)
              go_wp2_with fail
              go_ret
              exact ⟨ret_bool HE.out.symm, hB.out⟩
            | false =>
              have hz : (p1 == 0) = true := by rw [bne, Bool.not_eq_false'] at h3; exact h3
              have hn : Hid (Q = colR 1 p0 p1 p2 p3 2) := by
                show _ = _
                rw [HS.out, HP2.out, hz]
                rfl
              go_wp2_with fail
              go_roundw
              case rel => exact ⟨2, by omega, by go_num, hn, by first | exact hw | exact Lib.hid trivial⟩
              case measure => simp [intOf]
      | 2, _ =>
        have ix : ∀ w : World, (Instr.index 42 (.agg #[.int .i64 p0, .int .i64 p1, .int .i64 p2, .int .i64 p3]) (.int .i64 2)).run Tryz.prog w = .ok (.int .i64 p2) w := fun _ => by kernel_rfl
        have HS := Lib.hid (show Q = (partOk 2 1 p2 && colR 1 p0 p1 p2 p3 3) from hD.out)
        have HPQ := Lib.hid (show partOk 2 1 p2 = (decide (0 ≤ p2) && decide (p2 ≤ 65536) && (decide ((2 : Int) < 1) || p2 == 0)) from rfl)
        cases h1 : decide (p2 < 0) with
        | true =>
          have hx := of_decide_eq_true h1
          have HE := Lib.hid (show Q = false from by rw [HS.out, HPQ.out, decide_eq_false (show ¬ 0 ≤ p2 from by omega)]; rfl)
          clear hx
          go_wp2_with fail
          go_ret
          exact ⟨ret_bool HE.out.symm, hB.out⟩
        | false =>
          have hx := of_decide_eq_false h1
          cases h2 : decide (65536 < p2) with
          | true =>
            have hy := of_decide_eq_true h2
            have HE := Lib.hid (show Q = false from by rw [HS.out, HPQ.out, decide_eq_false (show ¬ p2 ≤ 65536 from by omega), Bool.and_false]; rfl)
            clear hx hy
            go_wp2_with fail
            go_ret
            exact ⟨ret_bool HE.out.symm, hB.out⟩
          | false =>
            have hy := of_decide_eq_false h2
            have HP2 := Lib.hid (show partOk 2 1 p2 = (decide ((2 : Int) < 1) || p2 == 0) from by rw [HPQ.out, decide_eq_true (show 0 ≤ p2 from by omega), decide_eq_true (show p2 ≤ 65536 from by omega)]; rfl)
            clear hx hy
            cases h3 : (p2 != 0) with
            | true =>
              have HE := Lib.hid (show Q = false from by rw [HS.out, HP2.out, beq_eq_false_iff_ne.2 (bne_iff_ne.1 h3)]; rfl)
              go_wp2_with fail
              go_ret
              exact ⟨ret_bool HE.out.symm, hB.out⟩
            | false =>
              have hz : (p2 == 0) = true := by rw [bne, Bool.not_eq_false'] at h3; exact h3
              have hn : Hid (Q = colR 1 p0 p1 p2 p3 3) := by
                show _ = _
                rw [HS.out, HP2.out, hz]
                rfl
              go_wp2_with fail
              go_roundw
              case rel => exact ⟨3, by omega, by go_num, hn, by first | exact hw | exact Lib.hid trivial⟩
              case measure => simp [intOf]
      | 3, _ =>
        have ix : ∀ w : World, (Instr.index 42 (.agg #[.int .i64 p0, .int .i64 p1, .int .i64 p2, .int .i64 p3]) (.int .i64 3)).run Tryz.prog w = .ok (.int .i64 p3) w := fun _ => by kernel_rfl
        have HS := Lib.hid (show Q = (partOk 3 1 p3 && colR 1 p0 p1 p2 p3 4) from hD.out)
        have HPQ := Lib.hid (show partOk 3 1 p3 = (decide (0 ≤ p3) && decide (p3 ≤ 65536) && (decide ((3 : Int) < 1) || p3 == 0)) from rfl)
        cases h1 : decide (p3 < 0) with
        | true =>
          have hx := of_decide_eq_true h1
          have HE := Lib.hid (show Q = false from by rw [HS.out, HPQ.out, decide_eq_false (show ¬ 0 ≤ p3 from by omega)]; rfl)
          clear hx
          go_wp2_with fail
          go_ret
          exact ⟨ret_bool HE.out.symm, hB.out⟩
        | false =>
          have hx := of_decide_eq_false h1
          cases h2 : decide (65536 < p3) with
          | true =>
            have hy := of_decide_eq_true h2
            have HE := Lib.hid (show Q = false from by rw [HS.out, HPQ.out, decide_eq_false (show ¬ p3 ≤ 65536 from by omega), Bool.and_false]; rfl)
            clear hx hy
            go_wp2_with fail
            go_ret
            exact ⟨ret_bool HE.out.symm, hB.out⟩
          | false =>
            have hy := of_decide_eq_false h2
            have HP2 := Lib.hid (show partOk 3 1 p3 = (decide ((3 : Int) < 1) || p3 == 0) from by rw [HPQ.out, decide_eq_true (show 0 ≤ p3 from by omega), decide_eq_true (show p3 ≤ 65536 from by omega)]; rfl)
            clear hx hy
            cases h3 : (p3 != 0) with
            | true =>
              have HE := Lib.hid (show Q = false from by rw [HS.out, HP2.out, beq_eq_false_iff_ne.2 (bne_iff_ne.1 h3)]; rfl)
              go_wp2_with fail
              go_ret
              exact ⟨ret_bool HE.out.symm, hB.out⟩
            | false =>
              have hz : (p3 == 0) = true := by rw [bne, Bool.not_eq_false'] at h3; exact h3
              have hn : Hid (Q = colR 1 p0 p1 p2 p3 4) := by
                show _ = _
                rw [HS.out, HP2.out, hz]
                rfl
              go_wp2_with fail
              go_roundw
              case rel => exact ⟨4, by omega, by go_num, hn, by first | exact hw | exact Lib.hid trivial⟩
              case measure => simp [intOf]
      | 4, _ =>
        have HE := Lib.hid (show Q = true from hD.out)
        go_wp2_with fail
        go_ret
        exact ⟨ret_bool HE.out.symm, hB.out⟩
      | n + 5, hn => exact absurd hn (by omega)
  · have hD0 : Hid (Q = colR 3 p0 p1 p2 p3 0) := HQ.out
    clear HQ
    go_enter Tryz.func69, Tryz.ntmps69
    go_wp2_with fail
    have hB0 := Lib.hid (below_alloc w (.cells #[.int .i64 3, .int .i64 p0, .int .i64 p1, .int .i64 p2, .int .i64 p3] 44))
    go_loopw [3, 4, 20] (fun _ _ v wr => ∃ i : Nat, i ≤ 4 ∧ v = .int .i64 i ∧ Hid (Q = colR 3 p0 p1 p2 p3 i) ∧ Hid (wr = w.alloc (.cells #[.int .i64 3, .int .i64 p0, .int .i64 p1, .int .i64 p2, .int .i64 p3] 44))) (fun _ _ v _ => 4 - (intOf v).toNat)
    case atStart => exact ⟨0, by omega, rfl, hD0, rfl⟩
    case round =>
      clear hD0
      obtain ⟨i, hi, rfl, hD, hw⟩ := hrel
      obtain rfl := hw.out
      have hB := hB0
      match i, hi with
      | 0, _ =>
        have ix : ∀ w : World, (Instr.index 42 (.agg #[.int .i64 p0, .int .i64 p1, .int .i64 p2, .int .i64 p3]) (.int .i64 0)).run Tryz.prog w = .ok (.int .i64 p0) w := fun _ => by kernel_rfl
        have HS := Lib.hid (show Q = (partOk 0 3 p0 && colR 3 p0 p1 p2 p3 1) from hD.out)
        have HPQ := Lib.hid (show partOk 0 3 p0 = (decide (0 ≤ p0) && decide (p0 ≤ 65536) && (decide ((0 : Int) < 3) || p0 == 0)) from rfl)
        cases h1 : decide (p0 < 0) with
        | true =>
          have hx := of_decide_eq_true h1
          have HE := Lib.hid (show Q = false from by rw [HS.out, HPQ.out, decide_eq_false (show ¬ 0 ≤ p0 from by omega)]; rfl)
          clear hx
          go_wp2_with fail
          go_ret
          exact ⟨ret_bool HE.out.symm, hB.out⟩
        | false =>
          have hx := of_decide_eq_false h1
          cases h2 : decide (65536 < p0) with
          | true =>
            have hy := of_decide_eq_true h2
            have HE := Lib.hid (show Q = false from by rw [HS.out, HPQ.out, decide_eq_false (show ¬ p0 ≤ 65536 from by omega), Bool.and_false]; rfl)
            clear hx hy
            go_wp2_with fail
            go_ret
            exact ⟨ret_bool HE.out.symm, hB.out⟩
          | false =>
            have hy := of_decide_eq_false h2
            have HP2 := Lib.hid (show partOk 0 3 p0 = (decide ((0 : Int) < 3) || p0 == 0) from by rw [HPQ.out, decide_eq_true (show 0 ≤ p0 from by omega), decide_eq_true (show p0 ≤ 65536 from by omega)]; rfl)
            clear hx hy
            have hn : Hid (Q = colR 3 p0 p1 p2 p3 1) := by
              show _ = _
              rw [HS.out, HP2.out]
              rfl
            go_wp2_with fail
            go_roundw
            case rel => exact ⟨1, by omega, by go_num, hn, by first | exact hw | exact Lib.hid trivial⟩
            case measure => simp [intOf]
      | 1, _ =>
        have ix : ∀ w : World, (Instr.index 42 (.agg #[.int .i64 p0, .int .i64 p1, .int .i64 p2, .int .i64 p3]) (.int .i64 1)).run Tryz.prog w = .ok (.int .i64 p1) w := fun _ => by kernel_rfl
        have HS := Lib.hid (show Q = (partOk 1 3 p1 && colR 3 p0 p1 p2 p3 2) from hD.out)
        have HPQ := Lib.hid (show partOk 1 3 p1 = (decide (0 ≤ p1) && decide (p1 ≤ 65536) && (decide ((1 : Int) < 3) || p1 == 0)) from rfl)
        cases h1 : decide (p1 < 0) with
        | true =>
          have hx := of_decide_eq_true h1
          have HE := Lib.hid (show Q = false from by rw [HS.out, HPQ.out, decide_eq_false (show ¬ 0 ≤ p1 from by omega)]; rfl)
          clear hx
          go_wp2_with fail
          go_ret
          exact ⟨ret_bool HE.out.symm, hB.out⟩
        | false =>
          have hx := of_decide_eq_false h1
          cases h2 : decide (65536 < p1) with
          | true =>
            have hy := of_decide_eq_true h2
            have HE := Lib.hid (show Q = false from by rw [HS.out, HPQ.out, decide_eq_false (show ¬ p1 ≤ 65536 from by omega), Bool.and_false]; rfl)
            clear hx hy
            go_wp2_with fail
            go_ret
            exact ⟨ret_bool HE.out.symm, hB.out⟩
          | false =>
            have hy := of_decide_eq_false h2
            have HP2 := Lib.hid (show partOk 1 3 p1 = (decide ((1 : Int) < 3) || p1 == 0) from by rw [HPQ.out, decide_eq_true (show 0 ≤ p1 from by omega), decide_eq_true (show p1 ≤ 65536 from by omega)]; rfl)
            clear hx hy
            have hn : Hid (Q = colR 3 p0 p1 p2 p3 2) := by
              show _ = _
              rw [HS.out, HP2.out]
              rfl
            go_wp2_with fail
            go_roundw
            case rel => exact ⟨2, by omega, by go_num, hn, by first | exact hw | exact Lib.hid trivial⟩
            case measure => simp [intOf]
      | 2, _ =>
        have ix : ∀ w : World, (Instr.index 42 (.agg #[.int .i64 p0, .int .i64 p1, .int .i64 p2, .int .i64 p3]) (.int .i64 2)).run Tryz.prog w = .ok (.int .i64 p2) w := fun _ => by kernel_rfl
        have HS := Lib.hid (show Q = (partOk 2 3 p2 && colR 3 p0 p1 p2 p3 3) from hD.out)
        have HPQ := Lib.hid (show partOk 2 3 p2 = (decide (0 ≤ p2) && decide (p2 ≤ 65536) && (decide ((2 : Int) < 3) || p2 == 0)) from rfl)
        cases h1 : decide (p2 < 0) with
        | true =>
          have hx := of_decide_eq_true h1
          have HE := Lib.hid (show Q = false from by rw [HS.out, HPQ.out, decide_eq_false (show ¬ 0 ≤ p2 from by omega)]; rfl)
          clear hx
          go_wp2_with fail
          go_ret
          exact ⟨ret_bool HE.out.symm, hB.out⟩
        | false =>
          have hx := of_decide_eq_false h1
          cases h2 : decide (65536 < p2) with
          | true =>
            have hy := of_decide_eq_true h2
            have HE := Lib.hid (show Q = false from by rw [HS.out, HPQ.out, decide_eq_false (show ¬ p2 ≤ 65536 from by omega), Bool.and_false]; rfl)
            clear hx hy
            go_wp2_with fail
            go_ret
            exact ⟨ret_bool HE.out.symm, hB.out⟩
          | false =>
            have hy := of_decide_eq_false h2
            have HP2 := Lib.hid (show partOk 2 3 p2 = (decide ((2 : Int) < 3) || p2 == 0) from by rw [HPQ.out, decide_eq_true (show 0 ≤ p2 from by omega), decide_eq_true (show p2 ≤ 65536 from by omega)]; rfl)
            clear hx hy
            have hn : Hid (Q = colR 3 p0 p1 p2 p3 3) := by
              show _ = _
              rw [HS.out, HP2.out]
              rfl
            go_wp2_with fail
            go_roundw
            case rel => exact ⟨3, by omega, by go_num, hn, by first | exact hw | exact Lib.hid trivial⟩
            case measure => simp [intOf]
      | 3, _ =>
        have ix : ∀ w : World, (Instr.index 42 (.agg #[.int .i64 p0, .int .i64 p1, .int .i64 p2, .int .i64 p3]) (.int .i64 3)).run Tryz.prog w = .ok (.int .i64 p3) w := fun _ => by kernel_rfl
        have HS := Lib.hid (show Q = (partOk 3 3 p3 && colR 3 p0 p1 p2 p3 4) from hD.out)
        have HPQ := Lib.hid (show partOk 3 3 p3 = (decide (0 ≤ p3) && decide (p3 ≤ 65536) && (decide ((3 : Int) < 3) || p3 == 0)) from rfl)
        cases h1 : decide (p3 < 0) with
        | true =>
          have hx := of_decide_eq_true h1
          have HE := Lib.hid (show Q = false from by rw [HS.out, HPQ.out, decide_eq_false (show ¬ 0 ≤ p3 from by omega)]; rfl)
          clear hx
          go_wp2_with fail
          go_ret
          exact ⟨ret_bool HE.out.symm, hB.out⟩
        | false =>
          have hx := of_decide_eq_false h1
          cases h2 : decide (65536 < p3) with
          | true =>
            have hy := of_decide_eq_true h2
            have HE := Lib.hid (show Q = false from by rw [HS.out, HPQ.out, decide_eq_false (show ¬ p3 ≤ 65536 from by omega), Bool.and_false]; rfl)
            clear hx hy
            go_wp2_with fail
            go_ret
            exact ⟨ret_bool HE.out.symm, hB.out⟩
          | false =>
            have hy := of_decide_eq_false h2
            have HP2 := Lib.hid (show partOk 3 3 p3 = (decide ((3 : Int) < 3) || p3 == 0) from by rw [HPQ.out, decide_eq_true (show 0 ≤ p3 from by omega), decide_eq_true (show p3 ≤ 65536 from by omega)]; rfl)
            clear hx hy
            cases h3 : (p3 != 0) with
            | true =>
              have HE := Lib.hid (show Q = false from by rw [HS.out, HP2.out, beq_eq_false_iff_ne.2 (bne_iff_ne.1 h3)]; rfl)
              go_wp2_with fail
              go_ret
              exact ⟨ret_bool HE.out.symm, hB.out⟩
            | false =>
              have hz : (p3 == 0) = true := by rw [bne, Bool.not_eq_false'] at h3; exact h3
              have hn : Hid (Q = colR 3 p0 p1 p2 p3 4) := by
                show _ = _
                rw [HS.out, HP2.out, hz]
                rfl
              go_wp2_with fail
              go_roundw
              case rel => exact ⟨4, by omega, by go_num, hn, by first | exact hw | exact Lib.hid trivial⟩
              case measure => simp [intOf]
      | 4, _ =>
        have HE := Lib.hid (show Q = true from hD.out)
        go_wp2_with fail
        go_ret
        exact ⟨ret_bool HE.out.symm, hB.out⟩
      | n + 5, hn => exact absurd hn (by omega)
  · have hD0 : Hid (Q = colR 4 p0 p1 p2 p3 0) := HQ.out
    clear HQ
    go_enter Tryz.func69, Tryz.ntmps69
    go_wp2_with fail
    have hB0 := Lib.hid (below_alloc w (.cells #[.int .i64 4, .int .i64 p0, .int .i64 p1, .int .i64 p2, .int .i64 p3] 44))
    go_loopw [3, 4, 20] (fun _ _ v wr => ∃ i : Nat, i ≤ 4 ∧ v = .int .i64 i ∧ Hid (Q = colR 4 p0 p1 p2 p3 i) ∧ Hid (wr = w.alloc (.cells #[.int .i64 4, .int .i64 p0, .int .i64 p1, .int .i64 p2, .int .i64 p3] 44))) (fun _ _ v _ => 4 - (intOf v).toNat)
    case atStart => exact ⟨0, by omega, rfl, hD0, rfl⟩
    case round =>
      clear hD0
      obtain ⟨i, hi, rfl, hD, hw⟩ := hrel
      obtain rfl := hw.out
      have hB := hB0
      match i, hi with
      | 0, _ =>
        have ix : ∀ w : World, (Instr.index 42 (.agg #[.int .i64 p0, .int .i64 p1, .int .i64 p2, .int .i64 p3]) (.int .i64 0)).run Tryz.prog w = .ok (.int .i64 p0) w := fun _ => by kernel_rfl
        have HS := Lib.hid (show Q = (partOk 0 4 p0 && colR 4 p0 p1 p2 p3 1) from hD.out)
        have HPQ := Lib.hid (show partOk 0 4 p0 = (decide (0 ≤ p0) && decide (p0 ≤ 65536) && (decide ((0 : Int) < 4) || p0 == 0)) from rfl)
        cases h1 : decide (p0 < 0) with
        | true =>
          have hx := of_decide_eq_true h1
          have HE := Lib.hid (show Q = false from by rw [HS.out, HPQ.out, decide_eq_false (show ¬ 0 ≤ p0 from by omega)]; rfl)
          clear hx
          go_wp2_with fail
          go_ret
          exact ⟨ret_bool HE.out.symm, hB.out⟩
        | false =>
          have hx := of_decide_eq_false h1
          cases h2 : decide (65536 < p0) with
          | true =>
            have hy := of_decide_eq_true h2
            have HE := Lib.hid (show Q = false from by rw [HS.out, HPQ.out, decide_eq_false (show ¬ p0 ≤ 65536 from by omega), Bool.and_false]; rfl)
            clear hx hy
            go_wp2_with fail
            go_ret
            exact ⟨ret_bool HE.out.symm, hB.out⟩
          | false =>
            have hy := of_decide_eq_false h2
            have HP2 := Lib.hid (show partOk 0 4 p0 = (decide ((0 : Int) < 4) || p0 == 0) from by rw [HPQ.out, decide_eq_true (show 0 ≤ p0 from by omega), decide_eq_true (show p0 ≤ 65536 from by omega)]; rfl)
            clear hx hy
            have hn : Hid (Q = colR 4 p0 p1 p2 p3 1) := by
              show _ = _
              rw [HS.out, HP2.out]
              rfl
            go_wp2_with fail
            go_roundw
            case rel => exact ⟨1, by omega, by go_num, hn, by first | exact hw | exact Lib.hid trivial⟩
            case measure => simp [intOf]
      | 1, _ =>
        have ix : ∀ w : World, (Instr.index 42 (.agg #[.int .i64 p0, .int .i64 p1, .int .i64 p2, .int .i64 p3]) (.int .i64 1)).run Tryz.prog w = .ok (.int .i64 p1) w := fun _ => by kernel_rfl
        have HS := Lib.hid (show Q = (partOk 1 4 p1 && colR 4 p0 p1 p2 p3 2) from hD.out)
        have HPQ := Lib.hid (show partOk 1 4 p1 = (decide (0 ≤ p1) && decide (p1 ≤ 65536) && (decide ((1 : Int) < 4) || p1 == 0)) from rfl)
        cases h1 : decide (p1 < 0) with
        | true =>
          have hx := of_decide_eq_true h1
          have HE := Lib.hid (show Q = false from by rw [HS.out, HPQ.out, decide_eq_false (show ¬ 0 ≤ p1 from by omega)]; rfl)
          clear hx
          go_wp2_with fail
          go_ret
          exact ⟨ret_bool HE.out.symm, hB.out⟩
        | false =>
          have hx := of_decide_eq_false h1
          cases h2 : decide (65536 < p1) with
          | true =>
            have hy := of_decide_eq_true h2
            have HE := Lib.hid (show Q = false from by rw [HS.out, HPQ.out, decide_eq_false (show ¬ p1 ≤ 65536 from by omega), Bool.and_false]; rfl)
            clear hx hy
            go_wp2_with fail
            go_ret
            exact ⟨ret_bool HE.out.symm, hB.out⟩
          | false =>
            have hy := of_decide_eq_false h2
            have HP2 := Lib.hid (show partOk 1 4 p1 = (decide ((1 : Int) < 4) || p1 == 0) from by rw [HPQ.out, decide_eq_true (show 0 ≤ p1 from by omega), decide_eq_true (show p1 ≤ 65536 from by omega)]; rfl)
            clear hx hy
            have hn : Hid (Q = colR 4 p0 p1 p2 p3 2) := by
              show _ = _
              rw [HS.out, HP2.out]
              rfl
            go_wp2_with fail
            go_roundw
            case rel => exact ⟨2, by omega, by go_num, hn, by first | exact hw | exact Lib.hid trivial⟩
            case measure => simp [intOf]
      | 2, _ =>
        have ix : ∀ w : World, (Instr.index 42 (.agg #[.int .i64 p0, .int .i64 p1, .int .i64 p2, .int .i64 p3]) (.int .i64 2)).run Tryz.prog w = .ok (.int .i64 p2) w := fun _ => by kernel_rfl
        have HS := Lib.hid (show Q = (partOk 2 4 p2 && colR 4 p0 p1 p2 p3 3) from hD.out)
        have HPQ := Lib.hid (show partOk 2 4 p2 = (decide (0 ≤ p2) && decide (p2 ≤ 65536) && (decide ((2 : Int) < 4) || p2 == 0)) from rfl)
        cases h1 : decide (p2 < 0) with
        | true =>
          have hx := of_decide_eq_true h1
          have HE := Lib.hid (show Q = false from by rw [HS.out, HPQ.out, decide_eq_false (show ¬ 0 ≤ p2 from by omega)]; rfl)
          clear hx
          go_wp2_with fail
          go_ret
          exact ⟨ret_bool HE.out.symm, hB.out⟩
        | false =>
          have hx := of_decide_eq_false h1
          cases h2 : decide (65536 < p2) with
          | true =>
            have hy := of_decide_eq_true h2
            have HE := Lib.hid (show Q = false from by rw [HS.out, HPQ.out, decide_eq_false (show ¬ p2 ≤ 65536 from by omega), Bool.and_false]; rfl)
            clear hx hy
            go_wp2_with fail
            go_ret
            exact ⟨ret_bool HE.out.symm, hB.out⟩
          | false =>
            have hy := of_decide_eq_false h2
            have HP2 := Lib.hid (show partOk 2 4 p2 = (decide ((2 : Int) < 4) || p2 == 0) from by rw [HPQ.out, decide_eq_true (show 0 ≤ p2 from by omega), decide_eq_true (show p2 ≤ 65536 from by omega)]; rfl)
            clear hx hy
            have hn : Hid (Q = colR 4 p0 p1 p2 p3 3) := by
              show _ = _
              rw [HS.out, HP2.out]
              rfl
            go_wp2_with fail
            go_roundw
            case rel => exact ⟨3, by omega, by go_num, hn, by first | exact hw | exact Lib.hid trivial⟩
            case measure => simp [intOf]
      | 3, _ =>
        have ix : ∀ w : World, (Instr.index 42 (.agg #[.int .i64 p0, .int .i64 p1, .int .i64 p2, .int .i64 p3]) (.int .i64 3)).run Tryz.prog w = .ok (.int .i64 p3) w := fun _ => by kernel_rfl
        have HS := Lib.hid (show Q = (partOk 3 4 p3 && colR 4 p0 p1 p2 p3 4) from hD.out)
        have HPQ := Lib.hid (show partOk 3 4 p3 = (decide (0 ≤ p3) && decide (p3 ≤ 65536) && (decide ((3 : Int) < 4) || p3 == 0)) from rfl)
        cases h1 : decide (p3 < 0) with
        | true =>
          have hx := of_decide_eq_true h1
          have HE := Lib.hid (show Q = false from by rw [HS.out, HPQ.out, decide_eq_false (show ¬ 0 ≤ p3 from by omega)]; rfl)
          clear hx
          go_wp2_with fail
          go_ret
          exact ⟨ret_bool HE.out.symm, hB.out⟩
        | false =>
          have hx := of_decide_eq_false h1
          cases h2 : decide (65536 < p3) with
          | true =>
            have hy := of_decide_eq_true h2
            have HE := Lib.hid (show Q = false from by rw [HS.out, HPQ.out, decide_eq_false (show ¬ p3 ≤ 65536 from by omega), Bool.and_false]; rfl)
            clear hx hy
            go_wp2_with fail
            go_ret
            exact ⟨ret_bool HE.out.symm, hB.out⟩
          | false =>
            have hy := of_decide_eq_false h2
            have HP2 := Lib.hid (show partOk 3 4 p3 = (decide ((3 : Int) < 4) || p3 == 0) from by rw [HPQ.out, decide_eq_true (show 0 ≤ p3 from by omega), decide_eq_true (show p3 ≤ 65536 from by omega)]; rfl)
            clear hx hy
            have hn : Hid (Q = colR 4 p0 p1 p2 p3 4) := by
              show _ = _
              rw [HS.out, HP2.out]
              rfl
            go_wp2_with fail
            go_roundw
            case rel => exact ⟨4, by omega, by go_num, hn, by first | exact hw | exact Lib.hid trivial⟩
            case measure => simp [intOf]
      | 4, _ =>
        have HE := Lib.hid (show Q = true from hD.out)
        go_wp2_with fail
        go_ret
        exact ⟨ret_bool HE.out.symm, hB.out⟩
      | n + 5, hn => exact absurd hn (by omega)
end Go.Proofs.YtdkgfgmmmjpkgaaGreatDoor

namespace Go.Proofs.YtdkgfgmmmjpkgaaGreatDoor
open Go.RowKit Go.Shelf

set_option maxHeartbeats 800000 in
set_option maxRecDepth 100000 in
theorem clipbad_calls (c : ClipP) (v : Array Value) (w : World) (hv : ClipRd w c v) : Calls Tryz.prog 107 #[.agg v] w fun e w' => e = .returned (.bool (!clipOk c)) ∧ Below w.heap.size w w' := by
  obtain ⟨A, cap, rfl, hP, hlc, hcm⟩ := hv
  have HQ := Lib.hid (show clipOk c = (decide (0 < c.path.length) && pathOk c.path) from rfl)
  have HPS := Lib.hid (fun W (hW : Below w.heap.size w W) => psound_calls c.path A cap W (hP.keep hW) hlc hcm)
  clear hP
  unfold maxLen at hcm
  generalize clipOk c = Q at *
  generalize pathOk c.path = qp at *
  generalize c.path.length = n at *
  cases h0 : ((n : Int) == 0) with
  | true =>
    have HE := Lib.hid (show Q = false from by rw [HQ.out, decide_eq_false (show ¬ 0 < n from by have := eq_of_beq h0; omega)]; rfl)
    go_enter Tryz.func107, Tryz.ntmps107
    go_wp2_with fail
    go_ret
    exact ⟨ret_bool (by rw [HE.out]; rfl), below_alloc w _⟩
  | false =>
    have HE := Lib.hid (show Q = qp from by rw [HQ.out, decide_eq_true (show 0 < n from by have := beq_eq_false_iff_ne.1 h0; omega)]; rfl)
    go_enter Tryz.func107, Tryz.ntmps107
    go_wp2_with fail
    refine (HPS.out _ (below_alloc w _)).mono ?_
    rintro e w1 ⟨rfl, b1⟩
    have B1 := Lib.hid b1
    clear b1
    go_wp2_with fail
    go_ret
    exact ⟨ret_bool (by rw [HE.out]), (below_alloc w _).trans (B1.out.mono (by simp))⟩

set_option maxHeartbeats 1600000 in
set_option maxRecDepth 100000 in
theorem idx_clips (bad : Nat → Bool) (n c : Nat) (A : Option Addr) (cs : Nat → Array Value) (caps : Array Value) (w : World) (hs : ∀ i, i < n → (cs i).size = 2) (hrow : RowAt w A n 2 cs) (hlc : n ≤ c) (hcm : c ≤ 9223372036854775807)
    (hc : ∀ i, i < n → ∀ W, Below w.heap.size w W → Calls Tryz.prog 107 (#[.agg (cs i)] ++ caps) W fun e w' => e = .returned (.bool (bad i)) ∧ Below W.heap.size W w') :
    Calls Tryz.prog 143 #[.slice A n c, .func (.func 107) #[] caps] w fun e w' => ∃ q : Int, e = .returned (.int .i64 q) ∧ Hid (decide (0 ≤ q) = (List.range n).any bad) ∧ Below w.heap.size w w' := by
  have HS := Lib.hid hs
  have HROW := Lib.hid hrow
  have HC := Lib.hid hc
  clear hs hrow hc
  go_enter Tryz.func143, Tryz.ntmps143
  go_wp2_with fail
  go_loopw [5, 8] (fun _ v wr => ∃ i : Nat, i ≤ n ∧ v = .int .i64 i ∧ Hid (∀ j, j < i → bad j = false) ∧ Hid (Below w.heap.size w wr)) (fun _ v _ => n - (intOf v).toNat)
  case atStart => exact ⟨0, Nat.zero_le _, rfl, fun j hj => absurd hj (Nat.not_lt_zero _), Below.refl _ _⟩
  case round =>
    obtain ⟨i, hi, rfl, hD, hB⟩ := hrel
    by_cases hlt : i < n
    · obtain ⟨b, off, hA, hcell⟩ := RowAt.elem (RowAt.keep HROW.out hB.out) i hlt
      subst hA
      have HRG := Lib.hid (show wr.rangeAt b (off + i * 2) (cs i).toList from fun j u hj => hcell j u (by rw [← hj]; exact Array.getElem?_toList.symm))
      have HXI := Lib.hid (show (Tryz.prog.info? 59).map (·.size) = some (cs i).toList.length from by rw [Array.length_toList, HS.out i hlt]; kernel_rfl)
      have HCC := Lib.hid (HC.out i hlt wr hB.out)
      clear hcell
      generalize cs i = X at *
      go_wp2_with (refine wpList_load_mid rfl 59 _ rfl b (off + i * 2) rfl X.toList _ HRG.out Tryz.underlying59 rfl HXI.out ?_; simp only [Array.toArray_toList])
      refine HCC.out.mono ?_
      rintro e w1 ⟨rfl, h1⟩
      have H1 := Lib.hid (hB.out.trans (h1.mono hB.out.size))
      clear h1
      generalize hb : bad i = bb
      have HBB := Lib.hid hb
      clear hb
      cases bb
      · have hn : Hid (∀ j, j < i + 1 → bad j = false) := fun j hj => by
          by_cases hji : j = i
          · rw [hji]; exact HBB.out
          · exact hD.out j (by omega)
        go_wp2_with fail
        go_roundw
        case rel => exact ⟨i + 1, by omega, by go_num, hn, H1⟩
        case measure => simp [intOf]; omega
      · have hn : Hid ((List.range n).any bad = true) := List.any_eq_true.2 ⟨i, List.mem_range.2 hlt, HBB.out⟩
        go_wp2_with fail
        go_ret
        exact ⟨_, rfl, (show decide (0 ≤ (i : Int)) = _ by rw [hn.out]; simp), H1.out⟩
    · obtain rfl : i = n := by omega
      have hn : Hid ((List.range i).any bad = false) := List.any_eq_false.2 fun j hj => by rw [hD.out j (List.mem_range.1 hj)]; simp
      go_wp2_with fail
      go_ret
      exact ⟨_, rfl, (show decide (0 ≤ (-1 : Int)) = _ by rw [hn.out]; rfl), hB.out⟩
set_option maxHeartbeats 1600000 in
set_option maxRecDepth 100000 in
theorem any_clips (bad : Nat → Bool) (n c : Nat) (A : Option Addr) (cs : Nat → Array Value) (caps : Array Value) (w : World) (hs : ∀ i, i < n → (cs i).size = 2) (hrow : RowAt w A n 2 cs) (hlc : n ≤ c) (hcm : c ≤ 9223372036854775807)
    (hc : ∀ i, i < n → ∀ W, Below w.heap.size w W → Calls Tryz.prog 107 (#[.agg (cs i)] ++ caps) W fun e w' => e = .returned (.bool (bad i)) ∧ Below W.heap.size W w') :
    Calls Tryz.prog 106 #[.slice A n c, .func (.func 107) #[] caps] w fun e w' => e = .returned (.bool ((List.range n).any bad)) ∧ Below w.heap.size w w' := by
  have hI := idx_clips bad n c A cs caps w hs hrow hlc hcm hc
  clear hs hrow hc
  go_enter Tryz.func106, Tryz.ntmps106
  go_wp2_with fail
  refine hI.mono ?_
  rintro e w1 ⟨q, rfl, hq, h1⟩
  have H1 := Lib.hid h1
  clear h1
  have HQ := Lib.hid hq.out
  clear hq hI
  go_wp2_with fail
  go_ret
  exact ⟨ret_bool HQ.out, H1.out⟩

instance : Inhabited ClipP := ⟨⟨[], false⟩⟩
set_option maxHeartbeats 800000 in
set_option maxRecDepth 100000 in
theorem clips_ok_calls (l : List ClipP) (A : Option Addr) (c : Nat) (w : World) (h : ClipsAt w A l) (hlc : l.length ≤ c) (hcm : c ≤ maxLen) :
    Calls Tryz.prog 70 #[.slice A l.length c] w fun e w' => e = .returned (.bool (clipsOk l)) ∧ Below w.heap.size w w' := by
  unfold maxLen at hcm
  obtain ⟨cs, hrow, hcs⟩ := h
  have HA : Hid (Calls Tryz.prog 106 #[.slice A l.length c, .func (.func 107) #[] #[]] w fun e w' => e = .returned (.bool (l.any fun p => !clipOk p)) ∧ Below w.heap.size w w') := by
    show Calls _ _ _ _ _
    rw [← any_range l default]
    refine any_clips _ _ c A cs #[] w (fun i hi => by obtain ⟨A', cap, hv, -⟩ := hcs i hi; rw [hv]; rfl) hrow hlc hcm fun i hi W hW => ?_
    have := clipbad_calls l[i] (cs i) W ((hcs i hi).keep hW)
    rw [List.getD_eq_getElem?_getD, List.getElem?_eq_getElem hi]
    exact this
  have HQ := Lib.hid (show clipsOk l = (decide (l.length ≤ 16) && !(l.any fun p => !clipOk p)) from by rw [clipsOk, List.all_eq_not_any_not])
  clear hrow hcs
  generalize clipsOk l = Q at *
  generalize (l.any fun p => !clipOk p) = q at *
  generalize l.length = n at *
  cases h0 : decide ((n : Int) ≤ 16) with
  | false =>
    have HE := Lib.hid (show Q = false from by rw [HQ.out, decide_eq_false (show ¬ n ≤ 16 from by have := of_decide_eq_false h0; omega)]; rfl)
    go_enter Tryz.func70, Tryz.ntmps70
    go_wp2_with fail
    go_ret
    exact ⟨ret_bool HE.out.symm, Below.refl _ _⟩
  | true =>
    have HE := Lib.hid (show Q = !q from by rw [HQ.out, decide_eq_true (show n ≤ 16 from by have := of_decide_eq_true h0; omega)]; rfl)
    go_enter Tryz.func70, Tryz.ntmps70
    go_wp2_with fail
    refine HA.out.mono ?_
    rintro e w1 ⟨rfl, b1⟩
    have B1 := Lib.hid b1
    clear b1 HA
    go_wp2_with fail
    go_ret
    exact ⟨ret_bool HE.out.symm, B1.out⟩
end Go.Proofs.YtdkgfgmmmjpkgaaGreatDoor

namespace Go.Proofs.YtdkgfgmmmjpkgaaGreatDoor
open Go.RowKit Go.Shelf

theorem penOk_eq (wd cap join miter phase : Int) (d : List Int) : penOk ⟨wd, cap, join, miter, d, phase⟩ = (decide (0 ≤ wd) && (fitsB wd && (decide (0 ≤ cap) && (decide (cap ≤ 2) && (decide (0 ≤ join) && (decide (join ≤ 2) && (decide (65536 ≤ miter) && (fitsB miter && (decide (0 ≤ phase) && (fitsB phase && (decide (d.length ≤ 11) && dashOk d))))))))))) := by
  simp only [penOk, Bool.and_assoc]
def dashR (l : List Int) : Bool := l.all fun n => decide (0 ≤ n) && fitsB n
theorem dash_bad (l : List Int) (i : Nat) (h : i < l.length) (hb : (decide (0 ≤ l[i]) && fitsB l[i]) = false) : dashOk l = false := by
  have : (l.all fun n => decide (0 ≤ n) && fitsB n) = false := by
    rw [Bool.eq_false_iff]
    intro ha
    have := List.all_eq_true.1 ha _ (List.getElem_mem h)
    rw [hb] at this
    cases this
  rw [dashOk, this]
  rfl
theorem dashR_step (l : List Int) (i : Nat) (h : i < l.length) (h1 : dashR (l.take i) = true) (hb : (decide (0 ≤ l[i]) && fitsB l[i]) = true) : dashR (l.take (i + 1)) = true := by
  rw [dashR] at *
  rw [List.take_add_one, List.getElem?_eq_getElem h, List.all_append, h1]
  simpa using hb
theorem dash_sum (l : List Int) (h : dashR l = true) : 0 ≤ l.sum ∧ l.sum ≤ 2147483647 * l.length ∧ (l.any fun n => decide (0 < n)) = decide (0 < l.sum) := by
  induction l with
  | nil => simp
  | cons x r ih =>
    simp only [dashR, List.all_cons, Bool.and_eq_true] at h
    obtain ⟨⟨h1, h2⟩, h3⟩ := h
    obtain ⟨i1, i2, i3⟩ := ih h3
    have h4 := of_decide_eq_true h1
    simp only [fitsB, Bool.and_eq_true, decide_eq_true_eq] at h2
    refine ⟨by rw [List.sum_cons]; omega, by rw [List.sum_cons, List.length_cons]; omega, ?_⟩
    rw [List.any_cons, i3, Bool.eq_iff_iff, Bool.or_eq_true, decide_eq_true_eq, decide_eq_true_eq, decide_eq_true_eq, List.sum_cons]
    omega
theorem sum_take (l : List Int) (i : Nat) (h : i < l.length) : (l.take (i + 1)).sum = (l.take i).sum + l[i] := by
  rw [List.take_add_one, List.getElem?_eq_getElem h, List.sum_append]
  simp
theorem dash_end (l : List Int) (h : dashR l = true) : dashOk l = (((l.length : Int) == 0) || decide (0 < l.sum)) := by
  rw [dashOk, show (l.all fun n => decide (0 ≤ n) && fitsB n) = true from h, (dash_sum l h).2.2]
  have : l.isEmpty = ((l.length : Int) == 0) := by cases l <;> simp <;> omega
  rw [this]
  rfl

set_option maxHeartbeats 6400000 in
set_option maxRecDepth 100000 in
theorem pen_calls (p : PenP) (A : Option Addr) (c : Nat) (w : World) (h : IntsAt w A p.dash) (_hlc : p.dash.length ≤ c) (_hcm : c ≤ maxLen) :
    Calls Tryz.prog 74 #[.agg (penA p A c)] w fun e w' => e = .returned (.bool (penOk p)) ∧ Below w.heap.size w w' := by
  obtain ⟨wd, cap, join, miter, d, phase⟩ := p
  have HQ := Lib.hid (penOk_eq wd cap join miter phase d)
  simp only at h
  have HD := Lib.hid h
  have HDB := Lib.hid (dash_bad d)
  have HDE := Lib.hid (dash_end d)
  have HDS := Lib.hid (fun i => dash_sum (d.take i))
  have HST := Lib.hid (sum_take d)
  have HRS := Lib.hid (dashR_step d)
  unfold penA
  simp only
  generalize penOk ⟨wd, cap, join, miter, d, phase⟩ = Q at *
  clear h
  have HF := Lib.hid (fun n W => Fits_calls n W)
  go_enter Tryz.func74, Tryz.ntmps74
  cases h0 : decide (wd < 0) with
  | true =>
    have HE := Lib.hid (show Q = false from by rw [HQ.out, decide_eq_false (show ¬ 0 ≤ wd from by have := of_decide_eq_true h0; omega)]; rfl)
    go_wp2_with fail
    go_ret
    exact ⟨ret_bool HE.out.symm, below_alloc w _⟩
  | false =>
    have HQ1 := Lib.hid (show Q = (fitsB wd && (decide (0 ≤ cap) && (decide (cap ≤ 2) && (decide (0 ≤ join) && (decide (join ≤ 2) && (decide (65536 ≤ miter) && (fitsB miter && (decide (0 ≤ phase) && (fitsB phase && (decide (d.length ≤ 11) && dashOk d)))))))))) from by rw [HQ.out, decide_eq_true (show 0 ≤ wd from by have := of_decide_eq_false h0; omega)]; rfl)
    clear HQ
    go_wp2_with fail
    refine (HF.out wd _).mono ?_
    rintro e w1 ⟨rfl, rfl⟩
    generalize fitsB wd = f1 at *
    cases f1 with
    | false =>
      have HE := Lib.hid (show Q = false from by rw [HQ1.out]; rfl)
      go_wp2_with fail
      go_ret
      exact ⟨ret_bool HE.out.symm, below_alloc w _⟩
    | true =>
      have HQ2 := Lib.hid (show Q = (decide (0 ≤ cap) && (decide (cap ≤ 2) && (decide (0 ≤ join) && (decide (join ≤ 2) && (decide (65536 ≤ miter) && (fitsB miter && (decide (0 ≤ phase) && (fitsB phase && (decide (d.length ≤ 11) && dashOk d))))))))) from by rw [HQ1.out]; rfl)
      clear HQ1
      cases h2 : decide (cap < 0) with
      | true =>
        have HE := Lib.hid (show Q = false from by rw [HQ2.out, decide_eq_false (show ¬ 0 ≤ cap from by have := of_decide_eq_true h2; omega)]; rfl)
        go_wp2_with fail
        go_ret
        exact ⟨ret_bool HE.out.symm, below_alloc w _⟩
      | false =>
        have HQ3 := Lib.hid (show Q = (decide (cap ≤ 2) && (decide (0 ≤ join) && (decide (join ≤ 2) && (decide (65536 ≤ miter) && (fitsB miter && (decide (0 ≤ phase) && (fitsB phase && (decide (d.length ≤ 11) && dashOk d)))))))) from by rw [HQ2.out, decide_eq_true (show 0 ≤ cap from by have := of_decide_eq_false h2; omega)]; rfl)
        clear HQ2
        cases h3 : decide (2 < cap) with
        | true =>
          have HE := Lib.hid (show Q = false from by rw [HQ3.out, decide_eq_false (show ¬ cap ≤ 2 from by have := of_decide_eq_true h3; omega)]; rfl)
          go_wp2_with fail
          go_ret
          exact ⟨ret_bool HE.out.symm, below_alloc w _⟩
        | false =>
          have HQ4 := Lib.hid (show Q = (decide (0 ≤ join) && (decide (join ≤ 2) && (decide (65536 ≤ miter) && (fitsB miter && (decide (0 ≤ phase) && (fitsB phase && (decide (d.length ≤ 11) && dashOk d))))))) from by rw [HQ3.out, decide_eq_true (show cap ≤ 2 from by have := of_decide_eq_false h3; omega)]; rfl)
          clear HQ3
          cases h4 : decide (join < 0) with
          | true =>
            have HE := Lib.hid (show Q = false from by rw [HQ4.out, decide_eq_false (show ¬ 0 ≤ join from by have := of_decide_eq_true h4; omega)]; rfl)
            go_wp2_with fail
            go_ret
            exact ⟨ret_bool HE.out.symm, below_alloc w _⟩
          | false =>
            have HQ5 := Lib.hid (show Q = (decide (join ≤ 2) && (decide (65536 ≤ miter) && (fitsB miter && (decide (0 ≤ phase) && (fitsB phase && (decide (d.length ≤ 11) && dashOk d)))))) from by rw [HQ4.out, decide_eq_true (show 0 ≤ join from by have := of_decide_eq_false h4; omega)]; rfl)
            clear HQ4
            cases h5 : decide (2 < join) with
            | true =>
              have HE := Lib.hid (show Q = false from by rw [HQ5.out, decide_eq_false (show ¬ join ≤ 2 from by have := of_decide_eq_true h5; omega)]; rfl)
              go_wp2_with fail
              go_ret
              exact ⟨ret_bool HE.out.symm, below_alloc w _⟩
            | false =>
              have HQ6 := Lib.hid (show Q = (decide (65536 ≤ miter) && (fitsB miter && (decide (0 ≤ phase) && (fitsB phase && (decide (d.length ≤ 11) && dashOk d))))) from by rw [HQ5.out, decide_eq_true (show join ≤ 2 from by have := of_decide_eq_false h5; omega)]; rfl)
              clear HQ5
              cases h6 : decide (miter < 65536) with
              | true =>
                have HE := Lib.hid (show Q = false from by rw [HQ6.out, decide_eq_false (show ¬ 65536 ≤ miter from by have := of_decide_eq_true h6; omega)]; rfl)
                go_wp2_with fail
                go_ret
                exact ⟨ret_bool HE.out.symm, below_alloc w _⟩
              | false =>
                have HQ7 := Lib.hid (show Q = (fitsB miter && (decide (0 ≤ phase) && (fitsB phase && (decide (d.length ≤ 11) && dashOk d)))) from by rw [HQ6.out, decide_eq_true (show 65536 ≤ miter from by have := of_decide_eq_false h6; omega)]; rfl)
                clear HQ6
                go_wp2_with fail
                refine (HF.out miter _).mono ?_
                rintro e w7 ⟨rfl, rfl⟩
                generalize fitsB miter = f7 at *
                cases f7 with
                | false =>
                  have HE := Lib.hid (show Q = false from by rw [HQ7.out]; rfl)
                  go_wp2_with fail
                  go_ret
                  exact ⟨ret_bool HE.out.symm, below_alloc w _⟩
                | true =>
                  have HQ8 := Lib.hid (show Q = (decide (0 ≤ phase) && (fitsB phase && (decide (d.length ≤ 11) && dashOk d))) from by rw [HQ7.out]; rfl)
                  clear HQ7
                  cases h8 : decide (phase < 0) with
                  | true =>
                    have HE := Lib.hid (show Q = false from by rw [HQ8.out, decide_eq_false (show ¬ 0 ≤ phase from by have := of_decide_eq_true h8; omega)]; rfl)
                    go_wp2_with fail
                    go_ret
                    exact ⟨ret_bool HE.out.symm, below_alloc w _⟩
                  | false =>
                    have HQ9 := Lib.hid (show Q = (fitsB phase && (decide (d.length ≤ 11) && dashOk d)) from by rw [HQ8.out, decide_eq_true (show 0 ≤ phase from by have := of_decide_eq_false h8; omega)]; rfl)
                    clear HQ8
                    go_wp2_with fail
                    refine (HF.out phase _).mono ?_
                    rintro e w9 ⟨rfl, rfl⟩
                    generalize fitsB phase = f9 at *
                    cases f9 with
                    | false =>
                      have HE := Lib.hid (show Q = false from by rw [HQ9.out]; rfl)
                      go_wp2_with fail
                      go_ret
                      exact ⟨ret_bool HE.out.symm, below_alloc w _⟩
                    | true =>
                      have HQ10 := Lib.hid (show Q = (decide (d.length ≤ 11) && dashOk d) from by rw [HQ9.out]; rfl)
                      clear HQ9
                      cases h10 : decide ((11 : Int) < (d.length : Int)) with
                      | true =>
                        have HE := Lib.hid (show Q = false from by rw [HQ10.out, decide_eq_false (show ¬ d.length ≤ 11 from by have := of_decide_eq_true h10; omega)]; rfl)
                        go_wp2_with fail
                        go_ret
                        exact ⟨ret_bool HE.out.symm, below_alloc w _⟩
                      | false =>
                        have HQZ := Lib.hid (show Q = dashOk d from by rw [HQ10.out, decide_eq_true (show d.length ≤ 11 from by have := of_decide_eq_false h10; omega)]; rfl)
                        have hd11 : d.length ≤ 11 := by have := of_decide_eq_false h10; omega
                        go_wp2_with fail
                        clear h0 h2 h3 h4 h5 h6 h8 h10
                        have HD1 := Lib.hid (HD.out.keep (below_alloc w (.cells #[.int .i64 wd, .int .i64 cap, .int .i64 join, .int .i64 miter, .slice A d.length c, .int .i64 phase] 47)))
                        go_loop [3, 5, 66] (fun v3 _ v => ∃ i : Nat, i ≤ d.length ∧ v = .int .i64 i ∧ v3 = .int .i64 (d.take i).sum ∧ Hid (dashR (d.take i) = true)) (fun _ _ v => d.length - (intOf v).toNat)
                        case atStart => exact ⟨0, Nat.zero_le _, rfl, rfl, rfl⟩
                        case round =>
                          obtain ⟨i, hi, rfl, rfl, hR⟩ := hrel
                          have hsm := HDS.out i hR.out
                          rw [List.length_take] at hsm
                          have hs0 : 0 ≤ (d.take i).sum := hsm.1
                          have hs1 : (d.take i).sum ≤ 2147483647 * 11 := by have := hsm.2.1; omega
                          clear hsm
                          by_cases hlt : i < d.length
                          · obtain ⟨b, off, rfl, hcell⟩ := HD1.out.elem i hlt
                            have hst := HST.out i hlt
                            have hbad := HDB.out i hlt
                            have hstep := HRS.out i hlt hR.out
                            generalize d[i] = n at *
                            generalize (d.take i).sum = s at *
                            have HST2 := Lib.hid hst
                            have HBAD := Lib.hid hbad
                            have HSTEP := Lib.hid hstep
                            clear hst hbad hstep
                            cases hn : decide (n < 0) with
                            | true =>
                              have HE := Lib.hid (show Q = false from by rw [HQZ.out, HBAD.out (by rw [decide_eq_false (show ¬ 0 ≤ n from by have := of_decide_eq_true hn; omega)]; rfl)])
                              go_wp2_with fail
                              go_ret
                              exact ⟨ret_bool HE.out.symm, below_alloc w _⟩
                            | false =>
                              have hn0 : 0 ≤ n := by have := of_decide_eq_false hn; omega
                              go_wp2_with fail
                              have HFN := Lib.hid (show fitsB n = true → n ≤ 2147483647 from fun hf => by simp only [fitsB, Bool.and_eq_true, decide_eq_true_eq] at hf; omega)
                              refine (HF.out n _).mono ?_
                              rintro e w9 ⟨rfl, rfl⟩
                              generalize fitsB n = fn at *
                              cases fn with
                              | false =>
                                have HE := Lib.hid (show Q = false from by rw [HQZ.out, HBAD.out (by rw [Bool.and_false])])
                                go_wp2_with fail
                                go_ret
                                exact ⟨ret_bool HE.out.symm, below_alloc w _⟩
                              | true =>
                                have hn1 := HFN.out rfl
                                have HR2 : Hid (dashR (d.take (i + 1)) = true) := HSTEP.out (by rw [decide_eq_true hn0]; rfl)
                                have hn2 : n ≤ 2147483647 := hn1
                                clear hn1
                                go_wp2_with fail
                                go_round
                                case rel => exact ⟨i + 1, by omega, by go_num, by rw [HST2.out], HR2⟩
                                case measure => simp [intOf]; omega
                          · obtain rfl : i = d.length := by omega
                            rw [List.take_length] at hR
                            have HE := Lib.hid (show Q = (((d.length : Int) == 0) || decide (0 < d.sum)) from by rw [HQZ.out, HDE.out hR.out])
                            rw [List.take_length]
                            cases hl : ((d.length : Int) == 0) with
                            | true =>
                              have HE2 := Lib.hid (show Q = true from by rw [HE.out, hl]; rfl)
                              go_wp2_with fail
                              go_ret
                              exact ⟨ret_bool HE2.out.symm, below_alloc w _⟩
                            | false =>
                              have HE2 := Lib.hid (show Q = decide (0 < d.sum) from by rw [HE.out, hl]; rfl)
                              go_wp2_with fail
                              go_ret
                              exact ⟨ret_bool HE2.out.symm, below_alloc w _⟩
end Go.Proofs.YtdkgfgmmmjpkgaaGreatDoor

namespace Go.Proofs.YtdkgfgmmmjpkgaaGreatDoor
open Go.RowKit Go.Shelf

/-- The fonts' names lie as the program's text lays them: none is empty. -/
def FTab (w : World) : Prop := ∀ i : Nat, i < 14 → ∃ s : ByteArray, w.cell? ⟨1, i, none⟩ = some (.string s) ∧ s.toList.isEmpty = false
theorem FTab.keep {w w' : World} (h : FTab w) (hb : Below w.heap.size w w') : FTab w' := fun i hi => by
  obtain ⟨s, h1, h2⟩ := h i hi
  exact ⟨s, by rw [hb.cell (World.block_lt_of_cell? w _ h1), h1], h2⟩
set_option maxHeartbeats 800000 in
set_option maxRecDepth 100000 in
theorem name_bad (n : Int) (w : World) (h : n < 0 ∨ 13 < n) : Calls Tryz.prog 108 #[.int .i64 n] w fun e w' => e = .returned (.string ⟨#[]⟩) ∧ w = w' := by
  rcases h with h | h
  · have q1 : decide (n < 0) = true := decide_eq_true h
    clear h
    go_enter Tryz.func108, Tryz.ntmps108
    go_wp2_with fail
    go_ret
    exact ⟨rfl, rfl⟩
  · have q1 : decide (n < 0) = false := decide_eq_false (by omega)
    have q2 : decide (14 ≤ n) = true := decide_eq_true (by omega)
    clear h
    go_enter Tryz.func108, Tryz.ntmps108
    go_wp2_with fail
    go_ret
    exact ⟨rfl, rfl⟩
set_option maxHeartbeats 800000 in
set_option maxRecDepth 100000 in
theorem name_good (n : Nat) (hn : n < 14) (w : World) (hF : FTab w) : Calls Tryz.prog 108 #[.int .i64 n] w fun e w' => ∃ s : ByteArray, e = .returned (.string s) ∧ s.toList.isEmpty = false ∧ w = w' := by
  obtain ⟨s, h1, h2⟩ := hF n hn
  have H2 := Lib.hid h2
  clear h2 hF
  have q1 : decide ((n : Int) < 0) = false := decide_eq_false (by omega)
  have q2 : decide ((14 : Int) ≤ (n : Int)) = false := decide_eq_false (by omega)
  have q3 : decide (14 ≤ n) = false := decide_eq_false (by omega)
  go_enter Tryz.func108, Tryz.ntmps108
  go_wp2_with fail
  go_ret
  exact ⟨s, rfl, H2.out, rfl⟩
set_option maxHeartbeats 800000 in
set_option maxRecDepth 100000 in
theorem nofitI_calls (n : Int) (w : World) : Calls Tryz.prog 110 #[.int .i64 n] w fun e w' => e = .returned (.bool (!fitsB n)) ∧ w = w' := by
  go_enter Tryz.func110, Tryz.ntmps110
  go_wp2_with fail
  refine (Fits_calls n _).mono ?_
  rintro e w2 ⟨rfl, rfl⟩
  go_wp2_with fail
  go_ret
  exact ⟨rfl, rfl⟩
set_option maxHeartbeats 1600000 in
set_option maxRecDepth 100000 in
theorem idx_ints (l : List Int) (c : Nat) (A : Option Addr) (w : World) (h : IntsAt w A l) (hlc : l.length ≤ c) (hcm : c ≤ 9223372036854775807) :
    Calls Tryz.prog 144 #[.slice A l.length c, .func (.func 110) #[] #[]] w fun e w' => ∃ q : Int, e = .returned (.int .i64 q) ∧ Hid (decide (0 ≤ q) = l.any fun n => !fitsB n) ∧ w = w' := by
  have HI := Lib.hid h
  clear h
  go_enter Tryz.func144, Tryz.ntmps144
  go_wp2_with fail
  go_loop [5, 8] (fun _ v => ∃ i : Nat, i ≤ l.length ∧ v = .int .i64 i ∧ Hid (∀ j (hj : j < l.length), j < i → (!fitsB l[j]) = false)) (fun _ v => l.length - (intOf v).toNat)
  case atStart => exact ⟨0, Nat.zero_le _, rfl, fun j _ hj => absurd hj (Nat.not_lt_zero _)⟩
  case round =>
    obtain ⟨i, hi, rfl, hD⟩ := hrel
    by_cases hlt : i < l.length
    · obtain ⟨b, off, rfl, hcell⟩ := HI.out.elem i hlt
      have HN : Hid (∀ q, (!fitsB l[i]) = q → q = false → ∀ j (hj : j < l.length), j < i + 1 → (!fitsB l[j]) = false) := fun q h1 h2 j hj hji => by
        by_cases e : j = i
        · subst e; rw [h1, h2]
        · exact hD.out j hj (by omega)
      have HY : Hid (∀ q, (!fitsB l[i]) = q → q = true → (l.any fun n => !fitsB n) = true) := fun q h1 h2 => List.any_eq_true.2 ⟨l[i], List.getElem_mem hlt, by rw [h1, h2]⟩
      generalize l[i] = n at *
      go_wp2_with fail
      refine (nofitI_calls n _).mono ?_
      rintro e w1 ⟨rfl, rfl⟩
      generalize hq : (!fitsB n) = q at *
      cases q with
      | false =>
        have hn : Hid (∀ j (hj : j < l.length), j < i + 1 → (!fitsB l[j]) = false) := HN.out false rfl rfl
        clear hq
        go_wp2_with fail
        go_round
        case rel => exact ⟨i + 1, by omega, by go_num, hn⟩
        case measure => simp [intOf]; omega
      | true =>
        have hn := Lib.hid (HY.out true rfl rfl)
        clear hq
        go_wp2_with fail
        go_ret
        exact ⟨_, rfl, (show decide (0 ≤ (i : Int)) = _ by rw [hn.out]; simp), rfl⟩
    · obtain rfl : i = l.length := by omega
      have hn : Hid ((l.any fun n => !fitsB n) = false) := List.any_eq_false.2 fun x hx => by
        obtain ⟨j, hj, rfl⟩ := List.mem_iff_getElem.1 hx
        rw [hD.out j hj hj]; simp
      go_wp2_with fail
      go_ret
      exact ⟨_, rfl, (show decide (0 ≤ (-1 : Int)) = _ by rw [hn.out]; rfl), rfl⟩
set_option maxHeartbeats 1600000 in
set_option maxRecDepth 100000 in
theorem any_ints (l : List Int) (c : Nat) (A : Option Addr) (w : World) (h : IntsAt w A l) (hlc : l.length ≤ c) (hcm : c ≤ 9223372036854775807) :
    Calls Tryz.prog 109 #[.slice A l.length c, .func (.func 110) #[] #[]] w fun e w' => e = .returned (.bool (l.any fun n => !fitsB n)) ∧ w = w' := by
  have hI := idx_ints l c A w h hlc hcm
  clear h
  go_enter Tryz.func109, Tryz.ntmps109
  go_wp2_with fail
  refine hI.mono ?_
  rintro e w1 ⟨q, rfl, hq, rfl⟩
  have HQ := Lib.hid hq.out
  clear hq hI
  go_wp2_with fail
  go_ret
  exact ⟨ret_bool HQ.out, rfl⟩
theorem matFit_eq (it : ItemP) : matFit it = !([it.m0, it.m1, it.m2, it.m3, it.m4, it.m5].any fun n => !fitsB n) := by
  rw [matFit]
  simp only [List.any_cons, List.any_nil, Bool.not_or, Bool.not_not, Bool.or_false, Bool.and_assoc]
theorem lettersOk_eq (it : ItemP) : lettersOk it = ((decide (0 ≤ it.font) && decide (it.font ≤ 13)) && (decide (1 ≤ it.bytes.length) && (decide (it.bytes.length ≤ 65535) && matFit it))) := by
  rw [lettersOk]
  simp only [Bool.and_assoc]
theorem arr_get {α : Type} (a : α) (l : List α) (n : Nat) : (a :: l)[n + 1]? = l[n]? := by simp
theorem mat_row (W : World) (r : Nat) (it : ItemP) (X : Array Value) (h : ∀ j v, X[j]? = some v → W.cell? ⟨r, j, none⟩ = some v) (h0 : X[15]? = some (.int .i64 it.m0)) (h1 : X[16]? = some (.int .i64 it.m1)) (h2 : X[17]? = some (.int .i64 it.m2)) (h3 : X[18]? = some (.int .i64 it.m3)) (h4 : X[19]? = some (.int .i64 it.m4)) (h5 : X[20]? = some (.int .i64 it.m5)) : IntsAt W (some ⟨r, 15, none⟩) [it.m0, it.m1, it.m2, it.m3, it.m4, it.m5] :=
  ints_cells W r 15 _ fun i hi => by
    match i, hi with
    | 0, _ => exact h _ _ h0
    | 1, _ => exact h _ _ h1
    | 2, _ => exact h _ _ h2
    | 3, _ => exact h _ _ h3
    | 4, _ => exact h _ _ h4
    | 5, _ => exact h _ _ h5
    | n + 6, hn => exact absurd hn (by simp)

set_option maxHeartbeats 3200000 in
set_option maxRecDepth 100000 in
theorem letters_calls (it : ItemP) (v : Array Value) (w : World) (hv : ItemRd w it v) (hF : FTab w) : Calls Tryz.prog 71 #[.agg v] w fun e w' => e = .returned (.bool (lettersOk it)) ∧ Below w.heap.size w w' := by
  have hv0 := hv
  obtain ⟨Ap, cp, Ac, cc, Ad, cd, Ab, cb, hve, ⟨hp1, hp2, hp3⟩, ⟨hc1, hc2, hc3⟩, ⟨hd1, hd2, hd3⟩, ⟨hb1, hb2, hb3⟩⟩ := hv
  obtain ⟨X, hX⟩ : ∃ X, X = v := ⟨_, rfl⟩
  rw [← hX] at hve hv0 ⊢
  clear hX
  have HCE := Lib.hid (show ∀ W, Below (w.heap.size + 1) (w.alloc (.cells X 50)) W → ∀ j v, X[j]? = some v → W.cell? ⟨w.heap.size, j, none⟩ = some v from fun W hW j v hj => by
    rw [hW.cell (by simp), Lib.cell_of_heap (heap_alloc_new w _)]
    exact hj)
  have HBW := Lib.hid (show ∀ W, Below (w.heap.size + 1) (w.alloc (.cells X 50)) W → Below w.heap.size w W from fun W hW => (below_alloc w _).trans (hW.mono (by omega)))
  have HB0 := Lib.hid (Below.refl (w.heap.size + 1) (w.alloc (.cells X 50)))
  have HX14 := Lib.hid (show ∀ W, Below (w.heap.size + 1) (w.alloc (.cells X 50)) W → W.cell? ⟨w.heap.size, 14, none⟩ = some (.int .i64 it.font) from fun W hW => HCE.out W hW 14 _ (by rw [hve]; rfl))
  have HX21 := Lib.hid (show ∀ W, Below (w.heap.size + 1) (w.alloc (.cells X 50)) W → W.cell? ⟨w.heap.size, 21, none⟩ = some (.slice Ab it.bytes.length cb) from fun W hW => HCE.out W hW 21 _ (by rw [hve]; rfl))
  have HQ := Lib.hid (lettersOk_eq it)
  have HMA : Hid (∀ W, Below (w.heap.size + 1) (w.alloc (.cells X 50)) W → Calls Tryz.prog 109 #[.slice (some ⟨w.heap.size, 15, none⟩) 6 6, .func (.func 110) #[] #[]] W fun e w' => e = .returned (.bool ([it.m0, it.m1, it.m2, it.m3, it.m4, it.m5].any fun n => !fitsB n)) ∧ W = w') := fun W hW =>
    any_ints [it.m0, it.m1, it.m2, it.m3, it.m4, it.m5] 6 (some ⟨w.heap.size, 15, none⟩) W (mat_row W _ it X (HCE.out W hW) (by rw [hve]; rfl) (by rw [hve]; rfl) (by rw [hve]; rfl) (by rw [hve]; rfl) (by rw [hve]; rfl) (by rw [hve]; rfl)) (by simp) (by omega)
  have HMF := Lib.hid (matFit_eq it)
  have HNB := Lib.hid (fun W (h : it.font < 0 ∨ 13 < it.font) => name_bad it.font W h)
  have HNG := Lib.hid (fun W (h : 0 ≤ it.font ∧ it.font ≤ 13) (hW : FTab W) => by
    have := name_good it.font.toNat (by omega) W hW
    rw [show ((it.font.toNat : Nat) : Int) = it.font from by omega] at this
    exact this)
  have HFT := Lib.hid (hF.keep (below_alloc w (.cells X 50)))
  have HXE := Lib.hid hve
  have hb3' := hb3
  unfold maxLen at hb3'
  clear hv0 hve hp1 hc1 hd1 hb1 hF hb3 hp3 hc3 hd3
  generalize lettersOk it = Q at *
  generalize matFit it = mf at *
  generalize ([it.m0, it.m1, it.m2, it.m3, it.m4, it.m5].any fun n => !fitsB n) = am at *
  have y14 := HX14.out _ HB0.out
  have y21 := HX21.out _ HB0.out
  go_enter Tryz.func71, Tryz.ntmps71
  rw [HXE.out]
  go_wp2_with fail
  rw [← HXE.out]
  by_cases hf : 0 ≤ it.font ∧ it.font ≤ 13
  rotate_left
  · have HE := Lib.hid (show Q = false from by
      rw [HQ.out, show (decide (0 ≤ it.font) && decide (it.font ≤ 13)) = false from by rw [Bool.and_eq_false_iff, decide_eq_false_iff_not, decide_eq_false_iff_not]; omega]; rfl)
    refine (HNB.out _ (by omega)).mono ?_
    rintro e w1 ⟨rfl, rfl⟩
    go_wp2_with fail
    go_ret
    exact ⟨ret_bool HE.out.symm, HBW.out _ HB0.out⟩
  have HQ1 := Lib.hid (show Q = (decide (1 ≤ it.bytes.length) && (decide (it.bytes.length ≤ 65535) && mf)) from by rw [HQ.out, decide_eq_true hf.1, decide_eq_true hf.2]; rfl)
  refine (HNG.out _ hf HFT.out).mono ?_
  rintro e w1 ⟨s, rfl, hs, rfl⟩
  have hs2 : (!s.toList.isEmpty) = true := by rw [hs]; rfl
  clear hf HQ HNB HNG
  generalize it.bytes.length = n at *
  by_cases h1 : 1 ≤ n
  rotate_left
  · have HE := Lib.hid (show Q = false from by rw [HQ1.out, decide_eq_false h1]; rfl)
    obtain rfl : n = 0 := by omega
    go_wp2_with fail
    go_ret
    exact ⟨ret_bool HE.out.symm, HBW.out _ HB0.out⟩
  have q1 : decide ((1 : Int) ≤ (n : Int)) = true := decide_eq_true (by omega)
  have q1' : decide (1 ≤ n) = true := decide_eq_true h1
  have q1'' : decide (0 < n) = true := decide_eq_true h1
  by_cases h2 : n ≤ 65535
  rotate_left
  · have HE := Lib.hid (show Q = false from by rw [HQ1.out, decide_eq_false h2, decide_eq_true h1]; rfl)
    have q2 : decide ((n : Int) ≤ 65535) = false := decide_eq_false (by omega)
    have q2' : decide (n ≤ 65535) = false := decide_eq_false h2
    clear h2
    go_wp2_with fail
    go_ret
    exact ⟨ret_bool HE.out.symm, HBW.out _ HB0.out⟩
  have HE := Lib.hid (show Q = !am from by rw [HQ1.out, decide_eq_true h2, decide_eq_true h1, HMF.out]; rfl)
  have q2 : decide ((n : Int) ≤ 65535) = true := decide_eq_true (by omega)
  have q2' : decide (n ≤ 65535) = true := decide_eq_true h2
  go_wp2_with fail
  refine (HMA.out _ HB0.out).mono ?_
  rintro e w1 ⟨rfl, rfl⟩
  go_wp2_with fail
  go_ret
  exact ⟨ret_bool HE.out.symm, HBW.out _ HB0.out⟩
end Go.Proofs.YtdkgfgmmmjpkgaaGreatDoor

namespace Go.Proofs.YtdkgfgmmmjpkgaaGreatDoor
open Go.RowKit Go.Shelf

def itemR (it : ItemP) : Bool := it.font == 0 && (mat0 it && (it.bytes.isEmpty && (!it.path.isEmpty && pathOk it.path)))
def itemS (it : ItemP) : Bool := if it.k == 3 then penOk it.pen else (it.k == 1 || it.k == 2) && noPen it.pen
theorem itemOk_eq (it : ItemP) : itemOk it = (colOk it.col && (clipsOk it.clips && (if it.k == 4 then lettersOk it && (it.path.isEmpty && noPen it.pen) else itemR it && itemS it))) := by
  rw [itemOk, itemR, itemS]
  simp only [Bool.and_assoc]
theorem isEmpty_int {α : Type} (l : List α) : l.isEmpty = ((l.length : Int) == 0) := by cases l <;> simp <;> omega
theorem mat0_eq (it : ItemP) : mat0 it = (it.m0 == 0 && (it.m1 == 0 && (it.m2 == 0 && (it.m3 == 0 && (it.m4 == 0 && it.m5 == 0))))) := by
  rw [mat0]
  simp only [Bool.and_assoc]

set_option maxHeartbeats 6400000 in
set_option maxRecDepth 100000 in
theorem item_ok_calls (it : ItemP) (v : Array Value) (w : World) (hv : ItemRd w it v) (hF : FTab w) : Calls Tryz.prog 41 #[.agg v] w fun e w' => e = .returned (.bool (itemOk it)) ∧ Below w.heap.size w w' := by
  have hv0 := hv
  obtain ⟨Ap, cp, Ac, cc, Ad, cd, Ab, cb, hve, ⟨hp1, hp2, hp3⟩, ⟨hc1, hc2, hc3⟩, ⟨hd1, hd2, hd3⟩, ⟨hb1, hb2, hb3⟩⟩ := hv
  obtain ⟨X, hX⟩ : ∃ X, X = v := ⟨_, rfl⟩
  rw [← hX] at hve hv0 ⊢
  clear hX
  have HCE := Lib.hid (show ∀ W, Below (w.heap.size + 1) (w.alloc (.cells X 50)) W → ∀ j v, X[j]? = some v → W.cell? ⟨w.heap.size, j, none⟩ = some v from fun W hW j v hj => by
    rw [hW.cell (by simp), Lib.cell_of_heap (heap_alloc_new w _)]
    exact hj)
  have HBW := Lib.hid (show ∀ W, Below (w.heap.size + 1) (w.alloc (.cells X 50)) W → Below w.heap.size w W from fun W hW => (below_alloc w _).trans (hW.mono (by omega)))
  have HB0 := Lib.hid (Below.refl (w.heap.size + 1) (w.alloc (.cells X 50)))
  have HX0 := Lib.hid (show ∀ W, Below (w.heap.size + 1) (w.alloc (.cells X 50)) W → W.cell? ⟨w.heap.size, 0, none⟩ = some (.int .i64 it.k) from fun W hW => HCE.out W hW 0 _ (by rw [hve]; rfl))
  have HX1 := Lib.hid (show ∀ W, Below (w.heap.size + 1) (w.alloc (.cells X 50)) W → W.cell? ⟨w.heap.size, 1, none⟩ = some (.slice Ap it.path.length cp) from fun W hW => HCE.out W hW 1 _ (by rw [hve]; rfl))
  have HX2 := Lib.hid (show ∀ W, Below (w.heap.size + 1) (w.alloc (.cells X 50)) W → W.cell? ⟨w.heap.size, 2, none⟩ = some (.int .i64 it.col.sp) from fun W hW => HCE.out W hW 2 _ (by rw [hve]; rfl))
  have HX3 := Lib.hid (show ∀ W, Below (w.heap.size + 1) (w.alloc (.cells X 50)) W → W.cell? ⟨w.heap.size, 3, none⟩ = some (.int .i64 it.col.p0) from fun W hW => HCE.out W hW 3 _ (by rw [hve]; rfl))
  have HX4 := Lib.hid (show ∀ W, Below (w.heap.size + 1) (w.alloc (.cells X 50)) W → W.cell? ⟨w.heap.size, 4, none⟩ = some (.int .i64 it.col.p1) from fun W hW => HCE.out W hW 4 _ (by rw [hve]; rfl))
  have HX5 := Lib.hid (show ∀ W, Below (w.heap.size + 1) (w.alloc (.cells X 50)) W → W.cell? ⟨w.heap.size, 5, none⟩ = some (.int .i64 it.col.p2) from fun W hW => HCE.out W hW 5 _ (by rw [hve]; rfl))
  have HX6 := Lib.hid (show ∀ W, Below (w.heap.size + 1) (w.alloc (.cells X 50)) W → W.cell? ⟨w.heap.size, 6, none⟩ = some (.int .i64 it.col.p3) from fun W hW => HCE.out W hW 6 _ (by rw [hve]; rfl))
  have HX7 := Lib.hid (show ∀ W, Below (w.heap.size + 1) (w.alloc (.cells X 50)) W → W.cell? ⟨w.heap.size, 7, none⟩ = some (.slice Ac it.clips.length cc) from fun W hW => HCE.out W hW 7 _ (by rw [hve]; rfl))
  have HX8 := Lib.hid (show ∀ W, Below (w.heap.size + 1) (w.alloc (.cells X 50)) W → W.cell? ⟨w.heap.size, 8, none⟩ = some (.int .i64 it.pen.wd) from fun W hW => HCE.out W hW 8 _ (by rw [hve]; rfl))
  have HX9 := Lib.hid (show ∀ W, Below (w.heap.size + 1) (w.alloc (.cells X 50)) W → W.cell? ⟨w.heap.size, 9, none⟩ = some (.int .i64 it.pen.cap) from fun W hW => HCE.out W hW 9 _ (by rw [hve]; rfl))
  have HX10 := Lib.hid (show ∀ W, Below (w.heap.size + 1) (w.alloc (.cells X 50)) W → W.cell? ⟨w.heap.size, 10, none⟩ = some (.int .i64 it.pen.join) from fun W hW => HCE.out W hW 10 _ (by rw [hve]; rfl))
  have HX11 := Lib.hid (show ∀ W, Below (w.heap.size + 1) (w.alloc (.cells X 50)) W → W.cell? ⟨w.heap.size, 11, none⟩ = some (.int .i64 it.pen.miter) from fun W hW => HCE.out W hW 11 _ (by rw [hve]; rfl))
  have HX12 := Lib.hid (show ∀ W, Below (w.heap.size + 1) (w.alloc (.cells X 50)) W → W.cell? ⟨w.heap.size, 12, none⟩ = some (.slice Ad it.pen.dash.length cd) from fun W hW => HCE.out W hW 12 _ (by rw [hve]; rfl))
  have HX13 := Lib.hid (show ∀ W, Below (w.heap.size + 1) (w.alloc (.cells X 50)) W → W.cell? ⟨w.heap.size, 13, none⟩ = some (.int .i64 it.pen.phase) from fun W hW => HCE.out W hW 13 _ (by rw [hve]; rfl))
  have HX14 := Lib.hid (show ∀ W, Below (w.heap.size + 1) (w.alloc (.cells X 50)) W → W.cell? ⟨w.heap.size, 14, none⟩ = some (.int .i64 it.font) from fun W hW => HCE.out W hW 14 _ (by rw [hve]; rfl))
  have HX15 := Lib.hid (show ∀ W, Below (w.heap.size + 1) (w.alloc (.cells X 50)) W → W.cell? ⟨w.heap.size, 15, none⟩ = some (.int .i64 it.m0) from fun W hW => HCE.out W hW 15 _ (by rw [hve]; rfl))
  have HX16 := Lib.hid (show ∀ W, Below (w.heap.size + 1) (w.alloc (.cells X 50)) W → W.cell? ⟨w.heap.size, 16, none⟩ = some (.int .i64 it.m1) from fun W hW => HCE.out W hW 16 _ (by rw [hve]; rfl))
  have HX17 := Lib.hid (show ∀ W, Below (w.heap.size + 1) (w.alloc (.cells X 50)) W → W.cell? ⟨w.heap.size, 17, none⟩ = some (.int .i64 it.m2) from fun W hW => HCE.out W hW 17 _ (by rw [hve]; rfl))
  have HX18 := Lib.hid (show ∀ W, Below (w.heap.size + 1) (w.alloc (.cells X 50)) W → W.cell? ⟨w.heap.size, 18, none⟩ = some (.int .i64 it.m3) from fun W hW => HCE.out W hW 18 _ (by rw [hve]; rfl))
  have HX19 := Lib.hid (show ∀ W, Below (w.heap.size + 1) (w.alloc (.cells X 50)) W → W.cell? ⟨w.heap.size, 19, none⟩ = some (.int .i64 it.m4) from fun W hW => HCE.out W hW 19 _ (by rw [hve]; rfl))
  have HX20 := Lib.hid (show ∀ W, Below (w.heap.size + 1) (w.alloc (.cells X 50)) W → W.cell? ⟨w.heap.size, 20, none⟩ = some (.int .i64 it.m5) from fun W hW => HCE.out W hW 20 _ (by rw [hve]; rfl))
  have HX21 := Lib.hid (show ∀ W, Below (w.heap.size + 1) (w.alloc (.cells X 50)) W → W.cell? ⟨w.heap.size, 21, none⟩ = some (.slice Ab it.bytes.length cb) from fun W hW => HCE.out W hW 21 _ (by rw [hve]; rfl))
  have HXA := Lib.hid (show ∀ W, Below (w.heap.size + 1) (w.alloc (.cells X 50)) W → W.rangeAt w.heap.size 0 X.toList from fun W hW j v hj => by
    rw [Nat.zero_add]
    exact HCE.out W hW j v (by rw [← hj]; exact Array.getElem?_toList.symm))
  have HXI := Lib.hid (show (Tryz.prog.info? 50).map (·.size) = some X.toList.length from by rw [show X.toList.length = 22 from by rw [hve]; rfl]; kernel_rfl)
  have HQ := Lib.hid (itemOk_eq it)
  have HR := Lib.hid (show itemR it = (it.font == 0 && (mat0 it && (it.bytes.isEmpty && (!it.path.isEmpty && pathOk it.path)))) from rfl)
  have HS := Lib.hid (show itemS it = if it.k == 3 then penOk it.pen else (it.k == 1 || it.k == 2) && noPen it.pen from rfl)
  have HM0 := Lib.hid (mat0_eq it)
  have HBE := Lib.hid (isEmpty_int it.bytes)
  have HPE := Lib.hid (isEmpty_int it.path)
  have HCO := Lib.hid (fun W => color_ok_calls it.col W)
  have HCL := Lib.hid (show ∀ W, Below (w.heap.size + 1) (w.alloc (.cells X 50)) W → Calls _ _ _ _ _ from fun W hW => clips_ok_calls it.clips Ac cc W (hc1.keep (HBW.out W hW)) hc2 hc3)
  have HLE := Lib.hid (show ∀ W, Below (w.heap.size + 1) (w.alloc (.cells X 50)) W → Calls _ _ _ _ _ from fun W hW => letters_calls it X W (hv0.keep (HBW.out W hW)) (hF.keep (HBW.out W hW)))
  have HNO := Lib.hid (fun W => none_calls it.pen Ad cd W)
  have HPS := Lib.hid (show ∀ W, Below (w.heap.size + 1) (w.alloc (.cells X 50)) W → Calls _ _ _ _ _ from fun W hW => psound_calls it.path Ap cp W (hp1.keep (HBW.out W hW)) hp2 hp3)
  have HPN := Lib.hid (show ∀ W, Below (w.heap.size + 1) (w.alloc (.cells X 50)) W → Calls _ _ _ _ _ from fun W hW => pen_calls it.pen Ad cd W (hd1.keep (HBW.out W hW)) hd2 hd3)
  have HMA := fun W : World => neq_arr6 it.m0 it.m1 it.m2 it.m3 it.m4 it.m5 0 0 0 0 0 0 W
  have HXE := Lib.hid hve
  clear hv0 hve hp1 hc1 hd1 hb1 hF
  unfold colA at HCO
  unfold penA at HNO HPN
  have HMV := Lib.hid HM0.out
  rw [HM0.out] at HR
  clear HM0
  generalize itemOk it = Q at *
  generalize itemR it = R at *
  generalize itemS it = S at *
  generalize colOk it.col = qc at *
  generalize clipsOk it.clips = ql at *
  generalize lettersOk it = qe at *
  generalize noPen it.pen = qn at *
  generalize penOk it.pen = qp at *
  generalize pathOk it.path = qs at *
  clear HMV
  go_enter Tryz.func41, Tryz.ntmps41
  rw [HXE.out]
  go_wp2_with fail
  rw [← HXE.out]
  refine (HCO.out _).mono ?_
  rintro e w1 ⟨rfl, b1⟩
  have HB1 := Lib.hid (HB0.out.trans (b1.mono (by have := HB0.out.size; (try simp only [World.size_alloc] at this); (try simp only [World.size_alloc]); omega)))
  clear b1
  cases qc with
  | false =>
    have HE := Lib.hid (show Q = false from by rw [HQ.out]; rfl)
    go_wp2_with fail
    go_ret
    exact ⟨ret_bool HE.out.symm, HBW.out _ HB1.out⟩
  | true =>
    have HQ1 := Lib.hid (show Q = (ql && (if it.k == 4 then qe && (it.path.isEmpty && qn) else R && S)) from by rw [HQ.out]; rfl)
    clear HQ
    have y7 := HX7.out _ HB1.out
    go_wp2_with fail
    clear y7
    refine (HCL.out _ HB1.out).mono ?_
    rintro e w2 ⟨rfl, b2⟩
    have HB2 := Lib.hid (HB1.out.trans (b2.mono (by have := HB1.out.size; (try simp only [World.size_alloc] at this); (try simp only [World.size_alloc]); omega)))
    clear b2
    cases ql with
    | false =>
      have HE := Lib.hid (show Q = false from by rw [HQ1.out]; rfl)
      go_wp2_with fail
      go_ret
      exact ⟨ret_bool HE.out.symm, HBW.out _ HB2.out⟩
    | true =>
      have HQ2 := Lib.hid (show Q = (if it.k == 4 then qe && (it.path.isEmpty && qn) else R && S) from by rw [HQ1.out]; rfl)
      clear HQ1
      have y0 := HX0.out _ HB2.out
      cases hk : (it.k == 4) with
      | true =>
        have HQ3 := Lib.hid (show Q = (qe && (it.path.isEmpty && qn)) from by rw [HQ2.out, hk]; rfl)
        clear HQ2
        have HXA2 := Lib.hid (HXA.out _ HB2.out)
        go_wp2_with (refine wpList_load_mid rfl 50 _ rfl w.heap.size 0 rfl X.toList _ HXA2.out Tryz.underlying50 rfl HXI.out ?_; simp only [Array.toArray_toList])
        clear y0
        refine (HLE.out _ HB2.out).mono ?_
        rintro e w3 ⟨rfl, b3⟩
        have HB3 := Lib.hid (HB2.out.trans (b3.mono (by have := HB2.out.size; (try simp only [World.size_alloc] at this); (try simp only [World.size_alloc]); omega)))
        clear b3
        cases qe with
        | false =>
          have HE := Lib.hid (show Q = false from by rw [HQ3.out]; rfl)
          go_wp2_with fail
          go_ret
          exact ⟨ret_bool HE.out.symm, HBW.out _ HB3.out⟩
        | true =>
          have HQ4 := Lib.hid (show Q = (((it.path.length : Int) == 0) && qn) from by rw [HQ3.out, HPE.out]; rfl)
          have y1 := HX1.out _ HB3.out
          cases hp : ((it.path.length : Int) == 0) with
          | false =>
            have HE := Lib.hid (show Q = false from by rw [HQ4.out, hp]; rfl)
            go_wp2_with fail
            go_ret
            exact ⟨ret_bool HE.out.symm, HBW.out _ HB3.out⟩
          | true =>
            have HE := Lib.hid (show Q = qn from by rw [HQ4.out, hp]; rfl)
            have y8 := HX8.out _ HB3.out
            have y9 := HX9.out _ HB3.out
            have y10 := HX10.out _ HB3.out
            have y11 := HX11.out _ HB3.out
            have y12 := HX12.out _ HB3.out
            have y13 := HX13.out _ HB3.out
            go_wp2_with fail
            refine (HNO.out _).mono ?_
            rintro e w4 ⟨rfl, b4⟩
            have HB4 := Lib.hid (HB3.out.trans (b4.mono (by have := HB3.out.size; (try simp only [World.size_alloc] at this); (try simp only [World.size_alloc]); omega)))
            clear b4
            go_wp2_with fail
            go_ret
            exact ⟨ret_bool HE.out.symm, HBW.out _ HB4.out⟩
      | false =>
        have HQ3 := Lib.hid (show Q = (R && S) from by rw [HQ2.out, hk]; rfl)
        clear HQ2
        have y1 := HX1.out _ HB2.out
        have y14 := HX14.out _ HB2.out
        have y15 := HX15.out _ HB2.out
        have y16 := HX16.out _ HB2.out
        have y17 := HX17.out _ HB2.out
        have y18 := HX18.out _ HB2.out
        have y19 := HX19.out _ HB2.out
        have y20 := HX20.out _ HB2.out
        have y21 := HX21.out _ HB2.out
        cases hf : (it.font != 0) with
        | true =>
          have HE := Lib.hid (show Q = false from by rw [HQ3.out, HR.out, beq_eq_false_iff_ne.2 (bne_iff_ne.1 hf)]; rfl)
          go_wp2_with fail
          go_ret
          exact ⟨ret_bool HE.out.symm, HBW.out _ HB2.out⟩
        | false =>
          have hf' : (it.font == 0) = true := by rw [bne, Bool.not_eq_false'] at hf; exact hf
          have HR1 := Lib.hid (show R = ((it.m0 == 0 && (it.m1 == 0 && (it.m2 == 0 && (it.m3 == 0 && (it.m4 == 0 && it.m5 == 0))))) && (it.bytes.isEmpty && (!it.path.isEmpty && qs))) from by rw [HR.out, hf']; rfl)
          clear HR hf'
          generalize (it.m0 == 0 && (it.m1 == 0 && (it.m2 == 0 && (it.m3 == 0 && (it.m4 == 0 && it.m5 == 0))))) = qm at *
          cases qm with
          | false =>
            have HE := Lib.hid (show Q = false from by rw [HQ3.out, HR1.out]; rfl)
            go_wp2_with fail
            go_ret
            exact ⟨ret_bool HE.out.symm, HBW.out _ HB2.out⟩
          | true =>
            by_cases hb : 0 < it.bytes.length
            · have hb' : ((it.bytes.length : Int) == 0) = false := beq_eq_false_iff_ne.2 (by omega)
              have hbb : decide ((0 : Int) < (it.bytes.length : Int)) = true := decide_eq_true (by omega)
              have HE := Lib.hid (show Q = false from by rw [HQ3.out, HR1.out, HBE.out, hb']; rfl)
              clear hb'
              go_wp2_with fail
              go_ret
              exact ⟨ret_bool HE.out.symm, HBW.out _ HB2.out⟩
            have hb' : ((it.bytes.length : Int) == 0) = true := beq_iff_eq.2 (by omega)
            have hbb : decide ((0 : Int) < (it.bytes.length : Int)) = false := decide_eq_false (by omega)
            cases hp : ((it.path.length : Int) == 0) with
            | true =>
              have HE := Lib.hid (show Q = false from by rw [HQ3.out, HR1.out, HBE.out, HPE.out, hb', hp]; rfl)
              go_wp2_with fail
              go_ret
              exact ⟨ret_bool HE.out.symm, HBW.out _ HB2.out⟩
            | false =>
              have HR2 := Lib.hid (show R = qs from by rw [HR1.out, HBE.out, HPE.out, hb', hp]; rfl)
              clear hb'
              go_wp2_with fail
              refine (HPS.out _ HB2.out).mono ?_
              rintro e w3 ⟨rfl, b3⟩
              have HB3 := Lib.hid (HB2.out.trans (b3.mono (by have := HB2.out.size; (try simp only [World.size_alloc] at this); (try simp only [World.size_alloc]); omega)))
              clear b3
              cases qs with
              | false =>
                have HE := Lib.hid (show Q = false from by rw [HQ3.out, HR2.out]; rfl)
                go_wp2_with fail
                go_ret
                exact ⟨ret_bool HE.out.symm, HBW.out _ HB3.out⟩
              | true =>
                have HQ4 := Lib.hid (show Q = S from by rw [HQ3.out, HR2.out]; rfl)
                clear y1 y14 y15 y16 y17 y18 y19 y20 y21
                have y0 := HX0.out _ HB3.out
                have y8 := HX8.out _ HB3.out
                have y9 := HX9.out _ HB3.out
                have y10 := HX10.out _ HB3.out
                have y11 := HX11.out _ HB3.out
                have y12 := HX12.out _ HB3.out
                have y13 := HX13.out _ HB3.out
                cases h1 : (it.k == 1) with
                | true =>
                  have h3 : (it.k == 3) = false := by rw [eq_of_beq h1]; rfl
                  have HE := Lib.hid (show Q = qn from by rw [HQ4.out, HS.out, h3, h1]; rfl)
                  clear h3
                  go_wp2_with fail
                  refine (HNO.out _).mono ?_
                  rintro e w4 ⟨rfl, b4⟩
                  have HB4 := Lib.hid (HB3.out.trans (b4.mono (by have := HB3.out.size; (try simp only [World.size_alloc] at this); (try simp only [World.size_alloc]); omega)))
                  clear b4
                  go_wp2_with fail
                  go_ret
                  exact ⟨ret_bool HE.out.symm, HBW.out _ HB4.out⟩
                | false =>
                  cases h2 : (it.k == 2) with
                  | true =>
                    have h3 : (it.k == 3) = false := by rw [eq_of_beq h2]; rfl
                    have HE := Lib.hid (show Q = qn from by rw [HQ4.out, HS.out, h3, h2]; simp)
                    clear h3
                    go_wp2_with fail
                    refine (HNO.out _).mono ?_
                    rintro e w4 ⟨rfl, b4⟩
                    have HB4 := Lib.hid (HB3.out.trans (b4.mono (by have := HB3.out.size; (try simp only [World.size_alloc] at this); (try simp only [World.size_alloc]); omega)))
                    clear b4
                    go_wp2_with fail
                    go_ret
                    exact ⟨ret_bool HE.out.symm, HBW.out _ HB4.out⟩
                  | false =>
                    cases h3 : (it.k == 3) with
                    | true =>
                      have HE := Lib.hid (show Q = qp from by rw [HQ4.out, HS.out, h3]; rfl)
                      go_wp2_with fail
                      refine (HPN.out _ HB3.out).mono ?_
                      rintro e w4 ⟨rfl, b4⟩
                      have HB4 := Lib.hid (HB3.out.trans (b4.mono (by have := HB3.out.size; (try simp only [World.size_alloc] at this); (try simp only [World.size_alloc]); omega)))
                      clear b4
                      go_wp2_with fail
                      go_ret
                      exact ⟨ret_bool HE.out.symm, HBW.out _ HB4.out⟩
                    | false =>
                      have HE := Lib.hid (show Q = false from by rw [HQ4.out, HS.out, h3, h1, h2]; rfl)
                      go_wp2_with fail
                      go_ret
                      exact ⟨ret_bool HE.out.symm, HBW.out _ HB3.out⟩
end Go.Proofs.YtdkgfgmmmjpkgaaGreatDoor
