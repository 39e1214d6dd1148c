/- pobj.sound as the machine runs it: of any object, to any depth. -/
import Derived.Test.YtkcdckcckpgliaaDoorSnd3
namespace Go.Proofs.YtkcdckcckpgliaaDoor
open Go.RowKit Go.Shelf

/-- What all says, at the depth that sound hands on. -/
def AllGen (D : Int) (f : PO → Bool) : Prop := ∀ (l : List PO) (cs : Nat → Array Value) (A : Option Addr) (c : Nat) (w : World), (∀ i (h : i < l.length), ORd w l[i] (cs i)) → RowAt w A l.length 6 cs → l.length ≤ c → c ≤ 140737488355328 →
  Calls Tryd.prog 41 #[.slice A l.length c, .int .i64 (D - 1)] w fun e w' => e = .returned (.bool (allB f l)) ∧ Below w.heap.size w w'
def SndGen (D : Int) (f : PO → Bool) (k : Int) : Prop := ∀ (o : PO) (v : Array Value) (w : World), ORd w o v → o.k = k → Calls Tryd.prog 19 #[.agg v, .int .i64 D] w fun e w' => e = .returned (.bool (sndK (decide (0 < D)) f o)) ∧ Below w.heap.size w w'

set_option maxHeartbeats 3200000 in
set_option maxRecDepth 100000 in
theorem snd_0 (D : Int) (f : PO → Bool) (hD0 : 0 ≤ D) (hD1 : D ≤ 1000) : SndGen D f 0 := by
  intro o v w ho hk0
  obtain ⟨cs, hks, hkc, hkm, hl, hc, hlc, hlm, hd, hdc, hdm, ht, hkt⟩ := ho
  rename_i k n t ks l d Ak Al Ad ck cl cd
  obtain rfl : k = 0 := hk0
  have HKS := Lib.hid hks; have HL := Lib.hid hl; have HC := Lib.hid hc
  clear hks hl hc hd hkt
  generalize hr : sndK (decide (0 < D)) f ⟨0, n, t, ks, l, d⟩ = r
  have hr2 : (bareB ⟨0, n, t, ks, l, d⟩ false false false false false) = r := by
    rw [← hr]; rfl
  clear hr
  generalize hb : bareB ⟨0, n, t, ks, l, d⟩ false false false false false = bb at hr2
  have HB := Lib.hid hb
  have HR := Lib.hid hr2
  clear hb hr2
  go_enter Tryd.func19, Tryd.ntmps19
  go_wp2_with fail
  refine (bare_calls _ _ _ _ _ _ _ _ _ ks l d _ _ _ _ _ _).mono ?_
  rintro e w1 ⟨rfl, h1⟩
  rw [HB.out]
  obtain ⟨hcl, hcf⟩ := bcell h1
  have hz1 := h1.size
  simp only [World.size_alloc] at hz1
  have HB1 := Lib.hid ((below_alloc w _).trans (h1.mono (by simp)))
  clear h1
  go_wp2_with fail
  go_ret
  exact ⟨ret_bool (by rw [← HR.out]), HB1.out⟩

set_option maxHeartbeats 3200000 in
set_option maxRecDepth 100000 in
theorem snd_1 (D : Int) (f : PO → Bool) (hD0 : 0 ≤ D) (hD1 : D ≤ 1000) : SndGen D f 1 := by
  intro o v w ho hk0
  obtain ⟨cs, hks, hkc, hkm, hl, hc, hlc, hlm, hd, hdc, hdm, ht, hkt⟩ := ho
  rename_i k n t ks l d Ak Al Ad ck cl cd
  obtain rfl : k = 1 := hk0
  have HKS := Lib.hid hks; have HL := Lib.hid hl; have HC := Lib.hid hc
  clear hks hl hc hd hkt
  generalize hr : sndK (decide (0 < D)) f ⟨1, n, t, ks, l, d⟩ = r
  have hr2 : (bareB ⟨1, n, t, ks, l, d⟩ true false false false false && (n == 0 || n == 1)) = r := by
    rw [← hr]; rfl
  clear hr
  generalize hb : bareB ⟨1, n, t, ks, l, d⟩ true false false false false = bb at hr2
  have HB := Lib.hid hb
  have HR := Lib.hid hr2
  clear hb hr2
  go_enter Tryd.func19, Tryd.ntmps19
  go_wp2_with fail
  refine (bare_calls _ _ _ _ _ _ _ _ _ ks l d _ _ _ _ _ _).mono ?_
  rintro e w1 ⟨rfl, h1⟩
  rw [HB.out]
  obtain ⟨hcl, hcf⟩ := bcell h1
  have hz1 := h1.size
  simp only [World.size_alloc] at hz1
  have HB1 := Lib.hid ((below_alloc w _).trans (h1.mono (by simp)))
  clear h1
  cases bb
  · go_wp2_with fail
    go_ret
    exact ⟨ret_bool (by rw [← HR.out]; rfl), HB1.out⟩
  · go_wp2_with fail
    all_goals go_ret
    all_goals (
      refine ⟨ret_bool ?_, HB1.out⟩
      rw [← HR.out, Bool.eq_iff_iff]
      simp only [fitsB, Bool.and_eq_true, Bool.or_eq_true, decide_eq_true_eq, beq_iff_eq, eq_self, true_iff, Bool.false_eq_true, false_iff, true_and]
      try omega)

set_option maxHeartbeats 3200000 in
set_option maxRecDepth 100000 in
theorem snd_2 (D : Int) (f : PO → Bool) (hD0 : 0 ≤ D) (hD1 : D ≤ 1000) : SndGen D f 2 := by
  intro o v w ho hk0
  obtain ⟨cs, hks, hkc, hkm, hl, hc, hlc, hlm, hd, hdc, hdm, ht, hkt⟩ := ho
  rename_i k n t ks l d Ak Al Ad ck cl cd
  obtain rfl : k = 2 := hk0
  have HKS := Lib.hid hks; have HL := Lib.hid hl; have HC := Lib.hid hc
  clear hks hl hc hd hkt
  generalize hr : sndK (decide (0 < D)) f ⟨2, n, t, ks, l, d⟩ = r
  have hr2 : (bareB ⟨2, n, t, ks, l, d⟩ true false false false false && fitsB n) = r := by
    rw [← hr]; rfl
  clear hr
  generalize hb : bareB ⟨2, n, t, ks, l, d⟩ true false false false false = bb at hr2
  have HB := Lib.hid hb
  have HR := Lib.hid hr2
  clear hb hr2
  go_enter Tryd.func19, Tryd.ntmps19
  go_wp2_with fail
  refine (bare_calls _ _ _ _ _ _ _ _ _ ks l d _ _ _ _ _ _).mono ?_
  rintro e w1 ⟨rfl, h1⟩
  rw [HB.out]
  obtain ⟨hcl, hcf⟩ := bcell h1
  have hz1 := h1.size
  simp only [World.size_alloc] at hz1
  have HB1 := Lib.hid ((below_alloc w _).trans (h1.mono (by simp)))
  clear h1
  cases bb
  · go_wp2_with fail
    go_ret
    exact ⟨ret_bool (by rw [← HR.out]; rfl), HB1.out⟩
  · go_wp2_with fail
    all_goals go_ret
    all_goals (
      refine ⟨ret_bool ?_, HB1.out⟩
      rw [← HR.out, Bool.eq_iff_iff]
      simp only [fitsB, Bool.and_eq_true, Bool.or_eq_true, decide_eq_true_eq, beq_iff_eq, eq_self, true_iff, Bool.false_eq_true, false_iff, true_and]
      try omega)

set_option maxHeartbeats 3200000 in
set_option maxRecDepth 100000 in
theorem snd_3 (D : Int) (f : PO → Bool) (hD0 : 0 ≤ D) (hD1 : D ≤ 1000) : SndGen D f 3 := by
  intro o v w ho hk0
  obtain ⟨cs, hks, hkc, hkm, hl, hc, hlc, hlm, hd, hdc, hdm, ht, hkt⟩ := ho
  rename_i k n t ks l d Ak Al Ad ck cl cd
  obtain rfl : k = 3 := hk0
  have HKS := Lib.hid hks; have HL := Lib.hid hl; have HC := Lib.hid hc
  clear hks hl hc hd hkt
  generalize hr : sndK (decide (0 < D)) f ⟨3, n, t, ks, l, d⟩ = r
  have hr2 : (bareB ⟨3, n, t, ks, l, d⟩ true false false false false && fitsB n) = r := by
    rw [← hr]; rfl
  clear hr
  generalize hb : bareB ⟨3, n, t, ks, l, d⟩ true false false false false = bb at hr2
  have HB := Lib.hid hb
  have HR := Lib.hid hr2
  clear hb hr2
  go_enter Tryd.func19, Tryd.ntmps19
  go_wp2_with fail
  refine (bare_calls _ _ _ _ _ _ _ _ _ ks l d _ _ _ _ _ _).mono ?_
  rintro e w1 ⟨rfl, h1⟩
  rw [HB.out]
  obtain ⟨hcl, hcf⟩ := bcell h1
  have hz1 := h1.size
  simp only [World.size_alloc] at hz1
  have HB1 := Lib.hid ((below_alloc w _).trans (h1.mono (by simp)))
  clear h1
  cases bb
  · go_wp2_with fail
    go_ret
    exact ⟨ret_bool (by rw [← HR.out]; rfl), HB1.out⟩
  · go_wp2_with (go_at_call 39; refine (Fits_calls _ _).mono ?_; rintro e w2 ⟨rfl, rfl⟩)
    go_ret
    exact ⟨ret_bool (by rw [← HR.out]; rfl), HB1.out⟩

set_option maxHeartbeats 3200000 in
set_option maxRecDepth 100000 in
theorem snd_4 (D : Int) (f : PO → Bool) (hD0 : 0 ≤ D) (hD1 : D ≤ 1000) : SndGen D f 4 := by
  intro o v w ho hk0
  obtain ⟨cs, hks, hkc, hkm, hl, hc, hlc, hlm, hd, hdc, hdm, ht, hkt⟩ := ho
  rename_i k n t ks l d Ak Al Ad ck cl cd
  obtain rfl : k = 4 := hk0
  have HKS := Lib.hid hks; have HL := Lib.hid hl; have HC := Lib.hid hc
  clear hks hl hc hd hkt
  generalize hr : sndK (decide (0 < D)) f ⟨4, n, t, ks, l, d⟩ = r
  have hr2 : (bareB ⟨4, n, t, ks, l, d⟩ false true false false false && namedB t) = r := by
    rw [← hr]; rfl
  clear hr
  generalize hb : bareB ⟨4, n, t, ks, l, d⟩ false true false false false = bb at hr2
  have HB := Lib.hid hb
  have HR := Lib.hid hr2
  clear hb hr2
  go_enter Tryd.func19, Tryd.ntmps19
  go_wp2_with fail
  refine (bare_calls _ _ _ _ _ _ _ _ _ ks l d _ _ _ _ _ _).mono ?_
  rintro e w1 ⟨rfl, h1⟩
  rw [HB.out]
  obtain ⟨hcl, hcf⟩ := bcell h1
  have hz1 := h1.size
  simp only [World.size_alloc] at hz1
  have HB1 := Lib.hid ((below_alloc w _).trans (h1.mono (by simp)))
  clear h1
  cases bb
  · go_wp2_with fail
    go_ret
    exact ⟨ret_bool (by rw [← HR.out]; rfl), HB1.out⟩
  · go_wp2_with (go_at_call 40; refine (named_calls _ _).mono ?_; rintro e w2 ⟨rfl, rfl⟩)
    go_ret
    exact ⟨ret_bool (by rw [← HR.out]; rfl), HB1.out⟩

set_option maxHeartbeats 3200000 in
set_option maxRecDepth 100000 in
theorem snd_5 (D : Int) (f : PO → Bool) (hD0 : 0 ≤ D) (hD1 : D ≤ 1000) : SndGen D f 5 := by
  intro o v w ho hk0
  obtain ⟨cs, hks, hkc, hkm, hl, hc, hlc, hlm, hd, hdc, hdm, ht, hkt⟩ := ho
  rename_i k n t ks l d Ak Al Ad ck cl cd
  obtain rfl : k = 5 := hk0
  have HKS := Lib.hid hks; have HL := Lib.hid hl; have HC := Lib.hid hc
  clear hks hl hc hd hkt
  generalize hr : sndK (decide (0 < D)) f ⟨5, n, t, ks, l, d⟩ = r
  have hr2 : (bareB ⟨5, n, t, ks, l, d⟩ false true false false false && decide (t.size ≤ 65535)) = r := by
    rw [← hr]; rfl
  clear hr
  generalize hb : bareB ⟨5, n, t, ks, l, d⟩ false true false false false = bb at hr2
  have HB := Lib.hid hb
  have HR := Lib.hid hr2
  clear hb hr2
  go_enter Tryd.func19, Tryd.ntmps19
  go_wp2_with fail
  refine (bare_calls _ _ _ _ _ _ _ _ _ ks l d _ _ _ _ _ _).mono ?_
  rintro e w1 ⟨rfl, h1⟩
  rw [HB.out]
  obtain ⟨hcl, hcf⟩ := bcell h1
  have hz1 := h1.size
  simp only [World.size_alloc] at hz1
  have HB1 := Lib.hid ((below_alloc w _).trans (h1.mono (by simp)))
  clear h1
  cases bb
  · go_wp2_with fail
    go_ret
    exact ⟨ret_bool (by rw [← HR.out]; rfl), HB1.out⟩
  · go_wp2_with fail
    all_goals go_ret
    all_goals (
      refine ⟨ret_bool ?_, HB1.out⟩
      rw [← HR.out, Bool.eq_iff_iff]
      simp only [fitsB, Bool.and_eq_true, Bool.or_eq_true, decide_eq_true_eq, beq_iff_eq, eq_self, true_iff, Bool.false_eq_true, false_iff, true_and]
      try omega)

set_option maxHeartbeats 3200000 in
set_option maxRecDepth 100000 in
theorem snd_8 (D : Int) (f : PO → Bool) (hD0 : 0 ≤ D) (hD1 : D ≤ 1000) : SndGen D f 8 := by
  intro o v w ho hk0
  obtain ⟨cs, hks, hkc, hkm, hl, hc, hlc, hlm, hd, hdc, hdm, ht, hkt⟩ := ho
  rename_i k n t ks l d Ak Al Ad ck cl cd
  obtain rfl : k = 8 := hk0
  have HKS := Lib.hid hks; have HL := Lib.hid hl; have HC := Lib.hid hc
  clear hks hl hc hd hkt
  generalize hr : sndK (decide (0 < D)) f ⟨8, n, t, ks, l, d⟩ = r
  have hr2 : (bareB ⟨8, n, t, ks, l, d⟩ true false false false false && decide (1 ≤ n) && decide (n ≤ 4096)) = r := by
    rw [← hr]; rfl
  clear hr
  generalize hb : bareB ⟨8, n, t, ks, l, d⟩ true false false false false = bb at hr2
  have HB := Lib.hid hb
  have HR := Lib.hid hr2
  clear hb hr2
  go_enter Tryd.func19, Tryd.ntmps19
  go_wp2_with fail
  refine (bare_calls _ _ _ _ _ _ _ _ _ ks l d _ _ _ _ _ _).mono ?_
  rintro e w1 ⟨rfl, h1⟩
  rw [HB.out]
  obtain ⟨hcl, hcf⟩ := bcell h1
  have hz1 := h1.size
  simp only [World.size_alloc] at hz1
  have HB1 := Lib.hid ((below_alloc w _).trans (h1.mono (by simp)))
  clear h1
  cases bb
  · go_wp2_with fail
    go_ret
    exact ⟨ret_bool (by rw [← HR.out]; rfl), HB1.out⟩
  · go_wp2_with fail
    all_goals go_ret
    all_goals (
      refine ⟨ret_bool ?_, HB1.out⟩
      rw [← HR.out, Bool.eq_iff_iff]
      simp only [fitsB, Bool.and_eq_true, Bool.or_eq_true, decide_eq_true_eq, beq_iff_eq, eq_self, true_iff, Bool.false_eq_true, false_iff, true_and]
      try omega)

set_option maxHeartbeats 3200000 in
set_option maxRecDepth 100000 in
theorem snd_6 (D : Int) (f : PO → Bool) (hD0 : 0 ≤ D) (hD1 : D ≤ 1000) (hall : 0 < D → AllGen D f) : SndGen D f 6 := by
  intro o v w ho hk0
  obtain ⟨cs, hks, hkc, hkm, hl, hc, hlc, hlm, hd, hdc, hdm, ht, hkt⟩ := ho
  rename_i k n t ks l d Ak Al Ad ck cl cd
  obtain rfl : k = 6 := hk0
  have HKS := Lib.hid hks; have HL := Lib.hid hl; have HC := Lib.hid hc
  clear hks hl hc hd hkt
  generalize hr : sndK (decide (0 < D)) f ⟨6, n, t, ks, l, d⟩ = r
  by_cases hpos : 0 < D
  · have hr2 : (bareB ⟨6, n, t, ks, l, d⟩ false false false true false && allB f l) = r := by
      rw [← hr, decide_eq_true hpos]
      show _ = ((true && _) && allB f l)
      rw [Bool.true_and]
    have HALL := Lib.hid (hall hpos)
    clear hall hr
    generalize hb : bareB ⟨6, n, t, ks, l, d⟩ false false false true false = bb at hr2
    have HB := Lib.hid hb
    have HR := Lib.hid hr2
    clear hb hr2
    go_enter Tryd.func19, Tryd.ntmps19
    go_wp2_with fail
    refine (bare_calls _ _ _ _ _ _ _ _ _ ks l d _ _ _ _ _ _).mono ?_
    rintro e w1 ⟨rfl, h1⟩
    rw [HB.out]
    obtain ⟨hcl, hcf⟩ := bcell h1
    have hz1 := h1.size
    simp only [World.size_alloc] at hz1
    have HB1 := Lib.hid ((below_alloc w _).trans (h1.mono (by simp)))
    clear h1
    cases bb
    · go_wp2_with fail
      go_ret
      exact ⟨ret_bool (by rw [← HR.out]; rfl), HB1.out⟩
    · go_wp2_with fail
      refine (HALL.out l cs Al cl w1 (fun i hi => (HL.out i hi).keep HB1.out) (HC.out.keep HB1.out) hlc hlm).mono ?_
      rintro e w2 ⟨rfl, h2⟩
      have H2 := Lib.hid (HB1.out.trans (h2.mono HB1.out.size))
      clear h2
      go_wp2_with fail
      go_ret
      exact ⟨ret_bool (by rw [← HR.out]; rfl), H2.out⟩
  · have hD : D = 0 := by omega
    subst hD
    have hr2 : r = false := by rw [← hr]; rfl
    have HR := Lib.hid hr2
    clear hr hr2 hall hpos
    go_enter Tryd.func19, Tryd.ntmps19
    go_wp2_with fail
    go_ret
    exact ⟨ret_bool HR.out.symm, below_alloc w _⟩

set_option maxHeartbeats 3200000 in
set_option maxRecDepth 100000 in
theorem snd_7 (D : Int) (f : PO → Bool) (hD0 : 0 ≤ D) (hD1 : D ≤ 1000) (hall : 0 < D → AllGen D f) : SndGen D f 7 := by
  intro o v w ho hk0
  obtain ⟨cs, hks, hkc, hkm, hl, hc, hlc, hlm, hd, hdc, hdm, ht, hkt⟩ := ho
  rename_i k n t ks l d Ak Al Ad ck cl cd
  obtain rfl : k = 7 := hk0
  have HKS := Lib.hid hks; have HL := Lib.hid hl; have HC := Lib.hid hc
  clear hks hl hc hd hkt
  generalize hr : sndK (decide (0 < D)) f ⟨7, n, t, ks, l, d⟩ = r
  by_cases hpos : 0 < D
  · have hr2 : (bareB ⟨7, n, t, ks, l, d⟩ false false true true false && ((ks.length : Int) == l.length) && distinctB [] ks && allB f l) = r := by
      rw [← hr, decide_eq_true hpos]
      show _ = ((true && _) && ((ks.length : Int) == l.length) && distinctB [] ks && allB f l)
      rw [Bool.true_and]
    have HALL := Lib.hid (hall hpos)
    clear hall hr
    generalize hb : bareB ⟨7, n, t, ks, l, d⟩ false false true true false = bb at hr2
    have HB := Lib.hid hb
    have HR := Lib.hid hr2
    clear hb hr2
    go_enter Tryd.func19, Tryd.ntmps19
    go_wp2_with fail
    refine (bare_calls _ _ _ _ _ _ _ _ _ ks l d _ _ _ _ _ _).mono ?_
    rintro e w1 ⟨rfl, h1⟩
    rw [HB.out]
    obtain ⟨hcl, hcf⟩ := bcell h1
    have hz1 := h1.size
    simp only [World.size_alloc] at hz1
    have HB1 := Lib.hid ((below_alloc w _).trans (h1.mono (by simp)))
    clear h1
    cases bb
    · go_wp2_with fail
      go_ret
      exact ⟨ret_bool (by rw [← HR.out]; rfl), HB1.out⟩
    · by_cases hq : (ks.length : Int) = l.length
      · have hqb : ((ks.length : Int) == l.length) = true := beq_iff_eq.2 hq
        have HQ := Lib.hid hqb
        have hqn : ks.length = l.length := by omega
        have hqd : (ks.length == l.length) = true := beq_iff_eq.2 hqn
        have HQN := Lib.hid hqn
        clear hq hqn
        go_wp2_with fail
        refine (distinct_calls ks Ak ck w1 (HKS.out.keep HB1.out) hkc hkm).mono ?_
        rintro e w2 ⟨rfl, rfl⟩
        clear hqb hqd
        generalize hds : distinctB [] ks = ds
        have HDs := Lib.hid hds
        clear hds
        cases ds
        · go_wp2_with fail
          go_ret
          exact ⟨ret_bool (by rw [← HR.out, HQ.out, HDs.out]; rfl), HB1.out⟩
        · go_wp2_with fail
          refine (HALL.out l cs Al cl w1 (fun i hi => (HL.out i hi).keep HB1.out) (HC.out.keep HB1.out) hlc hlm).mono ?_
          rintro e w2 ⟨rfl, h2⟩
          have H2 := Lib.hid (HB1.out.trans (h2.mono HB1.out.size))
          clear h2
          go_wp2_with fail
          go_ret
          exact ⟨ret_bool (by rw [← HR.out, HQ.out, HDs.out]; rfl), H2.out⟩
      · have hqb : ((ks.length : Int) == l.length) = false := beq_eq_false_iff_ne.2 hq
        have HQ := Lib.hid hqb
        have hqd : (ks.length == l.length) = false := beq_eq_false_iff_ne.2 (by omega)
        clear hq
        go_wp2_with fail
        go_ret
        exact ⟨ret_bool (by rw [← HR.out, HQ.out]; rfl), HB1.out⟩
  · have hD : D = 0 := by omega
    subst hD
    have hr2 : r = false := by rw [← hr]; rfl
    have HR := Lib.hid hr2
    clear hr hr2 hall hpos
    go_enter Tryd.func19, Tryd.ntmps19
    go_wp2_with fail
    go_ret
    exact ⟨ret_bool HR.out.symm, below_alloc w _⟩

set_option maxHeartbeats 3200000 in
set_option maxRecDepth 100000 in
theorem snd_9 (D : Int) (f : PO → Bool) (hD0 : 0 ≤ D) (hD1 : D ≤ 1000) (hall : 0 < D → AllGen D f) : SndGen D f 9 := by
  intro o v w ho hk0
  obtain ⟨cs, hks, hkc, hkm, hl, hc, hlc, hlm, hd, hdc, hdm, ht, hkt⟩ := ho
  rename_i k n t ks l d Ak Al Ad ck cl cd
  obtain rfl : k = 9 := hk0
  have HKS := Lib.hid hks; have HL := Lib.hid hl; have HC := Lib.hid hc
  clear hks hl hc hd hkt
  generalize hr : sndK (decide (0 < D)) f ⟨9, n, t, ks, l, d⟩ = r
  by_cases hpos : 0 < D
  · have hr2 : (bareB ⟨9, n, t, ks, l, d⟩ false false true true true && ((ks.length : Int) == l.length) && distinctB [] ks && !Lib.containsS ks lengthName && decide (d.length ≤ 1048576) && allB f l) = r := by
      rw [← hr, decide_eq_true hpos]
      show _ = ((true && _) && ((ks.length : Int) == l.length) && distinctB [] ks && !Lib.containsS ks lengthName && decide (d.length ≤ 1048576) && allB f l)
      rw [Bool.true_and]
    have HALL := Lib.hid (hall hpos)
    clear hall hr
    generalize hb : bareB ⟨9, n, t, ks, l, d⟩ false false true true true = bb at hr2
    have HB := Lib.hid hb
    have HR := Lib.hid hr2
    clear hb hr2
    go_enter Tryd.func19, Tryd.ntmps19
    go_wp2_with fail
    refine (bare_calls _ _ _ _ _ _ _ _ _ ks l d _ _ _ _ _ _).mono ?_
    rintro e w1 ⟨rfl, h1⟩
    rw [HB.out]
    obtain ⟨hcl, hcf⟩ := bcell h1
    have hz1 := h1.size
    simp only [World.size_alloc] at hz1
    have HB1 := Lib.hid ((below_alloc w _).trans (h1.mono (by simp)))
    clear h1
    cases bb
    · go_wp2_with fail
      go_ret
      exact ⟨ret_bool (by rw [← HR.out]; rfl), HB1.out⟩
    · by_cases hq : (ks.length : Int) = l.length
      · have hqb : ((ks.length : Int) == l.length) = true := beq_iff_eq.2 hq
        have HQ := Lib.hid hqb
        have hqn : ks.length = l.length := by omega
        have hqd : (ks.length == l.length) = true := beq_iff_eq.2 hqn
        have HQN := Lib.hid hqn
        clear hq hqn
        go_wp2_with fail
        refine (distinct_calls ks Ak ck w1 (HKS.out.keep HB1.out) hkc hkm).mono ?_
        rintro e w2 ⟨rfl, rfl⟩
        clear hqb hqd
        generalize hds : distinctB [] ks = ds
        have HDs := Lib.hid hds
        clear hds
        cases ds
        · go_wp2_with fail
          go_ret
          exact ⟨ret_bool (by rw [← HR.out, HQ.out, HDs.out]; rfl), HB1.out⟩
        · have hct : Calls Tryd.prog 43 #[.slice Ak ks.length ck, .string lengthName] w1 fun e w' => e = .returned (.bool (Lib.containsS ks lengthName)) ∧ w1 = w' := by
            rcases HKS.out.keep HB1.out with h0 | ⟨b, off, rfl, hcell⟩
            · subst h0
              refine (Tryd.slices_Contains_string_empty Ak ck lengthName w1).mono fun _ _ ⟨h1, h2⟩ => ⟨?_, h2.symm⟩
              rw [h1]; rfl
            · have hcs : ∀ j, j < ks.length → w1.cell? ⟨b, off + j, none⟩ = some (.string (ks.getD j ByteArray.empty)) := by
                intro j hj
                rw [hcell j hj, List.getD_eq_getElem?_getD, List.getElem?_eq_getElem hj]
                rfl
              have := (Tryd.slices_Contains_string b off ks.length ck ks lengthName w1 (Nat.le_refl _) (by omega) hcs).mono (R' := fun e w' => e = .returned (.bool (Lib.containsS ks lengthName)) ∧ w1 = w') fun _ _ ⟨h1, h2⟩ => ⟨by rw [h1, List.take_length], h2.symm⟩
              exact this
          have HCT := Lib.hid hct
          clear hct
          go_wp2_with fail
          refine HCT.out.mono ?_
          rintro e w2 ⟨rfl, rfl⟩
          generalize hcn : Lib.containsS ks lengthName = cn
          have HCn := Lib.hid hcn
          clear hcn
          cases cn
          · by_cases hdl : d.length ≤ 1048576
            · have hdb : decide (d.length ≤ 1048576) = true := decide_eq_true hdl
              have HDl := Lib.hid hdb
              clear hdb
              go_wp2_with fail
              refine (HALL.out l cs Al cl w1 (fun i hi => (HL.out i hi).keep HB1.out) (HC.out.keep HB1.out) hlc hlm).mono ?_
              rintro e w2 ⟨rfl, h2⟩
              have H2 := Lib.hid (HB1.out.trans (h2.mono HB1.out.size))
              clear h2
              go_wp2_with fail
              go_ret
              exact ⟨ret_bool (by rw [← HR.out, HQ.out, HDs.out, HCn.out, HDl.out]; rfl), H2.out⟩
            · have hdb : decide (d.length ≤ 1048576) = false := decide_eq_false hdl
              have HDl := Lib.hid hdb
              clear hdb
              go_wp2_with fail
              go_ret
              exact ⟨ret_bool (by rw [← HR.out, HQ.out, HDs.out, HCn.out, HDl.out]; rfl), HB1.out⟩
          · go_wp2_with fail
            go_ret
            exact ⟨ret_bool (by rw [← HR.out, HQ.out, HDs.out, HCn.out]; rfl), HB1.out⟩
      · have hqb : ((ks.length : Int) == l.length) = false := beq_eq_false_iff_ne.2 hq
        have HQ := Lib.hid hqb
        have hqd : (ks.length == l.length) = false := beq_eq_false_iff_ne.2 (by omega)
        clear hq
        go_wp2_with fail
        go_ret
        exact ⟨ret_bool (by rw [← HR.out, HQ.out]; rfl), HB1.out⟩
  · have hD : D = 0 := by omega
    subst hD
    have hr2 : r = false := by rw [← hr]; rfl
    have HR := Lib.hid hr2
    clear hr hr2 hall hpos
    go_enter Tryd.func19, Tryd.ntmps19
    go_wp2_with fail
    go_ret
    exact ⟨ret_bool HR.out.symm, below_alloc w _⟩

set_option maxHeartbeats 3200000 in
set_option maxRecDepth 100000 in
theorem snd_other (D : Int) (f : PO → Bool) (o : PO) (v : Array Value) (w : World) (ho : ORd w o v) (hk : o.k ≠ 0 ∧ o.k ≠ 1 ∧ o.k ≠ 2 ∧ o.k ≠ 3 ∧ o.k ≠ 4 ∧ o.k ≠ 5 ∧ o.k ≠ 8 ∧ o.k ≠ 6 ∧ o.k ≠ 7 ∧ o.k ≠ 9) :
    Calls Tryd.prog 19 #[.agg v, .int .i64 D] w fun e w' => e = .returned (.bool (sndK (decide (0 < D)) f o)) ∧ Below w.heap.size w w' := by
  obtain ⟨cs, hks, hkc, hkm, hl, hc, hlc, hlm, hd, hdc, hdm, ht, hkt⟩ := ho
  rename_i k n t ks l d Ak Al Ad ck cl cd
  obtain ⟨a0, a1, a2, a3, a4, a5, a8, a6, a7, a9⟩ : k ≠ 0 ∧ k ≠ 1 ∧ k ≠ 2 ∧ k ≠ 3 ∧ k ≠ 4 ∧ k ≠ 5 ∧ k ≠ 8 ∧ k ≠ 6 ∧ k ≠ 7 ∧ k ≠ 9 := hk
  clear hks hl hc hd hkt
  have b0 : (k == 0) = false := beq_eq_false_iff_ne.2 a0
  have b1 : (k == 1) = false := beq_eq_false_iff_ne.2 a1
  have b2 : (k == 2) = false := beq_eq_false_iff_ne.2 a2
  have b3 : (k == 3) = false := beq_eq_false_iff_ne.2 a3
  have b4 : (k == 4) = false := beq_eq_false_iff_ne.2 a4
  have b5 : (k == 5) = false := beq_eq_false_iff_ne.2 a5
  have b8 : (k == 8) = false := beq_eq_false_iff_ne.2 a8
  have b6 : (k == 6) = false := beq_eq_false_iff_ne.2 a6
  have b7 : (k == 7) = false := beq_eq_false_iff_ne.2 a7
  have b9 : (k == 9) = false := beq_eq_false_iff_ne.2 a9
  have hr2 : sndK (decide (0 < D)) f ⟨k, n, t, ks, l, d⟩ = false := by
    simp only [sndK, b0, b1, b2, b3, b4, b5, b8, b6, b7, b9, Bool.false_eq_true, if_false]
  have HR := Lib.hid hr2
  clear hr2 a0 a1 a2 a3 a4 a5 a8 a6 a7 a9
  rw [HR.out]
  go_enter Tryd.func19, Tryd.ntmps19
  go_wp2_with fail
  go_ret
  exact ⟨rfl, below_alloc w _⟩

theorem snd_gen (D : Int) (f : PO → Bool) (hD0 : 0 ≤ D) (hD1 : D ≤ 1000) (hall : 0 < D → AllGen D f) (o : PO) (v : Array Value) (w : World) (ho : ORd w o v) :
    Calls Tryd.prog 19 #[.agg v, .int .i64 D] w fun e w' => e = .returned (.bool (sndK (decide (0 < D)) f o)) ∧ Below w.heap.size w w' := by
  by_cases h0 : o.k = 0
  · exact snd_0 D f hD0 hD1 o v w ho h0
  by_cases h1 : o.k = 1
  · exact snd_1 D f hD0 hD1 o v w ho h1
  by_cases h2 : o.k = 2
  · exact snd_2 D f hD0 hD1 o v w ho h2
  by_cases h3 : o.k = 3
  · exact snd_3 D f hD0 hD1 o v w ho h3
  by_cases h4 : o.k = 4
  · exact snd_4 D f hD0 hD1 o v w ho h4
  by_cases h5 : o.k = 5
  · exact snd_5 D f hD0 hD1 o v w ho h5
  by_cases h8 : o.k = 8
  · exact snd_8 D f hD0 hD1 o v w ho h8
  by_cases h6 : o.k = 6
  · exact snd_6 D f hD0 hD1 hall o v w ho h6
  by_cases h7 : o.k = 7
  · exact snd_7 D f hD0 hD1 hall o v w ho h7
  by_cases h9 : o.k = 9
  · exact snd_9 D f hD0 hD1 hall o v w ho h9
  exact snd_other D f o v w ho ⟨h0, h1, h2, h3, h4, h5, h8, h6, h7, h9⟩

theorem snd_all : ∀ d : Nat, d ≤ 100 → SndAt d
  | 0, _ => fun o v w ho => snd_gen 0 (fun _ => false) (by decide) (by decide) (fun h => absurd h (by decide)) o v w ho
  | d + 1, hd => fun o v w ho => by
    have ih := all_of d (idx_of d (clo_of d (snd_all d (by omega))))
    have := snd_gen ((d + 1 : Nat) : Int) (sndB d) (by omega) (by omega) (fun _ l cs A c w' h1 h2 h3 h4 => by
      rw [show (((d + 1 : Nat) : Int) - 1) = (d : Int) by omega]
      exact ih l cs A c w' h1 h2 h3 h4) o v w ho
    rw [decide_eq_true (by omega)] at this
    exact this

set_option maxHeartbeats 800000 in
set_option maxRecDepth 100000 in
/-- Sound. -/
theorem Sound_calls (o : PO) (v : Array Value) (w : World) (ho : ORd w o v) : Calls Tryd.prog 10 #[.agg v] w fun e w' => e = .returned (.bool (sndB 32 o)) ∧ Below w.heap.size w w' := by
  have hS := fun X => snd_all 32 (by decide) o v (w.alloc X) (ho.keep (below_alloc w X))
  have HS := Lib.hid hS
  obtain ⟨n, t, Ak, ck, Al, cl, Ad, cd, rfl⟩ := ho.agg
  clear hS ho
  go_enter Tryd.func10, Tryd.ntmps10
  go_wp2_with fail
  refine (HS.out _).mono ?_
  rintro e w1 ⟨rfl, h1⟩
  have H1 := Lib.hid ((below_alloc w _).trans (h1.mono (by simp)))
  clear h1
  go_wp2_with fail
  go_ret
  exact ⟨rfl, H1.out⟩
end Go.Proofs.YtkcdckcckpgliaaDoor
