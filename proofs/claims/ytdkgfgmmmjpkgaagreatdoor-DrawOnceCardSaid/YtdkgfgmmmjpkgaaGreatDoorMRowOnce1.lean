/-
  Lemmas, in their order: DrawOnce's plain law: an item's bytes, once, twice, three times, and bare. · The reference's soundness: points, sides, pens. · The reference's soundness: paths.
-/
import Derived.Test.YtdkgfgmmmjpkgaaGreatDoorM8

namespace Go.Proofs.YtdkgfgmmmjpkgaaGreatDoor
open Go.RowKit Go.Shelf

def pg (l : List ItemP) : PageP := ⟨65536, 65536, l⟩
def endQ (it : ItemP) : List UInt8 := if it.clips.isEmpty then [] else [81, 10]
theorem clipsLen_light (l : List ClipP) (h1 : l.length ≤ 20) (h2 : (l.all fun c => !decide (100 < c.path.length)) = true) : clipsLen l ≤ 320100 := by
  have : ∀ l : List ClipP, (l.all fun c => !decide (100 < c.path.length)) = true → clipsLen l ≤ 16005 * l.length := by
    intro l
    induction l with
    | nil => intro _; simp [clipsLen]
    | cons c r ih =>
      intro h
      rw [List.all_cons, Bool.and_eq_true] at h
      have h3 := ih h.2
      have h4 : ¬ 100 < c.path.length := by simpa using h.1
      rw [clipsLen, List.length_cons]
      omega
  have := this l h2
  omega
theorem itemLight_facts {it : ItemP} (h : itemLight it = true) : it.path.length ≤ 500 ∧ it.bytes.length ≤ 3000 ∧ it.pen.dash.length ≤ 50 ∧ clipsLen it.clips ≤ 320100 := by
  simp only [itemLight, Bool.and_eq_true, Bool.not_eq_true', decide_eq_false_iff_not] at h
  obtain ⟨h1, h2, h3, h4, h5⟩ := h
  exact ⟨by omega, by omega, by omega, clipsLen_light _ (by omega) h5⟩
theorem textItemB_le (it : ItemP) (hf : 0 ≤ it.font ∧ it.font ≤ 13) : (textItemB it).length ≤ 4 * it.bytes.length + 400 := by
  have h1 := itoa_le it.font (by omega)
  have h2 := lineB_le [it.m0, it.m1, it.m2, it.m3, it.m4, it.m5] [84, 109]
  have h3 := textL_le it.bytes
  rw [textItemB]
  simp only [List.length_append, List.length_cons, List.length_nil] at h2 ⊢
  omega
theorem bareB'_le (it : ItemP) (hf : 0 ≤ it.font ∧ it.font ≤ 13) (h : itemLight it = true) : (bareB' it).length ≤ 100000 := by
  have h1 := itemLight_facts h
  have h2 := textItemB_le it hf
  have h3 := pathB_le it.path
  rw [bareB']
  repeat' split
  all_goals ((try simp only [List.length_append, List.length_cons, List.length_nil]); omega)
theorem itemB_le (st : StP) (it : ItemP) (hf : 0 ≤ it.font ∧ it.font ≤ 13) (hp : (0 ≤ it.pen.cap ∧ it.pen.cap ≤ 2) ∧ 0 ≤ it.pen.join ∧ it.pen.join ≤ 2) (h : itemLight it = true) : (itemB st it).length ≤ 450000 := by
  have h1 := itemLight_facts h
  have h2 := textItemB_le it hf
  have h3 := pathB_le it.path
  have h4 := boundB_le st it.clips
  have h5 := fun g => colB_le it.col g
  have h6 := fun o => penB_le o it.pen hp
  have h5t := h5 true
  have h5f := h5 false
  have h6' := h6 (boundSo st it.clips).pen
  rw [itemB, List.length_append, paintB]
  clear h5 h6
  repeat' split
  all_goals ((try simp only [List.length_append, List.length_cons, List.length_nil]); omega)
theorem runB_one (acc : List UInt8) (st : StP) (it : ItemP) (r : List ItemP) (h : (acc ++ itemB st it).length ≤ 1048576) : runB acc st (it :: r) = runB (acc ++ itemB st it) (itemSt st it) r := by
  rw [runB, if_neg (by omega)]
theorem contentB_end (l : List ItemP) (acc : List UInt8) (st : StP) (h : runB [] st0 l = some (acc, st)) (hl : (acc ++ (if st.clips.isEmpty then [] else [81, 10])).length ≤ 1048576) : contentB l = some (acc ++ (if st.clips.isEmpty then [] else [81, 10])) := by
  rw [contentB, h]
  simp only
  rw [if_neg (by omega)]
theorem endQ_le (it : ItemP) : (endQ it).length ≤ 2 := by rw [endQ]; split <;> simp
theorem once_contents (it : ItemP) (hf : 0 ≤ it.font ∧ it.font ≤ 13) (hp : (0 ≤ it.pen.cap ∧ it.pen.cap ≤ 2) ∧ 0 ≤ it.pen.join ∧ it.pen.join ≤ 2) (h : itemLight it = true) :
    contentB [it] = some (itemB st0 it ++ endQ it) ∧ contentB [it, it] = some (itemB st0 it ++ bareB' it ++ endQ it) ∧ contentB [it, it, it] = some (itemB st0 it ++ bareB' it ++ bareB' it ++ endQ it) ∧ contentB [plainP it] = some (bareB' it) := by
  have h1 := itemB_le st0 it hf hp h
  have h2 := bareB'_le it hf h
  have h3 := endQ_le it
  obtain ⟨g1, g2⟩ := item_again st0 it
  obtain ⟨p1, p2⟩ := plain_item it
  have r1 : runB [] st0 [it] = some (itemB st0 it, itemSt st0 it) := by
    rw [runB_one _ _ _ _ (by rw [List.nil_append]; omega)]
    rfl
  have r2 : runB [] st0 [it, it] = some (itemB st0 it ++ bareB' it, itemSt st0 it) := by
    rw [runB_one _ _ _ _ (by rw [List.nil_append]; omega), runB_one _ _ _ _ (by rw [g1]; simp only [List.nil_append, List.length_append]; omega), g1, g2]
    rfl
  have r3 : runB [] st0 [it, it, it] = some (itemB st0 it ++ bareB' it ++ bareB' it, itemSt st0 it) := by
    rw [runB_one _ _ _ _ (by rw [List.nil_append]; omega), runB_one _ _ _ _ (by rw [g1]; simp only [List.nil_append, List.length_append]; omega), g1, g2, runB_one _ _ _ _ (by rw [g1]; simp only [List.nil_append, List.length_append]; omega), g1, g2]
    rfl
  have r4 : runB [] st0 [plainP it] = some (bareB' it, itemSt st0 (plainP it)) := by
    rw [runB_one _ _ _ _ (by rw [p1, List.nil_append]; omega), p1]
    rfl
  have he : (if (itemSt st0 it).clips.isEmpty then [] else [81, 10] : List UInt8) = endQ it := rfl
  have c1 := contentB_end _ _ _ r1 (by rw [he]; simp only [List.length_append]; omega)
  have c2 := contentB_end _ _ _ r2 (by rw [he]; simp only [List.length_append]; omega)
  have c3 := contentB_end _ _ _ r3 (by rw [he]; simp only [List.length_append]; omega)
  have c4 := contentB_end _ _ _ r4 (by rw [p2]; simp only [List.isEmpty_nil, if_true, List.append_nil]; omega)
  rw [p2] at c4
  simp only [List.isEmpty_nil, if_true, List.append_nil] at c4
  exact ⟨c1, c2, c3, c4⟩
theorem plain_ok (it : ItemP) (h : itemOk it = true) : itemOk (plainP it) = true := by
  rw [itemOk_eq] at h ⊢
  simp only [Bool.and_eq_true] at h
  obtain ⟨-, -, h3⟩ := h
  have hc : colOk (plainP it).col = true := show colOk black = true from by decide
  have hcl : clipsOk (plainP it).clips = true := show clipsOk [] = true from by decide
  rw [hc, hcl, Bool.true_and, Bool.true_and]
  show (if it.k == 4 then lettersOk (plainP it) && (it.path.isEmpty && noPen (plainP it).pen) else itemR (plainP it) && itemS (plainP it)) = true
  have hpen : (plainP it).pen = if it.k == 3 then pen0 else it.pen := rfl
  cases h4 : (it.k == 4) with
  | true =>
    have hk3 : (it.k == 3) = false := by rw [eq_of_beq h4]; rfl
    rw [h4] at h3
    rw [if_pos rfl, hpen, hk3] 
    exact h3
  | false =>
    rw [h4, if_neg Bool.false_ne_true, Bool.and_eq_true] at h3
    rw [if_neg Bool.false_ne_true, Bool.and_eq_true]
    refine ⟨h3.1, ?_⟩
    have h5 := h3.2
    rw [itemS] at h5 ⊢
    show (if it.k == 3 then penOk (plainP it).pen else (it.k == 1 || it.k == 2) && noPen (plainP it).pen) = true
    rw [hpen]
    cases hk : (it.k == 3) with
    | true =>
      show penOk pen0 = true
      decide
    | false => rw [hk] at h5; exact h5
theorem pg_ok (l : List ItemP) (hl : l.length ≤ 4) : pageOk (pg l) = l.all itemOk := by
  have h1 : sideOk 65536 = true := by decide
  rw [pageOk, pg]
  simp only [h1, Bool.true_and]
  rw [decide_eq_true (show l.length ≤ 4096 from by omega), Bool.true_and]
theorem ansB_some (p : PageP) (b : List UInt8) (h1 : pageOk p = true) (h2 : contentB p.items = some b) : (ansB p).1 = 0 ∧ (ansB p).2.1 = b := by
  rw [ansB, h1, if_pos rfl, h2]
  exact ⟨rfl, rfl⟩
/-- The four contents, and their lengths. -/
theorem once_plain (it : ItemP) (hs : pageOk (pg [it]) = true) (hl : lightB (pg [it]) = true) :
    ((ansB (pg [it])).1 = 0 ∧ (ansB (pg [it, it, it])).1 = 0 ∧ (ansB (pg [it, it])).1 = 0 ∧ (ansB (pg [plainP it])).1 = 0) ∧
    (ansB (pg [it, it])).2.1.length = (ansB (pg [it])).2.1.length + (ansB (pg [plainP it])).2.1.length ∧ (ansB (pg [it, it, it])).2.1.length = (ansB (pg [it, it])).2.1.length + (ansB (pg [plainP it])).2.1.length := by
  have ho : itemOk it = true := by
    rw [pg_ok _ (by simp)] at hs
    simpa using hs
  have hi : itemLight it = true := by
    simp only [lightB, pg, Bool.and_eq_true] at hl
    simpa using hl.2
  have hf := itemOk_facts ho
  obtain ⟨c1, c2, c3, c4⟩ := once_contents it hf.2.2.1 hf.2.1 hi
  obtain ⟨a1, b1⟩ := ansB_some (pg [it]) _ hs c1
  obtain ⟨a2, b2⟩ := ansB_some (pg [it, it]) _ (by rw [pg_ok _ (by simp)]; simp [ho]) c2
  obtain ⟨a3, b3⟩ := ansB_some (pg [it, it, it]) _ (by rw [pg_ok _ (by simp)]; simp [ho]) c3
  obtain ⟨a4, b4⟩ := ansB_some (pg [plainP it]) _ (by rw [pg_ok _ (by simp)]; simp [plain_ok it ho]) c4
  refine ⟨⟨a1, a3, a2, a4⟩, ?_, ?_⟩
  · rw [b1, b2, b4]
    simp only [List.length_append]
    omega
  · rw [b2, b3, b4]
    simp only [List.length_append]
    omega
end Go.Proofs.YtdkgfgmmmjpkgaaGreatDoor

namespace Go.Proofs.YtdkgfgmmmjpkgaaGreatDoor
open Go.RowKit Go.Shelf

set_option maxHeartbeats 800000 in
set_option maxRecDepth 100000 in
theorem rFitsPt_calls (x y : Int) (w : World) : Calls Tryz.prog 99 #[.agg #[.int .i64 x, .int .i64 y]] w fun e w' => e = .returned (.bool (fit2 (x, y))) ∧ Below w.heap.size w w' := by
  have HQ := Lib.hid (show fit2 (x, y) = (fitsB x && fitsB y) from rfl)
  have HX := Lib.hid (fun W => rfits_calls x W)
  have HY := Lib.hid (fun W => rfits_calls y W)
  generalize fit2 (x, y) = Q at *
  generalize fitsB x = qx at *
  generalize fitsB y = qy at *
  go_enter Tryz.func99, Tryz.ntmps99
  go_wp2_with fail
  refine (HX.out _).mono ?_
  rintro e w1 ⟨rfl, rfl⟩
  cases qx with
  | false =>
    have HE := Lib.hid (show Q = false from by rw [HQ.out]; rfl)
    go_wp2_with fail
    go_ret
    exact ⟨ret_bool HE.out.symm, below_alloc w _⟩
  | true =>
    have HE := Lib.hid (show Q = qy from by rw [HQ.out]; rfl)
    go_wp2_with fail
    refine (HY.out _).mono ?_
    rintro e w2 ⟨rfl, rfl⟩
    go_wp2_with fail
    go_ret
    exact ⟨ret_bool HE.out.symm, below_alloc w _⟩
set_option maxHeartbeats 800000 in
set_option maxRecDepth 100000 in
theorem rSide_calls (n : Int) (w : World) : Calls Tryz.prog 24 #[.int .i64 n] w fun e w' => e = .returned (.bool (sideOk n)) ∧ w = w' := by
  have HQ := Lib.hid (sideOk_eq n)
  cases h1 : decide (65536 ≤ n) with
  | false =>
    have HE := Lib.hid (show sideOk n = false from by rw [HQ.out, h1]; rfl)
    go_enter Tryz.func24, Tryz.ntmps24
    go_wp2_with fail
    go_ret
    exact ⟨by rw [HE.out]; rfl, rfl⟩
  | true =>
    cases h2 : decide (n ≤ 943718400) with
    | false =>
      have HE := Lib.hid (show sideOk n = false from by rw [HQ.out, h1, h2]; rfl)
      go_enter Tryz.func24, Tryz.ntmps24
      go_wp2_with fail
      go_ret
      exact ⟨by rw [HE.out]; rfl, rfl⟩
    | true =>
      cases h3 : (n.tmod 65536 == 0) with
      | false =>
        have HE := Lib.hid (show sideOk n = false from by rw [HQ.out, h1, h2, h3]; rfl)
        go_enter Tryz.func24, Tryz.ntmps24
        go_wp2_with fail
        all_goals (
          go_ret
          exact ⟨by rw [HE.out]; rfl, rfl⟩)
      | true =>
        have HE := Lib.hid (show sideOk n = true from by rw [HQ.out, h1, h2, h3]; rfl)
        go_enter Tryz.func24, Tryz.ntmps24
        go_wp2_with fail
        all_goals (
          go_ret
          exact ⟨by rw [HE.out]; rfl, rfl⟩)
theorem eqInts_nil (d : List Int) : eqInts d [] = d.isEmpty := by cases d <;> rfl
theorem noPen_eq2 (p0 p1 p2 p3 p5 : Int) (d : List Int) : noPen ⟨p0, p1, p2, p3, d, p5⟩ = ((p0 == 0) && ((p1 == 0) && ((p2 == 0) && ((p3 == 0) && (eqInts d [] && (p5 == 0)))))) := by
  rw [eqInts_nil, noPen]
  simp only [Bool.and_assoc]
set_option maxHeartbeats 3200000 in
set_option maxRecDepth 100000 in
theorem samePen0_calls (p : PenP) (A : Option Addr) (c : Nat) (w : World) (h : IntsAt w A p.dash) (hlc : p.dash.length ≤ c) (hcm : c ≤ maxLen) :
    Calls Tryz.prog 53 #[.agg #[.int .i64 p.wd, .int .i64 p.cap, .int .i64 p.join, .int .i64 p.miter, .slice A p.dash.length c, .int .i64 p.phase], .agg #[.int .i64 0, .int .i64 0, .int .i64 0, .int .i64 0, .slice none 0 0, .int .i64 0]] w fun e w' => e = .returned (.bool (noPen p)) ∧ Below w.heap.size w w' := by
  obtain ⟨p0, p1, p2, p3, d, p5⟩ := p
  simp only at h hlc
  have HQ := Lib.hid (noPen_eq2 p0 p1 p2 p3 p5 d)
  have HB := Lib.hid (show Below w.heap.size w ((w.alloc (.cells #[.int .i64 p0, .int .i64 p1, .int .i64 p2, .int .i64 p3, .slice A d.length c, .int .i64 p5] 47)).alloc (.cells #[.int .i64 0, .int .i64 0, .int .i64 0, .int .i64 0, .slice none 0 0, .int .i64 0] 47)) from (below_alloc w _).trans ((below_alloc _ _).mono (by simp)))
  have HI : Hid (Calls Tryz.prog 14 #[.slice A d.length c, .slice none 0 0] ((w.alloc (.cells #[.int .i64 p0, .int .i64 p1, .int .i64 p2, .int .i64 p3, .slice A d.length c, .int .i64 p5] 47)).alloc (.cells #[.int .i64 0, .int .i64 0, .int .i64 0, .int .i64 0, .slice none 0 0, .int .i64 0] 47)) fun e w' => e = .returned (.bool (eqInts d [])) ∧ Below _ _ w') := rInts_calls d [] A none c 0 _ (h.keep HB.out) (.inl rfl) (by omega) (by decide)
  have HC5 : Hid (∀ W, Below ((w.alloc (.cells #[.int .i64 p0, .int .i64 p1, .int .i64 p2, .int .i64 p3, .slice A d.length c, .int .i64 p5] 47)).alloc (.cells #[.int .i64 0, .int .i64 0, .int .i64 0, .int .i64 0, .slice none 0 0, .int .i64 0] 47)).heap.size ((w.alloc (.cells #[.int .i64 p0, .int .i64 p1, .int .i64 p2, .int .i64 p3, .slice A d.length c, .int .i64 p5] 47)).alloc (.cells #[.int .i64 0, .int .i64 0, .int .i64 0, .int .i64 0, .slice none 0 0, .int .i64 0] 47)) W → W.cell? ⟨w.heap.size, 5, none⟩ = some (.int .i64 p5) ∧ W.cell? ⟨w.heap.size + 1, 5, none⟩ = some (.int .i64 0)) := fun W hW => by
    refine ⟨?_, ?_⟩
    · rw [hW.cell (by simp <;> omega), (below_alloc _ _).cell (by simp), Lib.cell_of_heap (heap_alloc_new w _)]
      rfl
    · rw [hW.cell (by simp <;> omega)]
      have := Lib.cell_of_heap (j := 5) (heap_alloc_new (w.alloc (.cells #[.int .i64 p0, .int .i64 p1, .int .i64 p2, .int .i64 p3, .slice A d.length c, .int .i64 p5] 47)) (.cells #[.int .i64 0, .int .i64 0, .int .i64 0, .int .i64 0, .slice none 0 0, .int .i64 0] 47))
      rw [World.size_alloc] at this
      rw [this]
      rfl
  clear h
  generalize noPen ⟨p0, p1, p2, p3, d, p5⟩ = Q at *
  generalize eqInts d [] = qi at *
  go_enter Tryz.func53, Tryz.ntmps53
  cases h0 : (p0 == 0) with
  | false =>
    have HE := Lib.hid (show Q = false from by rw [HQ.out, h0]; rfl)
    go_wp2_with fail
    go_ret
    exact ⟨ret_bool HE.out.symm, HB.out⟩
  | true =>
    cases h1 : (p1 == 0) with
    | false =>
      have HE := Lib.hid (show Q = false from by rw [HQ.out, h0, h1]; rfl)
      go_wp2_with fail
      go_ret
      exact ⟨ret_bool HE.out.symm, HB.out⟩
    | true =>
      cases h2 : (p2 == 0) with
      | false =>
        have HE := Lib.hid (show Q = false from by rw [HQ.out, h0, h1, h2]; rfl)
        go_wp2_with fail
        go_ret
        exact ⟨ret_bool HE.out.symm, HB.out⟩
      | true =>
        cases h3 : (p3 == 0) with
        | false =>
          have HE := Lib.hid (show Q = false from by rw [HQ.out, h0, h1, h2, h3]; rfl)
          go_wp2_with fail
          go_ret
          exact ⟨ret_bool HE.out.symm, HB.out⟩
        | true =>
          have HQ4 := Lib.hid (show Q = (qi && (p5 == 0)) from by rw [HQ.out, h0, h1, h2, h3]; rfl)
          go_wp2_with fail
          refine HI.out.mono ?_
          rintro e w1 ⟨rfl, b1⟩
          have B1 := Lib.hid (HB.out.trans (b1.mono HB.out.size))
          obtain ⟨y5, z5⟩ := HC5.out w1 b1
          clear b1 HI HC5
          cases qi with
          | false =>
            have HE := Lib.hid (show Q = false from by rw [HQ4.out]; rfl)
            go_wp2_with fail
            go_ret
            exact ⟨ret_bool HE.out.symm, B1.out⟩
          | true =>
            have HE := Lib.hid (show Q = (p5 == 0) from by rw [HQ4.out]; rfl)
            go_wp2_with fail
            go_ret
            exact ⟨ret_bool HE.out.symm, B1.out⟩
theorem dash_end2 (l : List Int) (h : dashR l = true) : dashOk l = (((l.length : Int) == 0) || l.any fun n => decide (0 < n)) := by
  rw [dashOk, show (l.all fun n => decide (0 ≤ n) && fitsB n) = true from h]
  have : l.isEmpty = ((l.length : Int) == 0) := by cases l <;> simp <;> omega
  rw [this]
  rfl
def someR (l : List Int) (i : Nat) : Bool := ((l.length : Int) == 0) || (l.take i).any fun n => decide (0 < n)
theorem someR_step (l : List Int) (i : Nat) (h : i < l.length) : someR l (i + 1) = (someR l i || decide (0 < l[i])) := by
  rw [someR, someR, List.take_add_one, List.getElem?_eq_getElem h, List.any_append, Bool.or_assoc]
  simp

set_option maxHeartbeats 6400000 in
set_option maxRecDepth 100000 in
theorem rPen_calls (p : PenP) (A : Option Addr) (c : Nat) (w : World) (h : IntsAt w A p.dash) (_hlc : p.dash.length ≤ c) (_hcm : c ≤ maxLen) :
    Calls Tryz.prog 55 #[.agg (penA p A c)] w fun e w' => e = .returned (.bool (penOk p)) ∧ Below w.heap.size w w' := by
  obtain ⟨wd, cap, join, miter, d, phase⟩ := p
  have HQ := Lib.hid (penOk_eq wd cap join miter phase d)
  simp only at h
  have HD := Lib.hid h
  have HDB := Lib.hid (dash_bad d)
  have HDE := Lib.hid (dash_end2 d)
  have HST := Lib.hid (someR_step d)
  have HS0 := Lib.hid (show someR d 0 = ((d.length : Int) == 0) from by rw [someR]; simp)
  have HSL := Lib.hid (show someR d d.length = (((d.length : Int) == 0) || d.any fun n => decide (0 < n)) from by rw [someR, List.take_length])
  have HRS := Lib.hid (dashR_step d)
  unfold penA
  simp only
  generalize penOk ⟨wd, cap, join, miter, d, phase⟩ = Q at *
  clear h
  have HF := Lib.hid (fun n W => rfits_calls n W)
  go_enter Tryz.func55, Tryz.ntmps55
  cases h0 : decide (wd < 0) with
  | true =>
    have HE := Lib.hid (show Q = false from by rw [HQ.out, decide_eq_false (show ¬ 0 ≤ wd from by have := of_decide_eq_true h0; omega)]; rfl)
    go_wp2_with fail
    go_ret
    exact ⟨ret_bool HE.out.symm, below_alloc w _⟩
  | false =>
    have HQ1 := Lib.hid (show Q = (fitsB wd && (decide (0 ≤ cap) && (decide (cap ≤ 2) && (decide (0 ≤ join) && (decide (join ≤ 2) && (decide (65536 ≤ miter) && (fitsB miter && (decide (0 ≤ phase) && (fitsB phase && (decide (d.length ≤ 11) && dashOk d)))))))))) from by rw [HQ.out, decide_eq_true (show 0 ≤ wd from by have := of_decide_eq_false h0; omega)]; rfl)
    clear HQ
    go_wp2_with fail
    refine (HF.out wd _).mono ?_
    rintro e w1 ⟨rfl, rfl⟩
    generalize fitsB wd = f1 at *
    cases f1 with
    | false =>
      have HE := Lib.hid (show Q = false from by rw [HQ1.out]; rfl)
      go_wp2_with fail
      go_ret
      exact ⟨ret_bool HE.out.symm, below_alloc w _⟩
    | true =>
      have HQ2 := Lib.hid (show Q = (decide (0 ≤ cap) && (decide (cap ≤ 2) && (decide (0 ≤ join) && (decide (join ≤ 2) && (decide (65536 ≤ miter) && (fitsB miter && (decide (0 ≤ phase) && (fitsB phase && (decide (d.length ≤ 11) && dashOk d))))))))) from by rw [HQ1.out]; rfl)
      clear HQ1
      cases h2 : decide (cap < 0) with
      | true =>
        have HE := Lib.hid (show Q = false from by rw [HQ2.out, decide_eq_false (show ¬ 0 ≤ cap from by have := of_decide_eq_true h2; omega)]; rfl)
        go_wp2_with fail
        go_ret
        exact ⟨ret_bool HE.out.symm, below_alloc w _⟩
      | false =>
        have HQ3 := Lib.hid (show Q = (decide (cap ≤ 2) && (decide (0 ≤ join) && (decide (join ≤ 2) && (decide (65536 ≤ miter) && (fitsB miter && (decide (0 ≤ phase) && (fitsB phase && (decide (d.length ≤ 11) && dashOk d)))))))) from by rw [HQ2.out, decide_eq_true (show 0 ≤ cap from by have := of_decide_eq_false h2; omega)]; rfl)
        clear HQ2
        cases h3 : decide (2 < cap) with
        | true =>
          have HE := Lib.hid (show Q = false from by rw [HQ3.out, decide_eq_false (show ¬ cap ≤ 2 from by have := of_decide_eq_true h3; omega)]; rfl)
          go_wp2_with fail
          go_ret
          exact ⟨ret_bool HE.out.symm, below_alloc w _⟩
        | false =>
          have HQ4 := Lib.hid (show Q = (decide (0 ≤ join) && (decide (join ≤ 2) && (decide (65536 ≤ miter) && (fitsB miter && (decide (0 ≤ phase) && (fitsB phase && (decide (d.length ≤ 11) && dashOk d))))))) from by rw [HQ3.out, decide_eq_true (show cap ≤ 2 from by have := of_decide_eq_false h3; omega)]; rfl)
          clear HQ3
          cases h4 : decide (join < 0) with
          | true =>
            have HE := Lib.hid (show Q = false from by rw [HQ4.out, decide_eq_false (show ¬ 0 ≤ join from by have := of_decide_eq_true h4; omega)]; rfl)
            go_wp2_with fail
            go_ret
            exact ⟨ret_bool HE.out.symm, below_alloc w _⟩
          | false =>
            have HQ5 := Lib.hid (show Q = (decide (join ≤ 2) && (decide (65536 ≤ miter) && (fitsB miter && (decide (0 ≤ phase) && (fitsB phase && (decide (d.length ≤ 11) && dashOk d)))))) from by rw [HQ4.out, decide_eq_true (show 0 ≤ join from by have := of_decide_eq_false h4; omega)]; rfl)
            clear HQ4
            cases h5 : decide (2 < join) with
            | true =>
              have HE := Lib.hid (show Q = false from by rw [HQ5.out, decide_eq_false (show ¬ join ≤ 2 from by have := of_decide_eq_true h5; omega)]; rfl)
              go_wp2_with fail
              go_ret
              exact ⟨ret_bool HE.out.symm, below_alloc w _⟩
            | false =>
              have HQ6 := Lib.hid (show Q = (decide (65536 ≤ miter) && (fitsB miter && (decide (0 ≤ phase) && (fitsB phase && (decide (d.length ≤ 11) && dashOk d))))) from by rw [HQ5.out, decide_eq_true (show join ≤ 2 from by have := of_decide_eq_false h5; omega)]; rfl)
              clear HQ5
              cases h6 : decide (miter < 65536) with
              | true =>
                have HE := Lib.hid (show Q = false from by rw [HQ6.out, decide_eq_false (show ¬ 65536 ≤ miter from by have := of_decide_eq_true h6; omega)]; rfl)
                go_wp2_with fail
                go_ret
                exact ⟨ret_bool HE.out.symm, below_alloc w _⟩
              | false =>
                have HQ7 := Lib.hid (show Q = (fitsB miter && (decide (0 ≤ phase) && (fitsB phase && (decide (d.length ≤ 11) && dashOk d)))) from by rw [HQ6.out, decide_eq_true (show 65536 ≤ miter from by have := of_decide_eq_false h6; omega)]; rfl)
                clear HQ6
                go_wp2_with fail
                refine (HF.out miter _).mono ?_
                rintro e w7 ⟨rfl, rfl⟩
                generalize fitsB miter = f7 at *
                cases f7 with
                | false =>
                  have HE := Lib.hid (show Q = false from by rw [HQ7.out]; rfl)
                  go_wp2_with fail
                  go_ret
                  exact ⟨ret_bool HE.out.symm, below_alloc w _⟩
                | true =>
                  have HQ8 := Lib.hid (show Q = (decide (0 ≤ phase) && (fitsB phase && (decide (d.length ≤ 11) && dashOk d))) from by rw [HQ7.out]; rfl)
                  clear HQ7
                  cases h8 : decide (phase < 0) with
                  | true =>
                    have HE := Lib.hid (show Q = false from by rw [HQ8.out, decide_eq_false (show ¬ 0 ≤ phase from by have := of_decide_eq_true h8; omega)]; rfl)
                    go_wp2_with fail
                    go_ret
                    exact ⟨ret_bool HE.out.symm, below_alloc w _⟩
                  | false =>
                    have HQ9 := Lib.hid (show Q = (fitsB phase && (decide (d.length ≤ 11) && dashOk d)) from by rw [HQ8.out, decide_eq_true (show 0 ≤ phase from by have := of_decide_eq_false h8; omega)]; rfl)
                    clear HQ8
                    go_wp2_with fail
                    refine (HF.out phase _).mono ?_
                    rintro e w9 ⟨rfl, rfl⟩
                    generalize fitsB phase = f9 at *
                    cases f9 with
                    | false =>
                      have HE := Lib.hid (show Q = false from by rw [HQ9.out]; rfl)
                      go_wp2_with fail
                      go_ret
                      exact ⟨ret_bool HE.out.symm, below_alloc w _⟩
                    | true =>
                      have HQ10 := Lib.hid (show Q = (decide (d.length ≤ 11) && dashOk d) from by rw [HQ9.out]; rfl)
                      clear HQ9
                      cases h10 : decide ((11 : Int) < (d.length : Int)) with
                      | true =>
                        have HE := Lib.hid (show Q = false from by rw [HQ10.out, decide_eq_false (show ¬ d.length ≤ 11 from by have := of_decide_eq_true h10; omega)]; rfl)
                        go_wp2_with fail
                        go_ret
                        exact ⟨ret_bool HE.out.symm, below_alloc w _⟩
                      | false =>
                        have HQZ := Lib.hid (show Q = dashOk d from by rw [HQ10.out, decide_eq_true (show d.length ≤ 11 from by have := of_decide_eq_false h10; omega)]; rfl)
                        have hd11 : d.length ≤ 11 := by have := of_decide_eq_false h10; omega
                        go_wp2_with fail
                        clear h0 h2 h3 h4 h5 h6 h8 h10
                        have HD1 := Lib.hid (HD.out.keep (below_alloc w (.cells #[.int .i64 wd, .int .i64 cap, .int .i64 join, .int .i64 miter, .slice A d.length c, .int .i64 phase] 47)))
                        go_loop [3, 4] (fun v3 v => ∃ (i : Nat) (q : Bool), i ≤ d.length ∧ v = .int .i64 i ∧ v3 = .bool q ∧ Hid (someR d i = q) ∧ Hid (dashR (d.take i) = true)) (fun _ v => d.length - (intOf v).toNat)
                        case atStart => exact ⟨0, _, Nat.zero_le _, rfl, rfl, HS0, rfl⟩
                        case round =>
                          obtain ⟨i, q, hi, rfl, rfl, hq, hR⟩ := hrel
                          by_cases hlt : i < d.length
                          · obtain ⟨b, off, rfl, hcell⟩ := HD1.out.elem i hlt
                            have hst := HST.out i hlt
                            have hbad := HDB.out i hlt
                            have hstep := HRS.out i hlt hR.out
                            generalize d[i] = n at *
                            rw [hq.out] at hst
                            have HST2 := Lib.hid hst
                            have HBAD := Lib.hid hbad
                            have HSTEP := Lib.hid hstep
                            clear hst hbad hstep
                            cases hn : decide (n < 0) with
                            | true =>
                              have HE := Lib.hid (show Q = false from by rw [HQZ.out, HBAD.out (by rw [decide_eq_false (show ¬ 0 ≤ n from by have := of_decide_eq_true hn; omega)]; rfl)])
                              go_wp2_with fail
                              go_ret
                              exact ⟨ret_bool HE.out.symm, below_alloc w _⟩
                            | false =>
                              have hn0 : 0 ≤ n := by have := of_decide_eq_false hn; omega
                              go_wp2_with fail
                              refine (HF.out n _).mono ?_
                              rintro e w9 ⟨rfl, rfl⟩
                              generalize fitsB n = fn at *
                              cases fn with
                              | false =>
                                have HE := Lib.hid (show Q = false from by rw [HQZ.out, HBAD.out (by rw [Bool.and_false])])
                                go_wp2_with fail
                                go_ret
                                exact ⟨ret_bool HE.out.symm, below_alloc w _⟩
                              | true =>
                                have HR2 : Hid (dashR (d.take (i + 1)) = true) := HSTEP.out (by rw [decide_eq_true hn0]; rfl)
                                clear hn0
                                cases q with
                                | true =>
                                  have HS2 : Hid (someR d (i + 1) = true) := by
                                    show _ = _
                                    rw [HST2.out]
                                    rfl
                                  go_wp2_with fail
                                  go_round
                                  case rel => exact ⟨i + 1, true, by omega, by go_num, rfl, HS2, HR2⟩
                                  case measure => simp [intOf]; omega
                                | false =>
                                  have HS2 : Hid (someR d (i + 1) = decide (0 < n)) := by
                                    show _ = _
                                    rw [HST2.out]
                                    rfl
                                  go_wp2_with fail
                                  go_round
                                  case rel => exact ⟨i + 1, _, by omega, by go_num, rfl, HS2, HR2⟩
                                  case measure => simp [intOf]; omega
                          · obtain rfl : i = d.length := by omega
                            rw [List.take_length] at hR
                            have HE := Lib.hid (show Q = q from by rw [HQZ.out, HDE.out hR.out, ← HSL.out, hq.out])
                            go_wp2_with fail
                            go_ret
                            exact ⟨ret_bool HE.out.symm, below_alloc w _⟩
end Go.Proofs.YtdkgfgmmmjpkgaaGreatDoor

namespace Go.Proofs.YtdkgfgmmmjpkgaaGreatDoor
open Go.RowKit Go.Shelf

def ptOk (n k : Nat) (p : Int × Int) : Bool := fit2 p && (decide (k < n) || zero2 p)
def ptR (n : Nat) (s : SegP) : Nat → Bool
  | 0 => ptOk n 0 (s.x0, s.y0) && (ptOk n 1 (s.x1, s.y1) && ptOk n 2 (s.x2, s.y2))
  | 1 => ptOk n 1 (s.x1, s.y1) && ptOk n 2 (s.x2, s.y2)
  | 2 => ptOk n 2 (s.x2, s.y2)
  | _ => true
theorem segOk_n (last : Int) (s : SegP) (n : Nat) (hn : nPts s.k = n) (h3 : n = 0 ∨ n = 1 ∨ n = 3) : segOk last s = (ptR n s 0 && followsB s.k last) := by
  rw [segOk, hn]
  simp only [pts, ptR, ptOk, List.all_cons, List.all_nil, Int.toNat_natCast]
  have h0 : decide ((0 : Int) ≤ (n : Int)) = true := decide_eq_true (by omega)
  rw [h0]
  generalize followsB s.k last = f
  generalize fit2 (s.x0, s.y0) = a0
  generalize fit2 (s.x1, s.y1) = a1
  generalize fit2 (s.x2, s.y2) = a2
  rcases h3 with rfl | rfl | rfl
  · simp only [List.drop_zero, List.all_cons, List.all_nil, Nat.not_lt_zero, decide_false, Bool.false_or]
    generalize zero2 (s.x0, s.y0) = b0
    generalize zero2 (s.x1, s.y1) = b1
    generalize zero2 (s.x2, s.y2) = b2
    cases f <;> cases a0 <;> cases a1 <;> cases a2 <;> cases b0 <;> cases b1 <;> cases b2 <;> rfl
  · simp only [List.drop_succ_cons, List.drop_zero, List.all_cons, List.all_nil]
    generalize zero2 (s.x1, s.y1) = b1
    generalize zero2 (s.x2, s.y2) = b2
    cases f <;> cases a0 <;> cases a1 <;> cases a2 <;> cases b1 <;> cases b2 <;> rfl
  · simp only [List.drop_succ_cons, List.drop_nil, List.all_nil]
    cases f <;> cases a0 <;> cases a1 <;> cases a2 <;> rfl
theorem segOk_bad (last : Int) (s : SegP) (h : nPts s.k = -1) : segOk last s = false := by rw [segOk, h]; rfl

set_option maxHeartbeats 12800000 in
set_option maxRecDepth 100000 in
theorem rPath_calls (l : List SegP) (A : Option Addr) (c : Nat) (w : World) (h : PathAt w A l) (_hlc : l.length ≤ c) (_hcm : c ≤ maxLen) :
    Calls Tryz.prog 52 #[.slice A l.length c] w fun e w' => e = .returned (.bool (pathOk l)) ∧ Below w.heap.size w w' := by
  have HP := Lib.hid h
  have HQ := Lib.hid (show pathOk l = (decide (l.length ≤ 4096) && segsOk 0 l) from rfl)
  have HB0 := Lib.hid (Below.refl w.heap.size w)
  generalize hR : pathOk l = R at *
  clear h hR
  by_cases hbig : 4096 < l.length
  · have q1 : decide ((4096 : Int) < (l.length : Int)) = true := decide_eq_true (by omega)
    have HE := Lib.hid (show R = false from by rw [HQ.out, decide_eq_false (by omega)]; rfl)
    clear hbig
    go_enter Tryz.func52, Tryz.ntmps52
    go_wp2_with fail
    go_ret
    exact ⟨ret_bool HE.out.symm, Below.refl _ _⟩
  have q1 : decide ((4096 : Int) < (l.length : Int)) = false := decide_eq_false (by omega)
  have HE0 : Hid (R = segsOk 0 (l.drop 0)) := by
    show _ = _
    rw [HQ.out, decide_eq_true (by omega)]
    rfl
  clear HQ
  go_enter Tryz.func52, Tryz.ntmps52
  go_wp2_with fail
  clear q1
  go_loopw [3, 4, 5, 6, 7] (fun v3 _ _ _ _ wr => ∃ (i : Nat) (last : Int), i ≤ l.length ∧ v3 = .int .i64 i ∧ Hid ((i = 0 ∧ last = 0) ∨ ∃ (m : Nat) (hm : m < l.length), i = m + 1 ∧ last = l[m].k) ∧ Hid (R = segsOk last (l.drop i)) ∧ Hid (Below w.heap.size w wr)) (fun v _ _ _ _ _ => l.length - (intOf v).toNat)
  case atStart => exact ⟨0, 0, Nat.zero_le _, rfl, .inl ⟨rfl, rfl⟩, HE0, HB0⟩
  case round =>
    clear HE0 HB0
    obtain ⟨i, last, hi, rfl, hL, hE, hB⟩ := hrel
    by_cases hlt : i < l.length
    rotate_left
    · obtain rfl : i = l.length := by omega
      have HE := Lib.hid (show R = true from by rw [hE.out, List.drop_of_length_le (Nat.le_refl _)]; rfl)
      go_wp2_with fail
      go_ret
      exact ⟨ret_bool HE.out.symm, hB.out⟩
    obtain ⟨b, off, hA, hcell⟩ := PathAt.elem (HP.out.keep hB.out) i hlt
    subst hA
    have HL1 := Lib.hid (show ∀ W, Below wr.heap.size wr W → ∀ m (hm : m < l.length), W.cell? ⟨b, off + m * 7, none⟩ = some (.int .i64 l[m].k) from fun W hW m hm => by
      obtain ⟨b2, off2, h1, h2⟩ := PathAt.elem ((HP.out.keep hB.out).keep hW) m hm
      obtain ⟨rfl, rfl⟩ : b = b2 ∧ off = off2 := by simpa using h1
      exact h2 0 _ rfl)
    have HNX : Hid ((i + 1 = 0 ∧ l[i].k = 0) ∨ ∃ (m : Nat) (hm : m < l.length), i + 1 = m + 1 ∧ l[i].k = l[m].k) := .inr ⟨i, hlt, rfl, rfl⟩
    have hst : R = (segOk last l[i] && segsOk l[i].k (l.drop (i + 1))) := by rw [hE.out]; exact segsOk_step last l i hlt
    generalize l[i] = s at *
    have HST := Lib.hid hst
    have HRG := Lib.hid (show wr.rangeAt b (off + i * 7) (segC s).toList from fun j u hj => hcell j u (by rw [← hj]; exact Array.getElem?_toList.symm))
    have HXI := Lib.hid (show (Tryz.prog.info? 57).map (·.size) = some (segC s).toList.length from by rw [Array.length_toList, (segC_ok s).1]; kernel_rfl)
    have HXJ := Lib.hid (show (Tryz.prog.info? 57).map (·.size) = some (segC s).size from by rw [(segC_ok s).1]; kernel_rfl)
    have HX1 := Lib.hid (segC_ok s).2
    have HCE := Lib.hid (show ∀ W, Below (wr.heap.size + 1) (wr.alloc (.cells (segC s) 57)) W → ∀ j v, (segC s)[j]? = some v → W.cell? ⟨wr.heap.size, j, none⟩ = some v from fun W hW j v hj => by
      rw [hW.cell (by simp), Lib.cell_of_heap (heap_alloc_new wr _)]
      exact hj)
    have HC := Lib.hid (show ∀ W, Below (wr.heap.size + 1) (wr.alloc (.cells (segC s) 57)) W → W.cell? ⟨wr.heap.size, 0, none⟩ = some (.int .i64 s.k) ∧ (W.cell? ⟨wr.heap.size, 1, none⟩ = some (.int .i64 s.x0) ∧ W.cell? ⟨wr.heap.size, 2, none⟩ = some (.int .i64 s.y0)) ∧ (W.cell? ⟨wr.heap.size, 3, none⟩ = some (.int .i64 s.x1) ∧ W.cell? ⟨wr.heap.size, 4, none⟩ = some (.int .i64 s.y1)) ∧ (W.cell? ⟨wr.heap.size, 5, none⟩ = some (.int .i64 s.x2) ∧ W.cell? ⟨wr.heap.size, 6, none⟩ = some (.int .i64 s.y2)) from fun W hW => ⟨HCE.out W hW 0 _ rfl, ⟨HCE.out W hW 1 _ rfl, HCE.out W hW 2 _ rfl⟩, ⟨HCE.out W hW 3 _ rfl, HCE.out W hW 4 _ rfl⟩, ⟨HCE.out W hW 5 _ rfl, HCE.out W hW 6 _ rfl⟩⟩)
    have HBW := Lib.hid (show ∀ W, Below (wr.heap.size + 1) (wr.alloc (.cells (segC s) 57)) W → Below w.heap.size w W from fun W hW => (hB.out.trans ((below_alloc wr _).mono hB.out.size)).trans (hW.mono (by have := hB.out.size; omega)))
    have HBR := Lib.hid (show ∀ W, Below (wr.heap.size + 1) (wr.alloc (.cells (segC s) 57)) W → Below wr.heap.size wr W from fun W hW => (below_alloc wr _).trans (hW.mono (by omega)))
    have HBS := Lib.hid (show ∀ W, Below (wr.heap.size + 1) (wr.alloc (.cells (segC s) 57)) W → wr.heap.size + 1 ≤ W.heap.size from fun W hW => by have := hW.size; simp only [World.size_alloc] at this; exact this)
    have HB1 := Lib.hid (Below.refl (wr.heap.size + 1) (wr.alloc (.cells (segC s) 57)))
    have HSN := Lib.hid (segOk_n last s)
    have HSB := Lib.hid (segOk_bad last s)
    have HFO := Lib.hid (show followsB s.k last = if s.k == 1 then last != 1 else last != 0 && last != 4 from rfl)
    obtain ⟨X, hX⟩ : ∃ X, X = segC s := ⟨_, rfl⟩
    rw [← hX] at HRG HXI HXJ HX1 HC HBW HBR HBS HB1 HCE
    have HXS := Lib.hid (show #[Value.int .i64 0, .int .i64 0, .int .i64 0, .int .i64 0, .int .i64 0, .int .i64 0, .int .i64 0].size = X.size from by rw [hX]; rfl)
    have c0 := (HC.out _ HB1.out).1
    have HNP := Lib.hid (show nPts s.k = if s.k == 1 || s.k == 2 then 1 else if s.k == 3 then 3 else if s.k == 4 then 0 else -1 from rfl)
    obtain ⟨x0, hx0⟩ : ∃ x, x = s.x0 := ⟨_, rfl⟩
    clear hcell hst hX hE x0 hx0
    generalize hwr : wr = wo at *
    clear hwr
    cases h1 : (s.k == 1) with
    | true =>
      have HN := Lib.hid (show nPts s.k = ((1 : Nat) : Int) from by rw [HNP.out, h1]; rfl)
      have HQ0 : Hid (R = (ptR 1 s 0 && (followsB s.k last && segsOk s.k (l.drop (i + 1))))) := by
        show _ = _
        rw [HST.out, HSN.out 1 HN.out (by omega), Bool.and_assoc]
      clear HST HSN HSB HNP HN
      go_wp2_with (first
        | (refine wpList_load_mid rfl 57 _ rfl b (off + i * 7) rfl X.toList _ HRG.out Tryz.underlying57 rfl HXI.out ?_; simp only [Array.toArray_toList])
        | (refine wpList_store_new rfl 57 _ _ rfl _ X rfl rfl HXJ.out HXS.out HX1.out ?_))
      clear c0
      go_loopw [6] (fun v6 wi => ∃ k : Nat, k ≤ 3 ∧ v6 = .int .i64 k ∧ Hid (R = (ptR 1 s k && (followsB s.k last && segsOk s.k (l.drop (i + 1))))) ∧ Hid (Below (wo.heap.size + 1) (wo.alloc (.cells X 57)) wi)) (fun v _ => 3 - (intOf v).toNat)
      case atStart => exact ⟨0, by omega, rfl, HQ0, HB1⟩
      case round =>
        clear HQ0 HB1
        obtain ⟨k, hk, rfl, hK, hBi⟩ := hrel
        have hcs := HC.out _ hBi.out
        obtain ⟨c0, ⟨c1, c2⟩, ⟨c3, c4⟩, ⟨c5, c6⟩⟩ := hcs
        match k, hk with
        | 0, _ =>
          have HS := Lib.hid (show R = ((fit2 (s.x0, s.y0) && (decide (0 < 1) || zero2 (s.x0, s.y0))) && (ptR 1 s 1 && (followsB s.k last && segsOk s.k (l.drop (i + 1))))) from hK.out.trans (Bool.and_assoc (ptOk 1 0 (s.x0, s.y0)) (ptR 1 s 1) _))
          have HZ := Lib.hid (show zero2 (s.x0, s.y0) = (s.x0 == 0 && s.y0 == 0) from rfl)
          clear hK
          go_wp2_with fail
          refine (rFitsPt_calls s.x0 s.y0 _).mono ?_
          rintro e w3 ⟨rfl, b3⟩
          have B3 := Lib.hid (hBi.out.trans (b3.mono (HBS.out _ hBi.out)))
          clear b3 c0 c1 c2 c3 c4 c5 c6
          have hcs := HC.out _ B3.out
          obtain ⟨c0, ⟨c1, c2⟩, ⟨c3, c4⟩, ⟨c5, c6⟩⟩ := hcs
          generalize fit2 (s.x0, s.y0) = qf at *
          cases qf with
          | false =>
            have HE := Lib.hid (show R = false from by rw [HS.out]; rfl)
            go_wp2_with fail
            go_ret
            exact ⟨ret_bool HE.out.symm, HBW.out _ B3.out⟩
          | true =>
            have HN : Hid (R = (ptR 1 s 1 && (followsB s.k last && segsOk s.k (l.drop (i + 1))))) := by
              show _ = _
              rw [HS.out]
              rfl
            go_wp2_with fail
            go_roundw
            case rel => exact ⟨1, by omega, by go_num, HN, B3⟩
            case measure => simp [intOf]
        | 1, _ =>
          have HS := Lib.hid (show R = ((fit2 (s.x1, s.y1) && (decide (1 < 1) || zero2 (s.x1, s.y1))) && (ptR 1 s 2 && (followsB s.k last && segsOk s.k (l.drop (i + 1))))) from hK.out.trans (Bool.and_assoc (ptOk 1 1 (s.x1, s.y1)) (ptR 1 s 2) _))
          have HZ := Lib.hid (show zero2 (s.x1, s.y1) = (s.x1 == 0 && s.y1 == 0) from rfl)
          clear hK
          go_wp2_with fail
          refine (rFitsPt_calls s.x1 s.y1 _).mono ?_
          rintro e w3 ⟨rfl, b3⟩
          have B3 := Lib.hid (hBi.out.trans (b3.mono (HBS.out _ hBi.out)))
          clear b3 c0 c1 c2 c3 c4 c5 c6
          have hcs := HC.out _ B3.out
          obtain ⟨c0, ⟨c1, c2⟩, ⟨c3, c4⟩, ⟨c5, c6⟩⟩ := hcs
          generalize fit2 (s.x1, s.y1) = qf at *
          cases qf with
          | false =>
            have HE := Lib.hid (show R = false from by rw [HS.out]; rfl)
            go_wp2_with fail
            go_ret
            exact ⟨ret_bool HE.out.symm, HBW.out _ B3.out⟩
          | true =>
            cases hx : (s.x1 != 0) with
            | true =>
              have HE := Lib.hid (show R = false from by rw [HS.out, HZ.out, beq_eq_false_iff_ne.2 (bne_iff_ne.1 hx)]; rfl)
              go_wp2_with fail
              go_ret
              exact ⟨ret_bool HE.out.symm, HBW.out _ B3.out⟩
            | false =>
              have hx' : (s.x1 == 0) = true := by rw [bne, Bool.not_eq_false'] at hx; exact hx
              have HZ2 := Lib.hid (show zero2 (s.x1, s.y1) = (s.y1 == 0) from by rw [HZ.out, hx']; rfl)
              clear hx' HZ
              cases hy : (s.y1 != 0) with
              | true =>
                have HE := Lib.hid (show R = false from by rw [HS.out, HZ2.out, beq_eq_false_iff_ne.2 (bne_iff_ne.1 hy)]; rfl)
                go_wp2_with fail
                go_ret
                exact ⟨ret_bool HE.out.symm, HBW.out _ B3.out⟩
              | false =>
                have hy' : (s.y1 == 0) = true := by rw [bne, Bool.not_eq_false'] at hy; exact hy
                have HN : Hid (R = (ptR 1 s 2 && (followsB s.k last && segsOk s.k (l.drop (i + 1))))) := by
                  show _ = _
                  rw [HS.out, HZ2.out, hy']
                  rfl
                clear hy'
                go_wp2_with fail
                go_roundw
                case rel => exact ⟨2, by omega, by go_num, HN, B3⟩
                case measure => simp [intOf]
        | 2, _ =>
          have HS := Lib.hid (show R = ((fit2 (s.x2, s.y2) && (decide (2 < 1) || zero2 (s.x2, s.y2))) && (ptR 1 s 3 && (followsB s.k last && segsOk s.k (l.drop (i + 1))))) from hK.out)
          have HZ := Lib.hid (show zero2 (s.x2, s.y2) = (s.x2 == 0 && s.y2 == 0) from rfl)
          clear hK
          go_wp2_with fail
          refine (rFitsPt_calls s.x2 s.y2 _).mono ?_
          rintro e w3 ⟨rfl, b3⟩
          have B3 := Lib.hid (hBi.out.trans (b3.mono (HBS.out _ hBi.out)))
          clear b3 c0 c1 c2 c3 c4 c5 c6
          have hcs := HC.out _ B3.out
          obtain ⟨c0, ⟨c1, c2⟩, ⟨c3, c4⟩, ⟨c5, c6⟩⟩ := hcs
          generalize fit2 (s.x2, s.y2) = qf at *
          cases qf with
          | false =>
            have HE := Lib.hid (show R = false from by rw [HS.out]; rfl)
            go_wp2_with fail
            go_ret
            exact ⟨ret_bool HE.out.symm, HBW.out _ B3.out⟩
          | true =>
            cases hx : (s.x2 != 0) with
            | true =>
              have HE := Lib.hid (show R = false from by rw [HS.out, HZ.out, beq_eq_false_iff_ne.2 (bne_iff_ne.1 hx)]; rfl)
              go_wp2_with fail
              go_ret
              exact ⟨ret_bool HE.out.symm, HBW.out _ B3.out⟩
            | false =>
              have hx' : (s.x2 == 0) = true := by rw [bne, Bool.not_eq_false'] at hx; exact hx
              have HZ2 := Lib.hid (show zero2 (s.x2, s.y2) = (s.y2 == 0) from by rw [HZ.out, hx']; rfl)
              clear hx' HZ
              cases hy : (s.y2 != 0) with
              | true =>
                have HE := Lib.hid (show R = false from by rw [HS.out, HZ2.out, beq_eq_false_iff_ne.2 (bne_iff_ne.1 hy)]; rfl)
                go_wp2_with fail
                go_ret
                exact ⟨ret_bool HE.out.symm, HBW.out _ B3.out⟩
              | false =>
                have hy' : (s.y2 == 0) = true := by rw [bne, Bool.not_eq_false'] at hy; exact hy
                have HN : Hid (R = (ptR 1 s 3 && (followsB s.k last && segsOk s.k (l.drop (i + 1))))) := by
                  show _ = _
                  rw [HS.out, HZ2.out, hy']
                  rfl
                clear hy'
                go_wp2_with fail
                go_roundw
                case rel => exact ⟨3, by omega, by go_num, HN, B3⟩
                case measure => simp [intOf]
        | 3, _ =>
          have HS := Lib.hid (show R = (followsB s.k last && segsOk s.k (l.drop (i + 1))) from by rw [hK.out]; rfl)
          have BR := Lib.hid (HBR.out _ hBi.out)
          clear hK c1 c2 c3 c4 c5 c6
          go_upto_if 62 with fail
          go_cut [7] (fun s7 wx => s7 = .int .i64 last ∧ Hid (Below (wo.heap.size + 1) (wo.alloc (.cells X 57)) wx))
          case first =>
            rcases hL.out with ⟨hi0, hla⟩ | ⟨m, hm, him, hla⟩
            · subst hi0 hla
              go_wp2_with fail
              go_meet
              exact ⟨rfl, hBi⟩
            · have hcm2 := HL1.out _ BR.out m hm
              rw [← hla] at hcm2
              clear hla
              subst him
              have hm2 : (m : Int) < (l.length : Int) := by omega
              go_wp2_with fail
              go_meet
              exact ⟨rfl, hBi⟩
          case rest =>
            clear hBi c0 BR
            obtain ⟨rfl, hBi⟩ := hcut
            have c0 := (HC.out _ hBi.out).1
            have hfin := Lib.hid (HBW.out _ hBi.out)
            have k1 : (s.k != 1) = false := by rw [bne, h1]; rfl
            have HF := Lib.hid (show followsB s.k last = (last != 1) from by rw [HFO.out, h1]; rfl)
            cases hz : (last == 1) with
            | true =>
              have HE := Lib.hid (show R = false from by rw [HS.out, HF.out, bne, hz]; rfl)
              go_wp2_with fail
              go_ret
              exact ⟨ret_bool HE.out.symm, hfin.out⟩
            | false =>
              have HE : Hid (R = segsOk s.k (l.drop (i + 1))) := by
                show _ = _
                rw [HS.out, HF.out, bne, hz]
                rfl
              go_wp2_with fail
              go_roundw
              case rel => exact ⟨i + 1, s.k, by omega, by go_num, HNX, HE, hfin⟩
              case measure => simp [intOf]; omega
        | n + 4, hn => exact absurd hn (by omega)
    | false =>
      cases h2 : (s.k == 2) with
      | true =>
        have HN := Lib.hid (show nPts s.k = ((1 : Nat) : Int) from by rw [HNP.out, h1, h2]; rfl)
        have HQ0 : Hid (R = (ptR 1 s 0 && (followsB s.k last && segsOk s.k (l.drop (i + 1))))) := by
          show _ = _
          rw [HST.out, HSN.out 1 HN.out (by omega), Bool.and_assoc]
        clear HST HSN HSB HNP HN
        go_wp2_with (first
          | (refine wpList_load_mid rfl 57 _ rfl b (off + i * 7) rfl X.toList _ HRG.out Tryz.underlying57 rfl HXI.out ?_; simp only [Array.toArray_toList])
          | (refine wpList_store_new rfl 57 _ _ rfl _ X rfl rfl HXJ.out HXS.out HX1.out ?_))
        clear c0
        go_loopw [6] (fun v6 wi => ∃ k : Nat, k ≤ 3 ∧ v6 = .int .i64 k ∧ Hid (R = (ptR 1 s k && (followsB s.k last && segsOk s.k (l.drop (i + 1))))) ∧ Hid (Below (wo.heap.size + 1) (wo.alloc (.cells X 57)) wi)) (fun v _ => 3 - (intOf v).toNat)
        case atStart => exact ⟨0, by omega, rfl, HQ0, HB1⟩
        case round =>
          clear HQ0 HB1
          obtain ⟨k, hk, rfl, hK, hBi⟩ := hrel
          have hcs := HC.out _ hBi.out
          obtain ⟨c0, ⟨c1, c2⟩, ⟨c3, c4⟩, ⟨c5, c6⟩⟩ := hcs
          match k, hk with
          | 0, _ =>
            have HS := Lib.hid (show R = ((fit2 (s.x0, s.y0) && (decide (0 < 1) || zero2 (s.x0, s.y0))) && (ptR 1 s 1 && (followsB s.k last && segsOk s.k (l.drop (i + 1))))) from hK.out.trans (Bool.and_assoc (ptOk 1 0 (s.x0, s.y0)) (ptR 1 s 1) _))
            have HZ := Lib.hid (show zero2 (s.x0, s.y0) = (s.x0 == 0 && s.y0 == 0) from rfl)
            clear hK
            go_wp2_with fail
            refine (rFitsPt_calls s.x0 s.y0 _).mono ?_
            rintro e w3 ⟨rfl, b3⟩
            have B3 := Lib.hid (hBi.out.trans (b3.mono (HBS.out _ hBi.out)))
            clear b3 c0 c1 c2 c3 c4 c5 c6
            have hcs := HC.out _ B3.out
            obtain ⟨c0, ⟨c1, c2⟩, ⟨c3, c4⟩, ⟨c5, c6⟩⟩ := hcs
            generalize fit2 (s.x0, s.y0) = qf at *
            cases qf with
            | false =>
              have HE := Lib.hid (show R = false from by rw [HS.out]; rfl)
              go_wp2_with fail
              go_ret
              exact ⟨ret_bool HE.out.symm, HBW.out _ B3.out⟩
            | true =>
              have HN : Hid (R = (ptR 1 s 1 && (followsB s.k last && segsOk s.k (l.drop (i + 1))))) := by
                show _ = _
                rw [HS.out]
                rfl
              go_wp2_with fail
              go_roundw
              case rel => exact ⟨1, by omega, by go_num, HN, B3⟩
              case measure => simp [intOf]
          | 1, _ =>
            have HS := Lib.hid (show R = ((fit2 (s.x1, s.y1) && (decide (1 < 1) || zero2 (s.x1, s.y1))) && (ptR 1 s 2 && (followsB s.k last && segsOk s.k (l.drop (i + 1))))) from hK.out.trans (Bool.and_assoc (ptOk 1 1 (s.x1, s.y1)) (ptR 1 s 2) _))
            have HZ := Lib.hid (show zero2 (s.x1, s.y1) = (s.x1 == 0 && s.y1 == 0) from rfl)
            clear hK
            go_wp2_with fail
            refine (rFitsPt_calls s.x1 s.y1 _).mono ?_
            rintro e w3 ⟨rfl, b3⟩
            have B3 := Lib.hid (hBi.out.trans (b3.mono (HBS.out _ hBi.out)))
            clear b3 c0 c1 c2 c3 c4 c5 c6
            have hcs := HC.out _ B3.out
            obtain ⟨c0, ⟨c1, c2⟩, ⟨c3, c4⟩, ⟨c5, c6⟩⟩ := hcs
            generalize fit2 (s.x1, s.y1) = qf at *
            cases qf with
            | false =>
              have HE := Lib.hid (show R = false from by rw [HS.out]; rfl)
              go_wp2_with fail
              go_ret
              exact ⟨ret_bool HE.out.symm, HBW.out _ B3.out⟩
            | true =>
              cases hx : (s.x1 != 0) with
              | true =>
                have HE := Lib.hid (show R = false from by rw [HS.out, HZ.out, beq_eq_false_iff_ne.2 (bne_iff_ne.1 hx)]; rfl)
                go_wp2_with fail
                go_ret
                exact ⟨ret_bool HE.out.symm, HBW.out _ B3.out⟩
              | false =>
                have hx' : (s.x1 == 0) = true := by rw [bne, Bool.not_eq_false'] at hx; exact hx
                have HZ2 := Lib.hid (show zero2 (s.x1, s.y1) = (s.y1 == 0) from by rw [HZ.out, hx']; rfl)
                clear hx' HZ
                cases hy : (s.y1 != 0) with
                | true =>
                  have HE := Lib.hid (show R = false from by rw [HS.out, HZ2.out, beq_eq_false_iff_ne.2 (bne_iff_ne.1 hy)]; rfl)
                  go_wp2_with fail
                  go_ret
                  exact ⟨ret_bool HE.out.symm, HBW.out _ B3.out⟩
                | false =>
                  have hy' : (s.y1 == 0) = true := by rw [bne, Bool.not_eq_false'] at hy; exact hy
                  have HN : Hid (R = (ptR 1 s 2 && (followsB s.k last && segsOk s.k (l.drop (i + 1))))) := by
                    show _ = _
                    rw [HS.out, HZ2.out, hy']
                    rfl
                  clear hy'
                  go_wp2_with fail
                  go_roundw
                  case rel => exact ⟨2, by omega, by go_num, HN, B3⟩
                  case measure => simp [intOf]
          | 2, _ =>
            have HS := Lib.hid (show R = ((fit2 (s.x2, s.y2) && (decide (2 < 1) || zero2 (s.x2, s.y2))) && (ptR 1 s 3 && (followsB s.k last && segsOk s.k (l.drop (i + 1))))) from hK.out)
            have HZ := Lib.hid (show zero2 (s.x2, s.y2) = (s.x2 == 0 && s.y2 == 0) from rfl)
            clear hK
            go_wp2_with fail
            refine (rFitsPt_calls s.x2 s.y2 _).mono ?_
            rintro e w3 ⟨rfl, b3⟩
            have B3 := Lib.hid (hBi.out.trans (b3.mono (HBS.out _ hBi.out)))
            clear b3 c0 c1 c2 c3 c4 c5 c6
            have hcs := HC.out _ B3.out
            obtain ⟨c0, ⟨c1, c2⟩, ⟨c3, c4⟩, ⟨c5, c6⟩⟩ := hcs
            generalize fit2 (s.x2, s.y2) = qf at *
            cases qf with
            | false =>
              have HE := Lib.hid (show R = false from by rw [HS.out]; rfl)
              go_wp2_with fail
              go_ret
              exact ⟨ret_bool HE.out.symm, HBW.out _ B3.out⟩
            | true =>
              cases hx : (s.x2 != 0) with
              | true =>
                have HE := Lib.hid (show R = false from by rw [HS.out, HZ.out, beq_eq_false_iff_ne.2 (bne_iff_ne.1 hx)]; rfl)
                go_wp2_with fail
                go_ret
                exact ⟨ret_bool HE.out.symm, HBW.out _ B3.out⟩
              | false =>
                have hx' : (s.x2 == 0) = true := by rw [bne, Bool.not_eq_false'] at hx; exact hx
                have HZ2 := Lib.hid (show zero2 (s.x2, s.y2) = (s.y2 == 0) from by rw [HZ.out, hx']; rfl)
                clear hx' HZ
                cases hy : (s.y2 != 0) with
                | true =>
                  have HE := Lib.hid (show R = false from by rw [HS.out, HZ2.out, beq_eq_false_iff_ne.2 (bne_iff_ne.1 hy)]; rfl)
                  go_wp2_with fail
                  go_ret
                  exact ⟨ret_bool HE.out.symm, HBW.out _ B3.out⟩
                | false =>
                  have hy' : (s.y2 == 0) = true := by rw [bne, Bool.not_eq_false'] at hy; exact hy
                  have HN : Hid (R = (ptR 1 s 3 && (followsB s.k last && segsOk s.k (l.drop (i + 1))))) := by
                    show _ = _
                    rw [HS.out, HZ2.out, hy']
                    rfl
                  clear hy'
                  go_wp2_with fail
                  go_roundw
                  case rel => exact ⟨3, by omega, by go_num, HN, B3⟩
                  case measure => simp [intOf]
          | 3, _ =>
            have HS := Lib.hid (show R = (followsB s.k last && segsOk s.k (l.drop (i + 1))) from by rw [hK.out]; rfl)
            have BR := Lib.hid (HBR.out _ hBi.out)
            clear hK c1 c2 c3 c4 c5 c6
            go_upto_if 62 with fail
            go_cut [7] (fun s7 wx => s7 = .int .i64 last ∧ Hid (Below (wo.heap.size + 1) (wo.alloc (.cells X 57)) wx))
            case first =>
              rcases hL.out with ⟨hi0, hla⟩ | ⟨m, hm, him, hla⟩
              · subst hi0 hla
                go_wp2_with fail
                go_meet
                exact ⟨rfl, hBi⟩
              · have hcm2 := HL1.out _ BR.out m hm
                rw [← hla] at hcm2
                clear hla
                subst him
                have hm2 : (m : Int) < (l.length : Int) := by omega
                go_wp2_with fail
                go_meet
                exact ⟨rfl, hBi⟩
            case rest =>
              clear hBi c0 BR
              obtain ⟨rfl, hBi⟩ := hcut
              have c0 := (HC.out _ hBi.out).1
              have hfin := Lib.hid (HBW.out _ hBi.out)
              have k1 : (s.k != 1) = true := by rw [bne, h1]; rfl
              have HF := Lib.hid (show followsB s.k last = (last != 0 && last != 4) from by rw [HFO.out, h1]; rfl)
              cases hz : (last == 0) with
              | true =>
                have HE := Lib.hid (show R = false from by rw [HS.out, HF.out, bne, hz]; rfl)
                go_wp2_with fail
                go_ret
                exact ⟨ret_bool HE.out.symm, hfin.out⟩
              | false =>
                have HF2 := Lib.hid (show followsB s.k last = (last != 4) from by rw [HF.out, bne, hz]; rfl)
                cases hy : (last == 4) with
                | true =>
                  have HE := Lib.hid (show R = false from by rw [HS.out, HF2.out, bne, hy]; rfl)
                  go_wp2_with fail
                  go_ret
                  exact ⟨ret_bool HE.out.symm, hfin.out⟩
                | false =>
                  have HE : Hid (R = segsOk s.k (l.drop (i + 1))) := by
                    show _ = _
                    rw [HS.out, HF2.out, bne, hy]
                    rfl
                  go_wp2_with fail
                  go_roundw
                  case rel => exact ⟨i + 1, s.k, by omega, by go_num, HNX, HE, hfin⟩
                  case measure => simp [intOf]; omega
          | n + 4, hn => exact absurd hn (by omega)
      | false =>
        cases h3 : (s.k == 3) with
        | true =>
          have HN := Lib.hid (show nPts s.k = ((3 : Nat) : Int) from by rw [HNP.out, h1, h2, h3]; rfl)
          have HQ0 : Hid (R = (ptR 3 s 0 && (followsB s.k last && segsOk s.k (l.drop (i + 1))))) := by
            show _ = _
            rw [HST.out, HSN.out 3 HN.out (by omega), Bool.and_assoc]
          clear HST HSN HSB HNP HN
          go_wp2_with (first
            | (refine wpList_load_mid rfl 57 _ rfl b (off + i * 7) rfl X.toList _ HRG.out Tryz.underlying57 rfl HXI.out ?_; simp only [Array.toArray_toList])
            | (refine wpList_store_new rfl 57 _ _ rfl _ X rfl rfl HXJ.out HXS.out HX1.out ?_))
          clear c0
          go_loopw [6] (fun v6 wi => ∃ k : Nat, k ≤ 3 ∧ v6 = .int .i64 k ∧ Hid (R = (ptR 3 s k && (followsB s.k last && segsOk s.k (l.drop (i + 1))))) ∧ Hid (Below (wo.heap.size + 1) (wo.alloc (.cells X 57)) wi)) (fun v _ => 3 - (intOf v).toNat)
          case atStart => exact ⟨0, by omega, rfl, HQ0, HB1⟩
          case round =>
            clear HQ0 HB1
            obtain ⟨k, hk, rfl, hK, hBi⟩ := hrel
            have hcs := HC.out _ hBi.out
            obtain ⟨c0, ⟨c1, c2⟩, ⟨c3, c4⟩, ⟨c5, c6⟩⟩ := hcs
            match k, hk with
            | 0, _ =>
              have HS := Lib.hid (show R = ((fit2 (s.x0, s.y0) && (decide (0 < 3) || zero2 (s.x0, s.y0))) && (ptR 3 s 1 && (followsB s.k last && segsOk s.k (l.drop (i + 1))))) from hK.out.trans (Bool.and_assoc (ptOk 3 0 (s.x0, s.y0)) (ptR 3 s 1) _))
              have HZ := Lib.hid (show zero2 (s.x0, s.y0) = (s.x0 == 0 && s.y0 == 0) from rfl)
              clear hK
              go_wp2_with fail
              refine (rFitsPt_calls s.x0 s.y0 _).mono ?_
              rintro e w3 ⟨rfl, b3⟩
              have B3 := Lib.hid (hBi.out.trans (b3.mono (HBS.out _ hBi.out)))
              clear b3 c0 c1 c2 c3 c4 c5 c6
              have hcs := HC.out _ B3.out
              obtain ⟨c0, ⟨c1, c2⟩, ⟨c3, c4⟩, ⟨c5, c6⟩⟩ := hcs
              generalize fit2 (s.x0, s.y0) = qf at *
              cases qf with
              | false =>
                have HE := Lib.hid (show R = false from by rw [HS.out]; rfl)
                go_wp2_with fail
                go_ret
                exact ⟨ret_bool HE.out.symm, HBW.out _ B3.out⟩
              | true =>
                have HN : Hid (R = (ptR 3 s 1 && (followsB s.k last && segsOk s.k (l.drop (i + 1))))) := by
                  show _ = _
                  rw [HS.out]
                  rfl
                go_wp2_with fail
                go_roundw
                case rel => exact ⟨1, by omega, by go_num, HN, B3⟩
                case measure => simp [intOf]
            | 1, _ =>
              have HS := Lib.hid (show R = ((fit2 (s.x1, s.y1) && (decide (1 < 3) || zero2 (s.x1, s.y1))) && (ptR 3 s 2 && (followsB s.k last && segsOk s.k (l.drop (i + 1))))) from hK.out.trans (Bool.and_assoc (ptOk 3 1 (s.x1, s.y1)) (ptR 3 s 2) _))
              have HZ := Lib.hid (show zero2 (s.x1, s.y1) = (s.x1 == 0 && s.y1 == 0) from rfl)
              clear hK
              go_wp2_with fail
              refine (rFitsPt_calls s.x1 s.y1 _).mono ?_
              rintro e w3 ⟨rfl, b3⟩
              have B3 := Lib.hid (hBi.out.trans (b3.mono (HBS.out _ hBi.out)))
              clear b3 c0 c1 c2 c3 c4 c5 c6
              have hcs := HC.out _ B3.out
              obtain ⟨c0, ⟨c1, c2⟩, ⟨c3, c4⟩, ⟨c5, c6⟩⟩ := hcs
              generalize fit2 (s.x1, s.y1) = qf at *
              cases qf with
              | false =>
                have HE := Lib.hid (show R = false from by rw [HS.out]; rfl)
                go_wp2_with fail
                go_ret
                exact ⟨ret_bool HE.out.symm, HBW.out _ B3.out⟩
              | true =>
                have HN : Hid (R = (ptR 3 s 2 && (followsB s.k last && segsOk s.k (l.drop (i + 1))))) := by
                  show _ = _
                  rw [HS.out]
                  rfl
                go_wp2_with fail
                go_roundw
                case rel => exact ⟨2, by omega, by go_num, HN, B3⟩
                case measure => simp [intOf]
            | 2, _ =>
              have HS := Lib.hid (show R = ((fit2 (s.x2, s.y2) && (decide (2 < 3) || zero2 (s.x2, s.y2))) && (ptR 3 s 3 && (followsB s.k last && segsOk s.k (l.drop (i + 1))))) from hK.out)
              have HZ := Lib.hid (show zero2 (s.x2, s.y2) = (s.x2 == 0 && s.y2 == 0) from rfl)
              clear hK
              go_wp2_with fail
              refine (rFitsPt_calls s.x2 s.y2 _).mono ?_
              rintro e w3 ⟨rfl, b3⟩
              have B3 := Lib.hid (hBi.out.trans (b3.mono (HBS.out _ hBi.out)))
              clear b3 c0 c1 c2 c3 c4 c5 c6
              have hcs := HC.out _ B3.out
              obtain ⟨c0, ⟨c1, c2⟩, ⟨c3, c4⟩, ⟨c5, c6⟩⟩ := hcs
              generalize fit2 (s.x2, s.y2) = qf at *
              cases qf with
              | false =>
                have HE := Lib.hid (show R = false from by rw [HS.out]; rfl)
                go_wp2_with fail
                go_ret
                exact ⟨ret_bool HE.out.symm, HBW.out _ B3.out⟩
              | true =>
                have HN : Hid (R = (ptR 3 s 3 && (followsB s.k last && segsOk s.k (l.drop (i + 1))))) := by
                  show _ = _
                  rw [HS.out]
                  rfl
                go_wp2_with fail
                go_roundw
                case rel => exact ⟨3, by omega, by go_num, HN, B3⟩
                case measure => simp [intOf]
            | 3, _ =>
              have HS := Lib.hid (show R = (followsB s.k last && segsOk s.k (l.drop (i + 1))) from by rw [hK.out]; rfl)
              have BR := Lib.hid (HBR.out _ hBi.out)
              clear hK c1 c2 c3 c4 c5 c6
              go_upto_if 62 with fail
              go_cut [7] (fun s7 wx => s7 = .int .i64 last ∧ Hid (Below (wo.heap.size + 1) (wo.alloc (.cells X 57)) wx))
              case first =>
                rcases hL.out with ⟨hi0, hla⟩ | ⟨m, hm, him, hla⟩
                · subst hi0 hla
                  go_wp2_with fail
                  go_meet
                  exact ⟨rfl, hBi⟩
                · have hcm2 := HL1.out _ BR.out m hm
                  rw [← hla] at hcm2
                  clear hla
                  subst him
                  have hm2 : (m : Int) < (l.length : Int) := by omega
                  go_wp2_with fail
                  go_meet
                  exact ⟨rfl, hBi⟩
              case rest =>
                clear hBi c0 BR
                obtain ⟨rfl, hBi⟩ := hcut
                have c0 := (HC.out _ hBi.out).1
                have hfin := Lib.hid (HBW.out _ hBi.out)
                have k1 : (s.k != 1) = true := by rw [bne, h1]; rfl
                have HF := Lib.hid (show followsB s.k last = (last != 0 && last != 4) from by rw [HFO.out, h1]; rfl)
                cases hz : (last == 0) with
                | true =>
                  have HE := Lib.hid (show R = false from by rw [HS.out, HF.out, bne, hz]; rfl)
                  go_wp2_with fail
                  go_ret
                  exact ⟨ret_bool HE.out.symm, hfin.out⟩
                | false =>
                  have HF2 := Lib.hid (show followsB s.k last = (last != 4) from by rw [HF.out, bne, hz]; rfl)
                  cases hy : (last == 4) with
                  | true =>
                    have HE := Lib.hid (show R = false from by rw [HS.out, HF2.out, bne, hy]; rfl)
                    go_wp2_with fail
                    go_ret
                    exact ⟨ret_bool HE.out.symm, hfin.out⟩
                  | false =>
                    have HE : Hid (R = segsOk s.k (l.drop (i + 1))) := by
                      show _ = _
                      rw [HS.out, HF2.out, bne, hy]
                      rfl
                    go_wp2_with fail
                    go_roundw
                    case rel => exact ⟨i + 1, s.k, by omega, by go_num, HNX, HE, hfin⟩
                    case measure => simp [intOf]; omega
            | n + 4, hn => exact absurd hn (by omega)
        | false =>
          cases h4 : (s.k == 4) with
          | true =>
            have HN := Lib.hid (show nPts s.k = ((0 : Nat) : Int) from by rw [HNP.out, h1, h2, h3, h4]; rfl)
            have HQ0 : Hid (R = (ptR 0 s 0 && (followsB s.k last && segsOk s.k (l.drop (i + 1))))) := by
              show _ = _
              rw [HST.out, HSN.out 0 HN.out (by omega), Bool.and_assoc]
            clear HST HSN HSB HNP HN
            go_wp2_with (first
              | (refine wpList_load_mid rfl 57 _ rfl b (off + i * 7) rfl X.toList _ HRG.out Tryz.underlying57 rfl HXI.out ?_; simp only [Array.toArray_toList])
              | (refine wpList_store_new rfl 57 _ _ rfl _ X rfl rfl HXJ.out HXS.out HX1.out ?_))
            clear c0
            go_loopw [6] (fun v6 wi => ∃ k : Nat, k ≤ 3 ∧ v6 = .int .i64 k ∧ Hid (R = (ptR 0 s k && (followsB s.k last && segsOk s.k (l.drop (i + 1))))) ∧ Hid (Below (wo.heap.size + 1) (wo.alloc (.cells X 57)) wi)) (fun v _ => 3 - (intOf v).toNat)
            case atStart => exact ⟨0, by omega, rfl, HQ0, HB1⟩
            case round =>
              clear HQ0 HB1
              obtain ⟨k, hk, rfl, hK, hBi⟩ := hrel
              have hcs := HC.out _ hBi.out
              obtain ⟨c0, ⟨c1, c2⟩, ⟨c3, c4⟩, ⟨c5, c6⟩⟩ := hcs
              match k, hk with
              | 0, _ =>
                have HS := Lib.hid (show R = ((fit2 (s.x0, s.y0) && (decide (0 < 0) || zero2 (s.x0, s.y0))) && (ptR 0 s 1 && (followsB s.k last && segsOk s.k (l.drop (i + 1))))) from hK.out.trans (Bool.and_assoc (ptOk 0 0 (s.x0, s.y0)) (ptR 0 s 1) _))
                have HZ := Lib.hid (show zero2 (s.x0, s.y0) = (s.x0 == 0 && s.y0 == 0) from rfl)
                clear hK
                go_wp2_with fail
                refine (rFitsPt_calls s.x0 s.y0 _).mono ?_
                rintro e w3 ⟨rfl, b3⟩
                have B3 := Lib.hid (hBi.out.trans (b3.mono (HBS.out _ hBi.out)))
                clear b3 c0 c1 c2 c3 c4 c5 c6
                have hcs := HC.out _ B3.out
                obtain ⟨c0, ⟨c1, c2⟩, ⟨c3, c4⟩, ⟨c5, c6⟩⟩ := hcs
                generalize fit2 (s.x0, s.y0) = qf at *
                cases qf with
                | false =>
                  have HE := Lib.hid (show R = false from by rw [HS.out]; rfl)
                  go_wp2_with fail
                  go_ret
                  exact ⟨ret_bool HE.out.symm, HBW.out _ B3.out⟩
                | true =>
                  cases hx : (s.x0 != 0) with
                  | true =>
                    have HE := Lib.hid (show R = false from by rw [HS.out, HZ.out, beq_eq_false_iff_ne.2 (bne_iff_ne.1 hx)]; rfl)
                    go_wp2_with fail
                    go_ret
                    exact ⟨ret_bool HE.out.symm, HBW.out _ B3.out⟩
                  | false =>
                    have hx' : (s.x0 == 0) = true := by rw [bne, Bool.not_eq_false'] at hx; exact hx
                    have HZ2 := Lib.hid (show zero2 (s.x0, s.y0) = (s.y0 == 0) from by rw [HZ.out, hx']; rfl)
                    clear hx' HZ
                    cases hy : (s.y0 != 0) with
                    | true =>
                      have HE := Lib.hid (show R = false from by rw [HS.out, HZ2.out, beq_eq_false_iff_ne.2 (bne_iff_ne.1 hy)]; rfl)
                      go_wp2_with fail
                      go_ret
                      exact ⟨ret_bool HE.out.symm, HBW.out _ B3.out⟩
                    | false =>
                      have hy' : (s.y0 == 0) = true := by rw [bne, Bool.not_eq_false'] at hy; exact hy
                      have HN : Hid (R = (ptR 0 s 1 && (followsB s.k last && segsOk s.k (l.drop (i + 1))))) := by
                        show _ = _
                        rw [HS.out, HZ2.out, hy']
                        rfl
                      clear hy'
                      go_wp2_with fail
                      go_roundw
                      case rel => exact ⟨1, by omega, by go_num, HN, B3⟩
                      case measure => simp [intOf]
              | 1, _ =>
                have HS := Lib.hid (show R = ((fit2 (s.x1, s.y1) && (decide (1 < 0) || zero2 (s.x1, s.y1))) && (ptR 0 s 2 && (followsB s.k last && segsOk s.k (l.drop (i + 1))))) from hK.out.trans (Bool.and_assoc (ptOk 0 1 (s.x1, s.y1)) (ptR 0 s 2) _))
                have HZ := Lib.hid (show zero2 (s.x1, s.y1) = (s.x1 == 0 && s.y1 == 0) from rfl)
                clear hK
                go_wp2_with fail
                refine (rFitsPt_calls s.x1 s.y1 _).mono ?_
                rintro e w3 ⟨rfl, b3⟩
                have B3 := Lib.hid (hBi.out.trans (b3.mono (HBS.out _ hBi.out)))
                clear b3 c0 c1 c2 c3 c4 c5 c6
                have hcs := HC.out _ B3.out
                obtain ⟨c0, ⟨c1, c2⟩, ⟨c3, c4⟩, ⟨c5, c6⟩⟩ := hcs
                generalize fit2 (s.x1, s.y1) = qf at *
                cases qf with
                | false =>
                  have HE := Lib.hid (show R = false from by rw [HS.out]; rfl)
                  go_wp2_with fail
                  go_ret
                  exact ⟨ret_bool HE.out.symm, HBW.out _ B3.out⟩
                | true =>
                  cases hx : (s.x1 != 0) with
                  | true =>
                    have HE := Lib.hid (show R = false from by rw [HS.out, HZ.out, beq_eq_false_iff_ne.2 (bne_iff_ne.1 hx)]; rfl)
                    go_wp2_with fail
                    go_ret
                    exact ⟨ret_bool HE.out.symm, HBW.out _ B3.out⟩
                  | false =>
                    have hx' : (s.x1 == 0) = true := by rw [bne, Bool.not_eq_false'] at hx; exact hx
                    have HZ2 := Lib.hid (show zero2 (s.x1, s.y1) = (s.y1 == 0) from by rw [HZ.out, hx']; rfl)
                    clear hx' HZ
                    cases hy : (s.y1 != 0) with
                    | true =>
                      have HE := Lib.hid (show R = false from by rw [HS.out, HZ2.out, beq_eq_false_iff_ne.2 (bne_iff_ne.1 hy)]; rfl)
                      go_wp2_with fail
                      go_ret
                      exact ⟨ret_bool HE.out.symm, HBW.out _ B3.out⟩
                    | false =>
                      have hy' : (s.y1 == 0) = true := by rw [bne, Bool.not_eq_false'] at hy; exact hy
                      have HN : Hid (R = (ptR 0 s 2 && (followsB s.k last && segsOk s.k (l.drop (i + 1))))) := by
                        show _ = _
                        rw [HS.out, HZ2.out, hy']
                        rfl
                      clear hy'
                      go_wp2_with fail
                      go_roundw
                      case rel => exact ⟨2, by omega, by go_num, HN, B3⟩
                      case measure => simp [intOf]
              | 2, _ =>
                have HS := Lib.hid (show R = ((fit2 (s.x2, s.y2) && (decide (2 < 0) || zero2 (s.x2, s.y2))) && (ptR 0 s 3 && (followsB s.k last && segsOk s.k (l.drop (i + 1))))) from hK.out)
                have HZ := Lib.hid (show zero2 (s.x2, s.y2) = (s.x2 == 0 && s.y2 == 0) from rfl)
                clear hK
                go_wp2_with fail
                refine (rFitsPt_calls s.x2 s.y2 _).mono ?_
                rintro e w3 ⟨rfl, b3⟩
                have B3 := Lib.hid (hBi.out.trans (b3.mono (HBS.out _ hBi.out)))
                clear b3 c0 c1 c2 c3 c4 c5 c6
                have hcs := HC.out _ B3.out
                obtain ⟨c0, ⟨c1, c2⟩, ⟨c3, c4⟩, ⟨c5, c6⟩⟩ := hcs
                generalize fit2 (s.x2, s.y2) = qf at *
                cases qf with
                | false =>
                  have HE := Lib.hid (show R = false from by rw [HS.out]; rfl)
                  go_wp2_with fail
                  go_ret
                  exact ⟨ret_bool HE.out.symm, HBW.out _ B3.out⟩
                | true =>
                  cases hx : (s.x2 != 0) with
                  | true =>
                    have HE := Lib.hid (show R = false from by rw [HS.out, HZ.out, beq_eq_false_iff_ne.2 (bne_iff_ne.1 hx)]; rfl)
                    go_wp2_with fail
                    go_ret
                    exact ⟨ret_bool HE.out.symm, HBW.out _ B3.out⟩
                  | false =>
                    have hx' : (s.x2 == 0) = true := by rw [bne, Bool.not_eq_false'] at hx; exact hx
                    have HZ2 := Lib.hid (show zero2 (s.x2, s.y2) = (s.y2 == 0) from by rw [HZ.out, hx']; rfl)
                    clear hx' HZ
                    cases hy : (s.y2 != 0) with
                    | true =>
                      have HE := Lib.hid (show R = false from by rw [HS.out, HZ2.out, beq_eq_false_iff_ne.2 (bne_iff_ne.1 hy)]; rfl)
                      go_wp2_with fail
                      go_ret
                      exact ⟨ret_bool HE.out.symm, HBW.out _ B3.out⟩
                    | false =>
                      have hy' : (s.y2 == 0) = true := by rw [bne, Bool.not_eq_false'] at hy; exact hy
                      have HN : Hid (R = (ptR 0 s 3 && (followsB s.k last && segsOk s.k (l.drop (i + 1))))) := by
                        show _ = _
                        rw [HS.out, HZ2.out, hy']
                        rfl
                      clear hy'
                      go_wp2_with fail
                      go_roundw
                      case rel => exact ⟨3, by omega, by go_num, HN, B3⟩
                      case measure => simp [intOf]
              | 3, _ =>
                have HS := Lib.hid (show R = (followsB s.k last && segsOk s.k (l.drop (i + 1))) from by rw [hK.out]; rfl)
                have BR := Lib.hid (HBR.out _ hBi.out)
                clear hK c1 c2 c3 c4 c5 c6
                go_upto_if 62 with fail
                go_cut [7] (fun s7 wx => s7 = .int .i64 last ∧ Hid (Below (wo.heap.size + 1) (wo.alloc (.cells X 57)) wx))
                case first =>
                  rcases hL.out with ⟨hi0, hla⟩ | ⟨m, hm, him, hla⟩
                  · subst hi0 hla
                    go_wp2_with fail
                    go_meet
                    exact ⟨rfl, hBi⟩
                  · have hcm2 := HL1.out _ BR.out m hm
                    rw [← hla] at hcm2
                    clear hla
                    subst him
                    have hm2 : (m : Int) < (l.length : Int) := by omega
                    go_wp2_with fail
                    go_meet
                    exact ⟨rfl, hBi⟩
                case rest =>
                  clear hBi c0 BR
                  obtain ⟨rfl, hBi⟩ := hcut
                  have c0 := (HC.out _ hBi.out).1
                  have hfin := Lib.hid (HBW.out _ hBi.out)
                  have k1 : (s.k != 1) = true := by rw [bne, h1]; rfl
                  have HF := Lib.hid (show followsB s.k last = (last != 0 && last != 4) from by rw [HFO.out, h1]; rfl)
                  cases hz : (last == 0) with
                  | true =>
                    have HE := Lib.hid (show R = false from by rw [HS.out, HF.out, bne, hz]; rfl)
                    go_wp2_with fail
                    go_ret
                    exact ⟨ret_bool HE.out.symm, hfin.out⟩
                  | false =>
                    have HF2 := Lib.hid (show followsB s.k last = (last != 4) from by rw [HF.out, bne, hz]; rfl)
                    cases hy : (last == 4) with
                    | true =>
                      have HE := Lib.hid (show R = false from by rw [HS.out, HF2.out, bne, hy]; rfl)
                      go_wp2_with fail
                      go_ret
                      exact ⟨ret_bool HE.out.symm, hfin.out⟩
                    | false =>
                      have HE : Hid (R = segsOk s.k (l.drop (i + 1))) := by
                        show _ = _
                        rw [HS.out, HF2.out, bne, hy]
                        rfl
                      go_wp2_with fail
                      go_roundw
                      case rel => exact ⟨i + 1, s.k, by omega, by go_num, HNX, HE, hfin⟩
                      case measure => simp [intOf]; omega
              | n + 4, hn => exact absurd hn (by omega)
          | false =>
            have HE := Lib.hid (show R = false from by rw [HST.out, HSB.out (by rw [HNP.out, h1, h2, h3, h4]; rfl)]; rfl)
            go_wp2_with (first
              | (refine wpList_load_mid rfl 57 _ rfl b (off + i * 7) rfl X.toList _ HRG.out Tryz.underlying57 rfl HXI.out ?_; simp only [Array.toArray_toList])
              | (refine wpList_store_new rfl 57 _ _ rfl _ X rfl rfl HXJ.out HXS.out HX1.out ?_))
            go_ret
            exact ⟨ret_bool HE.out.symm, HBW.out _ HB1.out⟩
end Go.Proofs.YtdkgfgmmmjpkgaaGreatDoor
