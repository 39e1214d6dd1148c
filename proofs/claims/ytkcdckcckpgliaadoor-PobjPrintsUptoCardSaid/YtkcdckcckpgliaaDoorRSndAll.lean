/- The reference's Sound: the very function that pobj's own is. -/
import Derived.Test.YtkcdckcckpgliaaDoorRSnd7good
import Derived.Test.YtkcdckcckpgliaaDoorRSnd7bad
import Derived.Test.YtkcdckcckpgliaaDoorRSnd9good
import Derived.Test.YtkcdckcckpgliaaDoorRSnd9bad
namespace Go.Proofs.YtkcdckcckpgliaaDoor
open Go.RowKit Go.Shelf

theorem calls_bool {f : FuncId} {a : Array Value} {w : World} {r r' : Bool} (h : Calls Tryd.prog f a w fun e w' => e = .returned (.bool r) ∧ Below w.heap.size w w') (hr : r = r') : Calls Tryd.prog f a w fun e w' => e = .returned (.bool r') ∧ Below w.heap.size w w' := hr ▸ h

theorem rsnd_of (D : Int) (hD1 : -5 ≤ D) (hD2 : D ≤ 1000) (f : PO → Bool) (H : 0 < D → RSndAt (D - 1) f) (s : Bool) (o : PO) (v : Array Value) (w : World) (ho : ORd w o v) :
    Calls Tryd.prog 18 #[.agg v, .int .i64 D, .bool s] w fun e w' => e = .returned (.bool (sndK (decide (0 < D)) f o && (s || !(o.k == 9)))) ∧ Below w.heap.size w w' := by
  have h9 : ∀ k : Int, o.k = k → k ≠ 9 → sndK (decide (0 < D)) f o = (sndK (decide (0 < D)) f o && (s || !(o.k == 9))) := fun k hk hne => by
    rw [show (o.k == 9) = false from beq_eq_false_iff_ne.2 (by omega)]; simp
  by_cases h0 : o.k = 0
  · exact calls_bool (rsnd_0 D hD1 hD2 f s o v w ho h0) (h9 _ h0 (by decide))
  by_cases h1 : o.k = 1
  · exact calls_bool (rsnd_1 D hD1 hD2 f s o v w ho h1) (h9 _ h1 (by decide))
  by_cases h2 : o.k = 2
  · exact calls_bool (rsnd_2 D hD1 hD2 f s o v w ho h2) (h9 _ h2 (by decide))
  by_cases h3 : o.k = 3
  · exact calls_bool (rsnd_3 D hD1 hD2 f s o v w ho h3) (h9 _ h3 (by decide))
  by_cases h4 : o.k = 4
  · exact calls_bool (rsnd_4 D hD1 hD2 f s o v w ho h4) (h9 _ h4 (by decide))
  by_cases h5 : o.k = 5
  · exact calls_bool (rsnd_5 D hD1 hD2 f s o v w ho h5) (h9 _ h5 (by decide))
  by_cases h8 : o.k = 8
  · exact calls_bool (rsnd_8 D hD1 hD2 f s o v w ho h8) (h9 _ h8 (by decide))
  by_cases h6 : o.k = 6
  · have hs : sndK (decide (0 < D)) f o = (decide (0 < D) && bareB o false false false true false && allB f o.l) := by unfold sndK; rw [h6]; rfl
    by_cases hg : 0 < D ∧ bareB o false false false true false = true
    · refine calls_bool (rsnd_6_good D hD2 f (H hg.1) s o v w ho h6 hg.1 hg.2) ?_
      rw [hs, h6, decide_eq_true hg.1, hg.2]
      simp
    · refine calls_bool (rsnd_6_bad D hD1 hD2 s o v w ho h6 hg) ?_
      rw [hs]
      by_cases h : 0 < D
      · rw [decide_eq_true h, show bareB o false false false true false = false from by simpa using fun h' => hg ⟨h, h'⟩]; rfl
      · rw [decide_eq_false h]; rfl
  by_cases h7 : o.k = 7
  · have hs : sndK (decide (0 < D)) f o = (decide (0 < D) && bareB o false false true true false && ((o.ks.length : Int) == o.l.length) && distinctB [] o.ks && allB f o.l) := by unfold sndK; rw [h7]; rfl
    by_cases hg : 0 < D ∧ bareB o false false true true false = true ∧ o.ks.length = o.l.length
    · refine calls_bool (rsnd_7_good D hD2 f (H hg.1) s o v w ho h7 hg.1 hg.2.1 hg.2.2) ?_
      rw [hs, h7, decide_eq_true hg.1, hg.2.1, keysB_no, hg.2.2]
      simp
    · refine calls_bool (rsnd_7_bad D hD1 hD2 s o v w ho h7 hg) ?_
      rw [hs]
      by_cases ha : 0 < D
      · by_cases hb : bareB o false false true true false = true
        · rw [show ((o.ks.length : Int) == o.l.length) = false from beq_eq_false_iff_ne.2 (fun h => hg ⟨ha, hb, by omega⟩)]; simp
        · rw [show bareB o false false true true false = false from by simpa using hb]; simp
      · rw [decide_eq_false ha]; rfl
  by_cases h9' : o.k = 9
  · have hs : sndK (decide (0 < D)) f o = (decide (0 < D) && bareB o false false true true true && ((o.ks.length : Int) == o.l.length) && distinctB [] o.ks && !Lib.containsS o.ks lengthName && decide (o.d.length ≤ 1048576) && allB f o.l) := by unfold sndK; rw [h9']; rfl
    by_cases hg : 0 < D ∧ bareB o false false true true true = true ∧ o.ks.length = o.l.length ∧ s = true ∧ o.d.length ≤ 1048576
    · obtain ⟨ha, hb, hc, hd, he⟩ := hg
      refine calls_bool (rsnd_9_good D hD2 f (H ha) s o v w ho h9' ha hb hc hd he) ?_
      rw [hs, decide_eq_true ha, hb, keysB_yes, hc, hd, decide_eq_true he]
      simp
    · refine calls_bool (rsnd_9_bad D hD1 hD2 s o v w ho h9' hg) ?_
      rw [hs, h9']
      by_cases ha : 0 < D
      · by_cases hb : bareB o false false true true true = true
        · by_cases hc : o.ks.length = o.l.length
          · cases s with
            | false => simp
            | true =>
              rw [decide_eq_false (fun he => hg ⟨ha, hb, hc, rfl, he⟩)]; simp
          · rw [show ((o.ks.length : Int) == o.l.length) = false from beq_eq_false_iff_ne.2 (by omega)]; simp
        · rw [show bareB o false false true true true = false from by simpa using hb]; simp
      · rw [decide_eq_false ha]; rfl
  · exact calls_bool (rsnd_none D hD1 hD2 f s o v w ho h0 h1 h2 h3 h4 h5 h6 h7 h8 h9') (by rw [show (o.k == 9) = false from beq_eq_false_iff_ne.2 h9']; simp)

theorem sndB_zero (o : PO) : sndB 0 o = sndK false (fun _ => false) o := rfl
theorem rsnd_nat : ∀ d : Nat, d ≤ 1000 → ∀ s o v w, ORd w o v → Calls Tryd.prog 18 #[.agg v, .int .i64 (d : Int), .bool s] w fun e w' => e = .returned (.bool (sndB d o && (s || !(o.k == 9)))) ∧ Below w.heap.size w w'
  | 0, _, s, o, v, w, ho => rsnd_of 0 (by decide) (by decide) (fun _ => false) (fun h => absurd h (by decide)) s o v w ho
  | d + 1, hd, s, o, v, w, ho => by
    have h := rsnd_of ((d + 1 : Nat) : Int) (by omega) (by omega) (sndB d) (fun _ => fun o v w ho => by
      have h2 := rsnd_nat d (by omega) false o v w ho
      rw [show ((d + 1 : Nat) : Int) - 1 = (d : Int) from by omega]
      exact h2) s o v w ho
    rw [decide_eq_true (by omega)] at h
    exact h

set_option maxHeartbeats 800000 in
set_option maxRecDepth 100000 in
theorem rSound_calls (o : PO) (v : Array Value) (w : World) (ho : ORd w o v) :
    Calls Tryd.prog 9 #[.agg v] w fun e w' => e = .returned (.bool (sndB 32 o)) ∧ Below w.heap.size w w' := by
  have HO := Lib.hid (fun X : Obj => ho.keep (below_alloc w X))
  have HS := Lib.hid (fun W v h => rsnd_nat 32 (by decide) true o v W h)
  have HBA := Lib.hid (fun X : Obj => below_alloc w X)
  have hsz : ∀ X, (w.alloc X).heap.size = w.heap.size + 1 := fun X => by simp
  obtain ⟨n, t, Ak, ck, Al, cl, Ad, cd, rfl⟩ := ho.agg
  clear ho
  go_enter Tryd.func9, Tryd.ntmps9
  go_wp2_with fail
  refine (HS.out _ _ (HO.out _)).mono ?_
  rintro e w1 ⟨rfl, h1⟩
  have B01 := Lib.hid ((HBA.out _).trans (h1.mono (by rw [hsz]; omega)))
  clear h1 hsz
  go_wp2_with fail
  go_ret
  exact ⟨ret_bool (by simp), B01.out⟩
end Go.Proofs.YtkcdckcckpgliaaDoor
