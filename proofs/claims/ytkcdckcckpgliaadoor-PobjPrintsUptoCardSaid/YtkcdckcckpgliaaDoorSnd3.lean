/- pobj.sound, pobj.all and what they call, as the machine runs them: by induction on the depth. -/
import Derived.Test.YtkcdckcckpgliaaDoorSnd2
namespace Go.Proofs.YtkcdckcckpgliaaDoor
open Go.RowKit Go.Shelf

def SndAt (d : Nat) : Prop := ∀ (o : PO) (v : Array Value) (w : World), ORd w o v → Calls Tryd.prog 19 #[.agg v, .int .i64 d] w fun e w' => e = .returned (.bool (sndB d o)) ∧ Below w.heap.size w w'
def badB (d : Nat) (o : PO) : Bool := !(sndB d o) || o.k == 9
def CloAt (d : Nat) : Prop := ∀ (o : PO) (v : Array Value) (w : World) (r : Nat), ORd w o v → w.cell? ⟨r, 0, none⟩ = some (.int .i64 d) → Calls Tryd.prog 54 #[.agg v, .pointer (some ⟨r, 0, none⟩)] w fun e w' => e = .returned (.bool (badB d o)) ∧ Below w.heap.size w w'
def IdxAt (d : Nat) : Prop := ∀ (l : List PO) (cs : Nat → Array Value) (A : Option Addr) (c : Nat) (w : World) (r : Nat), (∀ i (h : i < l.length), ORd w l[i] (cs i)) → RowAt w A l.length 6 cs → l.length ≤ c → c ≤ 140737488355328 → w.cell? ⟨r, 0, none⟩ = some (.int .i64 d) →
  Calls Tryd.prog 64 #[.slice A l.length c, .func (.func 54) #[] #[.pointer (some ⟨r, 0, none⟩)]] w fun e w' => ∃ q : Int, e = .returned (.int .i64 q) ∧ Hid (decide (0 ≤ q) = l.any (badB d)) ∧ Below w.heap.size w w'

theorem ORd.agg {w : World} {o : PO} {v : Array Value} (h : ORd w o v) : ∃ n t Ak ck Al cl Ad cd, v = #[.int .i64 o.k, .int .i64 n, .string t, .slice Ak o.ks.length ck, .slice Al o.l.length cl, .slice Ad o.d.length cd] := by
  cases h
  exact ⟨_, _, _, _, _, _, _, _, rfl⟩

set_option maxHeartbeats 1600000 in
set_option maxRecDepth 100000 in
theorem clo_of (d : Nat) (h : SndAt d) : CloAt d := by
  intro o v w r ho hr
  obtain ⟨n, t, Ak, ck, Al, cl, Ad, cd, rfl⟩ := ho.agg
  have hS := fun X => h o _ (w.alloc X) (ho.keep (below_alloc w X))
  have HO := Lib.hid ho
  have hrl := World.block_lt_of_cell? w _ hr
  have hrl : r < w.heap.size := hrl
  clear ho h
  generalize hb : badB d o = bb
  have HBB := Lib.hid hb
  clear hb
  go_enter Tryd.func54, Tryd.ntmps54
  go_wp2_with fail
  refine (hS _).mono ?_
  rintro e w1 ⟨rfl, h1⟩
  obtain ⟨hc, hf⟩ := bcell h1
  have H1 := Lib.hid h1
  clear h1 hS
  generalize hs : sndB d o = sb
  have HSB := Lib.hid hs
  clear hs
  cases sb
  · go_wp2_with fail
    go_ret
    exact ⟨ret_bool (by rw [← HBB.out, badB, HSB.out]; rfl), (below_alloc w _).trans (H1.out.mono (by simp))⟩
  · go_wp2_with fail
    go_ret
    exact ⟨ret_bool (by rw [← HBB.out, badB, HSB.out]; rfl), (below_alloc w _).trans (H1.out.mono (by simp))⟩

set_option maxHeartbeats 1600000 in
set_option maxRecDepth 100000 in
theorem idx_of (d : Nat) (h : CloAt d) : IdxAt d := by
  intro l cs A c w r hl hrow hlc hcm hr
  have HL := Lib.hid hl
  have HROW := Lib.hid hrow
  have HR := Lib.hid hr
  have HC := Lib.hid h
  clear hl hrow hr h
  go_enter Tryd.func64, Tryd.ntmps64
  go_wp2_with fail
  go_loopw [5, 8] (fun _ v wr => ∃ i : Nat, i ≤ l.length ∧ v = .int .i64 i ∧ Hid (l.any (badB d) = (l.drop i).any (badB d)) ∧ Hid (Below w.heap.size w wr)) (fun _ v _ => l.length - (intOf v).toNat)
  case atStart => exact ⟨0, Nat.zero_le _, rfl, rfl, Below.refl _ _⟩
  case round =>
    obtain ⟨i, hi, rfl, hD, hB⟩ := hrel
    by_cases hlt : i < l.length
    · obtain ⟨b, off, hA, hcell⟩ := RowAt.elem (RowAt.keep HROW.out hB.out) i hlt
      have hx := (HL.out i hlt).keep hB.out
      have hd : l.drop i = l[i] :: l.drop (i + 1) := List.drop_eq_getElem_cons hlt
      have HD := Lib.hid hd
      clear hd
      subst hA
      generalize l[i] = x at hx HD
      generalize cs i = ci at hcell hx
      obtain ⟨n, t, Ak, ck, Al, cl, Ad, cd, rfl⟩ := hx.agg
      have c0 := hcell 0 _ rfl
      have c1 := hcell 1 _ rfl
      have c2 := hcell 2 _ rfl
      have c3 := hcell 3 _ rfl
      have c4 := hcell 4 _ rfl
      have c5 := hcell 5 _ rfl
      have HX := Lib.hid hx
      have hrc : wr.cell? ⟨r, 0, none⟩ = some (.int .i64 d) := (Below.cell hB.out (World.block_lt_of_cell? w _ HR.out)).trans HR.out
      have HRC := Lib.hid hrc
      clear hcell hx hrc
      simp only [Nat.add_zero] at c0
      go_wp2_with fail
      refine (HC.out x _ wr r HX.out HRC.out).mono ?_
      rintro e w1 ⟨rfl, h1⟩
      have H1 := Lib.hid (hB.out.trans (h1.mono hB.out.size))
      clear h1 c0 c1 c2 c3 c4 c5
      generalize hb : badB d x = bb
      have HBB := Lib.hid hb
      clear hb
      cases bb
      · have hn : Hid (l.any (badB d) = (l.drop (i + 1)).any (badB d)) := by
          show l.any (badB d) = _
          rw [hD.out, HD.out, List.any_cons, HBB.out]; rfl
        go_wp2_with fail
        go_roundw
        case rel => exact ⟨i + 1, by omega, by go_num, hn, H1⟩
        case measure => simp [intOf]; omega
      · have hn : Hid (l.any (badB d) = true) := by
          show l.any (badB d) = _
          rw [hD.out, HD.out, List.any_cons, HBB.out]; rfl
        go_wp2_with fail
        go_ret
        exact ⟨_, rfl, (show decide (0 ≤ (i : Int)) = _ by rw [hn.out]; simp), H1.out⟩
    · obtain rfl : i = l.length := by omega
      have hn : Hid (l.any (badB d) = false) := by
        show l.any (badB d) = _
        rw [hD.out, List.drop_of_length_le (Nat.le_refl _)]; rfl
      go_wp2_with fail
      go_ret
      exact ⟨_, rfl, (show decide (0 ≤ (-1 : Int)) = _ by rw [hn.out]; rfl), hB.out⟩

/-- pobj.all: of a row of objects. -/
def AllAt (d : Nat) : Prop := ∀ (l : List PO) (cs : Nat → Array Value) (A : Option Addr) (c : Nat) (w : World), (∀ i (h : i < l.length), ORd w l[i] (cs i)) → RowAt w A l.length 6 cs → l.length ≤ c → c ≤ 140737488355328 →
  Calls Tryd.prog 41 #[.slice A l.length c, .int .i64 d] w fun e w' => e = .returned (.bool (allB (sndB d) l)) ∧ Below w.heap.size w w'

theorem any_all (d : Nat) (l : List PO) : (!(l.any (badB d))) = l.all (fun x => sndB d x && !(x.k == 9)) := by
  induction l with
  | nil => rfl
  | cons x r ih => rw [List.any_cons, List.all_cons, Bool.not_or, ih, badB]; cases sndB d x <;> cases (x.k == 9) <;> rfl

set_option maxHeartbeats 1600000 in
set_option maxRecDepth 100000 in
theorem contains_of (d : Nat) (h : IdxAt d) (l : List PO) (cs : Nat → Array Value) (A : Option Addr) (c : Nat) (w : World) (r : Nat) (hl : ∀ i (h : i < l.length), ORd w l[i] (cs i)) (hrow : RowAt w A l.length 6 cs) (hlc : l.length ≤ c) (hcm : c ≤ 140737488355328) (hr : w.cell? ⟨r, 0, none⟩ = some (.int .i64 d)) :
    Calls Tryd.prog 53 #[.slice A l.length c, .func (.func 54) #[] #[.pointer (some ⟨r, 0, none⟩)]] w fun e w' => e = .returned (.bool (l.any (badB d))) ∧ Below w.heap.size w w' := by
  have hI := h l cs A c w r hl hrow hlc hcm hr
  clear h hl hrow hr
  go_enter Tryd.func53, Tryd.ntmps53
  go_wp2_with fail
  refine hI.mono ?_
  rintro e w1 ⟨q, rfl, hq, h1⟩
  have H1 := Lib.hid h1
  clear h1 hI
  go_wp2_with fail
  go_ret
  exact ⟨ret_bool hq.out, H1.out⟩

set_option maxHeartbeats 1600000 in
set_option maxRecDepth 100000 in
theorem all_of (d : Nat) (h : IdxAt d) : AllAt d := by
  intro l cs A c w hl hrow hlc hcm
  have hmf : ∀ (fn : Fn) (first cap : Array Value) (w : World), (Instr.makeFunc fn first cap).run Tryd.prog w = .ok (.func fn first cap) w := fun _ _ _ _ => rfl
  generalize hr : allB (sndB d) l = r
  have HR := Lib.hid hr
  clear hr
  have hC := fun X (hX : (w.alloc X).cell? ⟨w.heap.size, 0, none⟩ = some (.int .i64 d)) => contains_of d h l cs A c (w.alloc X) w.heap.size (fun i hi => (hl i hi).keep (below_alloc w X)) (hrow.keep (below_alloc w X)) hlc hcm hX
  have HC := Lib.hid hC
  clear hl hrow h hC
  by_cases h5 : l.length ≤ 65535
  · have ha : r = !(l.any (badB d)) := by rw [← HR.out, allB, any_all, decide_eq_true h5]; rfl
    have HA := Lib.hid ha
    clear ha
    go_enter Tryd.func41, Tryd.ntmps41
    go_wp2_with fail
    refine (HC.out _ ?_).mono ?_
    · simp
    rintro e w1 ⟨rfl, h1⟩
    have H1 := Lib.hid h1
    clear h1
    go_wp2_with fail
    go_ret
    exact ⟨ret_bool HA.out.symm, (below_alloc w _).trans (H1.out.mono (by simp))⟩
  · have ha : r = false := by rw [← HR.out, allB, decide_eq_false h5]; rfl
    have HA := Lib.hid ha
    clear ha
    go_enter Tryd.func41, Tryd.ntmps41
    go_wp2_with fail
    go_ret
    exact ⟨ret_bool HA.out.symm, below_alloc w _⟩
end Go.Proofs.YtkcdckcckpgliaaDoor
