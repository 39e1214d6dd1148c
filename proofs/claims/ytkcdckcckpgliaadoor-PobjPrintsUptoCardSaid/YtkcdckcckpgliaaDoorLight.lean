/- light as the machine runs it: it ends, and answers yes or no. -/
import Derived.Test.YtkcdckcckpgliaaDoorPrint
import Derived.Outline
namespace Go.Proofs.YtkcdckcckpgliaaDoor
open Go.RowKit Go.Shelf

def IsB (e : Ending) : Prop := ∃ r, e = .returned (.bool r)
def LightAt (m : Nat) : Prop := ∀ (deep : Int) (o : PO) (v : Array Value) (w : World), -5 ≤ deep → deep < m → deep ≤ 100 → ORd w o v →
    Calls Tryd.prog 7 #[.agg v, .int .i64 deep] w fun e w' => IsB e ∧ Below w.heap.size w w'

set_option maxHeartbeats 1600000 in
set_option maxRecDepth 100000 in
theorem light_bad (deep : Int) (o : PO) (v : Array Value) (w : World) (ho : ORd w o v) (hd1 : -5 ≤ deep) (hd2 : deep ≤ 100) (hbad : deep < 0 ∨ 300 < o.l.length ∨ 300 < o.ks.length ∨ 70000 < o.t.size ∨ 5000 < o.d.length) :
    Calls Tryd.prog 7 #[.agg v, .int .i64 deep] w fun e w' => IsB e ∧ Below w.heap.size w w' := by
  obtain ⟨cs, hks, hkc, hkm, hl, hc, hlc, hlm, hd, hdc, hdm, htz, hkt⟩ := ho
  rename_i k n t ks l d Ak Al Ad ck cl cd
  simp only at hbad
  clear hks hl hc hd hkt
  have HB := Lib.hid (fun X => below_alloc w X)
  by_cases h1 : deep < 0
  · go_enter Tryd.func7, Tryd.ntmps7
    go_wp2_with fail
    go_ret
    exact ⟨⟨_, rfl⟩, HB.out _⟩
  by_cases h2 : 300 < l.length
  · go_enter Tryd.func7, Tryd.ntmps7
    go_wp2_with fail
    go_ret
    exact ⟨⟨_, rfl⟩, HB.out _⟩
  by_cases h3 : 300 < ks.length
  · go_enter Tryd.func7, Tryd.ntmps7
    go_wp2_with fail
    go_ret
    exact ⟨⟨_, rfl⟩, HB.out _⟩
  by_cases h4 : 70000 < t.size
  · go_enter Tryd.func7, Tryd.ntmps7
    go_wp2_with fail
    go_ret
    exact ⟨⟨_, rfl⟩, HB.out _⟩
  · have h5 : 5000 < d.length := by omega
    go_enter Tryd.func7, Tryd.ntmps7
    go_wp2_with fail
    go_ret
    exact ⟨⟨_, rfl⟩, HB.out _⟩

set_option maxHeartbeats 1600000 in
set_option maxRecDepth 100000 in
theorem light_good (m : Nat) (H : LightAt m) (deep : Int) (o : PO) (v : Array Value) (w : World) (ho : ORd w o v) (hd1 : -5 ≤ deep) (hd2 : deep < m + 1) (hd3 : deep ≤ 100) (hgood : ¬ (deep < 0 ∨ 300 < o.l.length ∨ 300 < o.ks.length ∨ 70000 < o.t.size ∨ 5000 < o.d.length)) :
    Calls Tryd.prog 7 #[.agg v, .int .i64 deep] w fun e w' => IsB e ∧ Below w.heap.size w w' := by
  obtain ⟨cs, hks, hkc, hkm, hl, hc, hlc, hlm, hd, hdc, hdm, htz, hkt⟩ := ho
  rename_i k n t ks l d Ak Al Ad ck cl cd
  simp only [not_or] at hgood
  obtain ⟨g1, g2, g3, g4, g5⟩ := hgood
  have HKS := Lib.hid (fun X => hks.keep (below_alloc w X)); have HL := Lib.hid hl; have HC := Lib.hid hc; have HKT := Lib.hid hkt; have HH := Lib.hid H
  have HB := Lib.hid (fun X => below_alloc w X)
  clear hks hl hc hd hkt H
  obtain ⟨X, hX⟩ : ∃ X, X = #[Value.int .i64 k, .int .i64 n, .string t, .slice Ak ks.length ck, .slice Al l.length cl, .slice Ad d.length cd] := ⟨_, rfl⟩
  have hX3 : X[3]? = some (.slice Ak ks.length ck) := by rw [hX]; rfl
  have hX4 : X[4]? = some (.slice Al l.length cl) := by rw [hX]; rfl
  rw [← hX]
  have HX := Lib.hid hX
  have c3 : (w.alloc (.cells X 26)).cell? ⟨w.heap.size, 3, none⟩ = some (.slice Ak ks.length ck) := by rw [Lib.cell_of_heap (heap_alloc_new w _)]; exact hX3
  have HC4 := Lib.hid (show (w.alloc (.cells X 26)).cell? ⟨w.heap.size, 4, none⟩ = some (.slice Al l.length cl) by rw [Lib.cell_of_heap (heap_alloc_new w _)]; exact hX4)
  clear hX hX3 hX4
  go_enter Tryd.func7, Tryd.ntmps7
  rw [HX.out]
  go_wp2_with fail
  rw [← HX.out]
  go_loop [5] (fun v => ∃ i : Nat, i ≤ ks.length ∧ v = .int .i64 i) (fun v => ks.length - (intOf v).toNat)
  case atStart => exact ⟨0, Nat.zero_le _, rfl⟩
  case round =>
    obtain ⟨i, hi, rfl⟩ := hrel
    by_cases hlt : i < ks.length
    · obtain ⟨b, off, hA, hcell⟩ := StrsAt.elem (HKS.out (.cells X 26)) i hlt
      have hks : ks[i].size ≤ 140737488355328 := HKT.out _ (List.getElem_mem hlt)
      generalize ks[i] = kk at *
      subst hA
      go_wp2_with fail
      · go_ret
        exact ⟨⟨_, rfl⟩, HB.out _⟩
      · go_round
        case rel => exact ⟨i + 1, by omega, by go_num⟩
        case measure => simp [intOf]; omega
    · obtain rfl : i = ks.length := by omega
      have c4 := HC4.out
      go_wp2_with fail
      clear c4 c3
      have HB1 := Lib.hid (Below.refl (w.alloc (.cells X 26)).heap.size (w.alloc (.cells X 26)))
      go_loopw [6] (fun v wr => ∃ i : Nat, i ≤ l.length ∧ v = .int .i64 i ∧ Hid (Below (w.alloc (.cells X 26)).heap.size (w.alloc (.cells X 26)) wr)) (fun v _ => l.length - (intOf v).toNat)
      case atStart => exact ⟨0, Nat.zero_le _, rfl, HB1⟩
      case round =>
        clear HB1
        obtain ⟨i, hi, rfl, hw⟩ := hrel
        have hc4 := (hw.out.cell (p := ⟨w.heap.size, 4, none⟩) (by simp)).trans HC4.out
        by_cases hlt : i < l.length
        · have hb0 : Below w.heap.size w wr := (HB.out (.cells X 26)).trans (hw.out.mono (by simp))
          obtain ⟨lb, loff, hAl, hcell⟩ := RowAt.elem HC.out i hlt
          have hx := HL.out i hlt
          have HXX := Lib.hid (fun W (h : Below w.heap.size w W) => hx.keep h)
          generalize l[i] = x at *
          generalize cs i = ci at *
          obtain ⟨xn, xt, xAk, xck, xAl, xcl, xAd, xcd, rfl⟩ := hx.agg
          have hcc : ∀ j v, _ → wr.cell? ⟨lb, loff + i * 6 + j, none⟩ = some v := fun j v hj => (hb0.cell (World.block_lt_of_cell? w _ (hcell j v hj))).trans (hcell j v hj)
          have e0 := hcc 0 _ rfl
          have e1 := hcc 1 _ rfl
          have e2 := hcc 2 _ rfl
          have e3 := hcc 3 _ rfl
          have e4 := hcc 4 _ rfl
          have e5 := hcc 5 _ rfl
          simp only [Nat.add_zero] at e0
          have HB0 := Lib.hid hb0
          subst hAl
          have HHC := Lib.hid (fun v (h : ORd wr x v) => HH.out (deep - 1) x v wr (by omega) (by omega) (by omega) h)
          clear hx hcell hcc hb0
          go_wp2_with fail
          refine (HHC.out _ (HXX.out _ HB0.out)).mono ?_
          rintro e w2 ⟨⟨r, rfl⟩, h2⟩
          have hn : Hid (Below (w.alloc (.cells X 26)).heap.size (w.alloc (.cells X 26)) w2) := hw.out.trans (h2.mono hw.out.size)
          have HF := Lib.hid ((HB.out (.cells X 26)).trans (hn.out.mono (by simp)))
          clear h2 e0 e1 e2 e3 e4 e5 hc4
          cases r with
          | false =>
            go_wp2_with fail
            go_ret
            exact ⟨⟨_, rfl⟩, HF.out⟩
          | true =>
            go_wp2_with fail
            go_roundw
            case rel => exact ⟨i + 1, by omega, by go_num, hn⟩
            case measure => simp [intOf]; omega
        · obtain rfl : i = l.length := by omega
          have HF := Lib.hid ((HB.out (.cells X 26)).trans (hw.out.mono (by simp)))
          go_wp2_with fail
          go_ret
          exact ⟨⟨_, rfl⟩, HF.out⟩

theorem light_all : ∀ m, LightAt m
  | 0 => fun deep o v w h1 h2 h3 ho => light_bad deep o v w ho h1 h3 (.inl (by simpa using h2))
  | m + 1 => fun deep o v w h1 h2 h3 ho => by
    by_cases hb : deep < 0 ∨ 300 < o.l.length ∨ 300 < o.ks.length ∨ 70000 < o.t.size ∨ 5000 < o.d.length
    · exact light_bad deep o v w ho h1 h3 hb
    · exact light_good m (light_all m) deep o v w ho h1 (by simpa using h2) h3 hb
theorem light_calls (o : PO) (v : Array Value) (w : World) (ho : ORd w o v) :
    Calls Tryd.prog 7 #[.agg v, .int .i64 40] w fun e w' => IsB e ∧ Below w.heap.size w w' := light_all 41 40 o v w (by decide) (by decide) (by decide) ho
end Go.Proofs.YtkcdckcckpgliaaDoor
