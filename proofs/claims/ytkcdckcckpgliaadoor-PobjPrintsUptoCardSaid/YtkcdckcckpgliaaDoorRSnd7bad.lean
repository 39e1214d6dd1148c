/- The reference's sound as the machine runs it: dictionaries. Printed by gen_rsnd3.py. -/
import Derived.Test.YtkcdckcckpgliaaDoorRSndK
import Derived.Outline
namespace Go.Proofs.YtkcdckcckpgliaaDoor
open Go.RowKit Go.Shelf

set_option maxHeartbeats 1600000 in
set_option maxRecDepth 100000 in
theorem rsnd_7_bad (D : Int) (hD1 : -5 ≤ D) (hD2 : D ≤ 1000) (s : Bool) (o : PO) (v : Array Value) (w : World) (ho : ORd w o v) (hk : o.k = 7) (hbad : ¬ (0 < D ∧ bareB o false false true true false = true ∧ o.ks.length = o.l.length)) :
    Calls Tryd.prog 18 #[.agg v, .int .i64 D, .bool s] w fun e w' => e = .returned (.bool false) ∧ Below w.heap.size w w' := by
  obtain ⟨cs, hks, hkc, hkm, hl, hc, hlc, hlm, hd, hdc, hdm, htz, hkt⟩ := ho
  rename_i k n t ks l d Ak Al Ad ck cl cd
  obtain rfl : k = 7 := hk
  clear hks hl hc hd hkt
  have HB := Lib.hid (fun X => below_alloc w X)
  by_cases h1 : D < 1
  · go_enter Tryd.func18, Tryd.ntmps18
    go_wp2_with fail
    go_ret
    exact ⟨rfl, HB.out _⟩
  by_cases h2 : n = 0
  rotate_left
  · go_enter Tryd.func18, Tryd.ntmps18
    go_wp2_with fail
    go_ret
    exact ⟨rfl, HB.out _⟩
  by_cases h3 : t.toList = []
  rotate_left
  · have h3' : t.toList.isEmpty = false := List.isEmpty_eq_false_iff.2 h3
    go_enter Tryd.func18, Tryd.ntmps18
    go_wp2_with fail
    go_ret
    exact ⟨rfl, HB.out _⟩
  by_cases h4 : ks.length = l.length
  rotate_left
  · have h4' : ((ks.length : Int) == l.length) = false := beq_eq_false_iff_ne.2 (by omega)
    go_enter Tryd.func18, Tryd.ntmps18
    go_wp2_with fail
    go_ret
    exact ⟨rfl, HB.out _⟩
  by_cases h5 : d.length = 0
  · exact absurd ⟨by omega, by simp [bareB, h2, h3, h5], h4⟩ hbad
  · have h5' : ((d.length : Int) == 0) = false := beq_eq_false_iff_ne.2 (by omega)
    go_enter Tryd.func18, Tryd.ntmps18
    go_wp2_with fail
    go_ret
    exact ⟨rfl, HB.out _⟩

end Go.Proofs.YtkcdckcckpgliaaDoor
