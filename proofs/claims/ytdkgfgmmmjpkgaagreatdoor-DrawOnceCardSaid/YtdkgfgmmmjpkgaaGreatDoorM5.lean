/-
  Lemmas, in their order: The writer's clips as the machine writes them. · The writer's clips as the machine writes them: bound.
-/
import Derived.Test.YtdkgfgmmmjpkgaaGreatDoorM4

namespace Go.Proofs.YtdkgfgmmmjpkgaaGreatDoor
open Go.RowKit Go.Shelf

/-- What stands behind the buffer, the clips' own cell whatever it is. -/
def RR (so : SoP) (A : Option Addr) (c : Nat) (outer : SoP) (A' : Option Addr) (c' : Nat) (vc vf : Value) : Array Value := (soC so A c ++ (soC outer A' c' ++ [vc, vf])).toArray
theorem ClipsAt.take {w : World} {A : Option Addr} {l : List ClipP} (h : ClipsAt w A l) (n : Nat) (hn : n ≤ l.length) : ClipsAt w A (l.take n) := by
  obtain ⟨cs, h1, h2⟩ := h
  refine ⟨cs, ?_, fun i hi => ?_⟩
  · rw [List.length_take, Nat.min_eq_left hn]
    rcases h1 with h1 | ⟨b, off, hA, hc⟩
    · exact .inl (by omega)
    · exact .inr ⟨b, off, hA, fun i hi => hc i (by omega)⟩
  · have hi' : i < l.length := by rw [List.length_take] at hi; omega
    rw [List.getElem_take]
    exact h2 i hi'
set_option maxRecDepth 100000 in
/-- The sixteen cells of a state written over. -/
theorem copy_so {T : TypeId} {ok : Nat → Prop} {b : Nat} {bs : List UInt8} {w : World} (so o : SoP) (A : Option Addr) (c : Nat) (A' : Option Addr) (c' : Nat) (vc vf : Value) (yf0 yf1 yf2 yf3 yf4 ys0 ys1 ys2 ys3 ys4 yp0 yp1 yp2 yp3 yp5 : Int) (ypd : List Int) (A2 : Option Addr) (c2 : Nat) (h : BufAt 5 T (RR so A c o A' c' vc vf) ok b bs w) :
    BufAt 5 T (RR ⟨⟨yf0, yf1, yf2, yf3, yf4⟩, ⟨ys0, ys1, ys2, ys3, ys4⟩, ⟨yp0, yp1, yp2, yp3, ypd, yp5⟩⟩ A2 c2 o A' c' vc vf) ok b bs ((((((((((((((((w.setCell ⟨b, 3, none⟩ (.int .i64 yf0)).setCell ⟨b, 4, none⟩ (.int .i64 yf1)).setCell ⟨b, 5, none⟩ (.int .i64 yf2)).setCell ⟨b, 6, none⟩ (.int .i64 yf3)).setCell ⟨b, 7, none⟩ (.int .i64 yf4)).setCell ⟨b, 8, none⟩ (.int .i64 ys0)).setCell ⟨b, 9, none⟩ (.int .i64 ys1)).setCell ⟨b, 10, none⟩ (.int .i64 ys2)).setCell ⟨b, 11, none⟩ (.int .i64 ys3)).setCell ⟨b, 12, none⟩ (.int .i64 ys4)).setCell ⟨b, 13, none⟩ (.int .i64 yp0)).setCell ⟨b, 14, none⟩ (.int .i64 yp1)).setCell ⟨b, 15, none⟩ (.int .i64 yp2)).setCell ⟨b, 16, none⟩ (.int .i64 yp3)).setCell ⟨b, 17, none⟩ (.slice A2 ypd.length c2)).setCell ⟨b, 18, none⟩ (.int .i64 yp5)) := by
  obtain ⟨⟨a0, a1, a2, a3, a4⟩, ⟨b0, b1, b2, b3, b4⟩, ⟨d0, d1, d2, d3, d4, d5⟩⟩ := so
  obtain ⟨⟨e0, e1, e2, e3, e4⟩, ⟨g0, g1, g2, g3, g4⟩, ⟨k0, k1, k2, k3, k4, k5⟩⟩ := o
  have h0 : BufAt 5 T #[.int .i64 a0, .int .i64 a1, .int .i64 a2, .int .i64 a3, .int .i64 a4, .int .i64 b0, .int .i64 b1, .int .i64 b2, .int .i64 b3, .int .i64 b4, .int .i64 d0, .int .i64 d1, .int .i64 d2, .int .i64 d3, .slice A d4.length c, .int .i64 d5, .int .i64 e0, .int .i64 e1, .int .i64 e2, .int .i64 e3, .int .i64 e4, .int .i64 g0, .int .i64 g1, .int .i64 g2, .int .i64 g3, .int .i64 g4, .int .i64 k0, .int .i64 k1, .int .i64 k2, .int .i64 k3, .slice A' k4.length c', .int .i64 k5, vc, vf] ok b bs w := h
  have h1 : BufAt 5 T #[.int .i64 yf0, .int .i64 a1, .int .i64 a2, .int .i64 a3, .int .i64 a4, .int .i64 b0, .int .i64 b1, .int .i64 b2, .int .i64 b3, .int .i64 b4, .int .i64 d0, .int .i64 d1, .int .i64 d2, .int .i64 d3, .slice A d4.length c, .int .i64 d5, .int .i64 e0, .int .i64 e1, .int .i64 e2, .int .i64 e3, .int .i64 e4, .int .i64 g0, .int .i64 g1, .int .i64 g2, .int .i64 g3, .int .i64 g4, .int .i64 k0, .int .i64 k1, .int .i64 k2, .int .i64 k3, .slice A' k4.length c', .int .i64 k5, vc, vf] ok b bs (w.setCell ⟨b, 3, none⟩ (.int .i64 yf0)) := h0.set_rest 0 _
  have h2 : BufAt 5 T #[.int .i64 yf0, .int .i64 yf1, .int .i64 a2, .int .i64 a3, .int .i64 a4, .int .i64 b0, .int .i64 b1, .int .i64 b2, .int .i64 b3, .int .i64 b4, .int .i64 d0, .int .i64 d1, .int .i64 d2, .int .i64 d3, .slice A d4.length c, .int .i64 d5, .int .i64 e0, .int .i64 e1, .int .i64 e2, .int .i64 e3, .int .i64 e4, .int .i64 g0, .int .i64 g1, .int .i64 g2, .int .i64 g3, .int .i64 g4, .int .i64 k0, .int .i64 k1, .int .i64 k2, .int .i64 k3, .slice A' k4.length c', .int .i64 k5, vc, vf] ok b bs ((w.setCell ⟨b, 3, none⟩ (.int .i64 yf0)).setCell ⟨b, 4, none⟩ (.int .i64 yf1)) := h1.set_rest 1 _
  have h3 : BufAt 5 T #[.int .i64 yf0, .int .i64 yf1, .int .i64 yf2, .int .i64 a3, .int .i64 a4, .int .i64 b0, .int .i64 b1, .int .i64 b2, .int .i64 b3, .int .i64 b4, .int .i64 d0, .int .i64 d1, .int .i64 d2, .int .i64 d3, .slice A d4.length c, .int .i64 d5, .int .i64 e0, .int .i64 e1, .int .i64 e2, .int .i64 e3, .int .i64 e4, .int .i64 g0, .int .i64 g1, .int .i64 g2, .int .i64 g3, .int .i64 g4, .int .i64 k0, .int .i64 k1, .int .i64 k2, .int .i64 k3, .slice A' k4.length c', .int .i64 k5, vc, vf] ok b bs (((w.setCell ⟨b, 3, none⟩ (.int .i64 yf0)).setCell ⟨b, 4, none⟩ (.int .i64 yf1)).setCell ⟨b, 5, none⟩ (.int .i64 yf2)) := h2.set_rest 2 _
  have h4 : BufAt 5 T #[.int .i64 yf0, .int .i64 yf1, .int .i64 yf2, .int .i64 yf3, .int .i64 a4, .int .i64 b0, .int .i64 b1, .int .i64 b2, .int .i64 b3, .int .i64 b4, .int .i64 d0, .int .i64 d1, .int .i64 d2, .int .i64 d3, .slice A d4.length c, .int .i64 d5, .int .i64 e0, .int .i64 e1, .int .i64 e2, .int .i64 e3, .int .i64 e4, .int .i64 g0, .int .i64 g1, .int .i64 g2, .int .i64 g3, .int .i64 g4, .int .i64 k0, .int .i64 k1, .int .i64 k2, .int .i64 k3, .slice A' k4.length c', .int .i64 k5, vc, vf] ok b bs ((((w.setCell ⟨b, 3, none⟩ (.int .i64 yf0)).setCell ⟨b, 4, none⟩ (.int .i64 yf1)).setCell ⟨b, 5, none⟩ (.int .i64 yf2)).setCell ⟨b, 6, none⟩ (.int .i64 yf3)) := h3.set_rest 3 _
  have h5 : BufAt 5 T #[.int .i64 yf0, .int .i64 yf1, .int .i64 yf2, .int .i64 yf3, .int .i64 yf4, .int .i64 b0, .int .i64 b1, .int .i64 b2, .int .i64 b3, .int .i64 b4, .int .i64 d0, .int .i64 d1, .int .i64 d2, .int .i64 d3, .slice A d4.length c, .int .i64 d5, .int .i64 e0, .int .i64 e1, .int .i64 e2, .int .i64 e3, .int .i64 e4, .int .i64 g0, .int .i64 g1, .int .i64 g2, .int .i64 g3, .int .i64 g4, .int .i64 k0, .int .i64 k1, .int .i64 k2, .int .i64 k3, .slice A' k4.length c', .int .i64 k5, vc, vf] ok b bs (((((w.setCell ⟨b, 3, none⟩ (.int .i64 yf0)).setCell ⟨b, 4, none⟩ (.int .i64 yf1)).setCell ⟨b, 5, none⟩ (.int .i64 yf2)).setCell ⟨b, 6, none⟩ (.int .i64 yf3)).setCell ⟨b, 7, none⟩ (.int .i64 yf4)) := h4.set_rest 4 _
  have h6 : BufAt 5 T #[.int .i64 yf0, .int .i64 yf1, .int .i64 yf2, .int .i64 yf3, .int .i64 yf4, .int .i64 ys0, .int .i64 b1, .int .i64 b2, .int .i64 b3, .int .i64 b4, .int .i64 d0, .int .i64 d1, .int .i64 d2, .int .i64 d3, .slice A d4.length c, .int .i64 d5, .int .i64 e0, .int .i64 e1, .int .i64 e2, .int .i64 e3, .int .i64 e4, .int .i64 g0, .int .i64 g1, .int .i64 g2, .int .i64 g3, .int .i64 g4, .int .i64 k0, .int .i64 k1, .int .i64 k2, .int .i64 k3, .slice A' k4.length c', .int .i64 k5, vc, vf] ok b bs ((((((w.setCell ⟨b, 3, none⟩ (.int .i64 yf0)).setCell ⟨b, 4, none⟩ (.int .i64 yf1)).setCell ⟨b, 5, none⟩ (.int .i64 yf2)).setCell ⟨b, 6, none⟩ (.int .i64 yf3)).setCell ⟨b, 7, none⟩ (.int .i64 yf4)).setCell ⟨b, 8, none⟩ (.int .i64 ys0)) := h5.set_rest 5 _
  have h7 : BufAt 5 T #[.int .i64 yf0, .int .i64 yf1, .int .i64 yf2, .int .i64 yf3, .int .i64 yf4, .int .i64 ys0, .int .i64 ys1, .int .i64 b2, .int .i64 b3, .int .i64 b4, .int .i64 d0, .int .i64 d1, .int .i64 d2, .int .i64 d3, .slice A d4.length c, .int .i64 d5, .int .i64 e0, .int .i64 e1, .int .i64 e2, .int .i64 e3, .int .i64 e4, .int .i64 g0, .int .i64 g1, .int .i64 g2, .int .i64 g3, .int .i64 g4, .int .i64 k0, .int .i64 k1, .int .i64 k2, .int .i64 k3, .slice A' k4.length c', .int .i64 k5, vc, vf] ok b bs (((((((w.setCell ⟨b, 3, none⟩ (.int .i64 yf0)).setCell ⟨b, 4, none⟩ (.int .i64 yf1)).setCell ⟨b, 5, none⟩ (.int .i64 yf2)).setCell ⟨b, 6, none⟩ (.int .i64 yf3)).setCell ⟨b, 7, none⟩ (.int .i64 yf4)).setCell ⟨b, 8, none⟩ (.int .i64 ys0)).setCell ⟨b, 9, none⟩ (.int .i64 ys1)) := h6.set_rest 6 _
  have h8 : BufAt 5 T #[.int .i64 yf0, .int .i64 yf1, .int .i64 yf2, .int .i64 yf3, .int .i64 yf4, .int .i64 ys0, .int .i64 ys1, .int .i64 ys2, .int .i64 b3, .int .i64 b4, .int .i64 d0, .int .i64 d1, .int .i64 d2, .int .i64 d3, .slice A d4.length c, .int .i64 d5, .int .i64 e0, .int .i64 e1, .int .i64 e2, .int .i64 e3, .int .i64 e4, .int .i64 g0, .int .i64 g1, .int .i64 g2, .int .i64 g3, .int .i64 g4, .int .i64 k0, .int .i64 k1, .int .i64 k2, .int .i64 k3, .slice A' k4.length c', .int .i64 k5, vc, vf] ok b bs ((((((((w.setCell ⟨b, 3, none⟩ (.int .i64 yf0)).setCell ⟨b, 4, none⟩ (.int .i64 yf1)).setCell ⟨b, 5, none⟩ (.int .i64 yf2)).setCell ⟨b, 6, none⟩ (.int .i64 yf3)).setCell ⟨b, 7, none⟩ (.int .i64 yf4)).setCell ⟨b, 8, none⟩ (.int .i64 ys0)).setCell ⟨b, 9, none⟩ (.int .i64 ys1)).setCell ⟨b, 10, none⟩ (.int .i64 ys2)) := h7.set_rest 7 _
  have h9 : BufAt 5 T #[.int .i64 yf0, .int .i64 yf1, .int .i64 yf2, .int .i64 yf3, .int .i64 yf4, .int .i64 ys0, .int .i64 ys1, .int .i64 ys2, .int .i64 ys3, .int .i64 b4, .int .i64 d0, .int .i64 d1, .int .i64 d2, .int .i64 d3, .slice A d4.length c, .int .i64 d5, .int .i64 e0, .int .i64 e1, .int .i64 e2, .int .i64 e3, .int .i64 e4, .int .i64 g0, .int .i64 g1, .int .i64 g2, .int .i64 g3, .int .i64 g4, .int .i64 k0, .int .i64 k1, .int .i64 k2, .int .i64 k3, .slice A' k4.length c', .int .i64 k5, vc, vf] ok b bs (((((((((w.setCell ⟨b, 3, none⟩ (.int .i64 yf0)).setCell ⟨b, 4, none⟩ (.int .i64 yf1)).setCell ⟨b, 5, none⟩ (.int .i64 yf2)).setCell ⟨b, 6, none⟩ (.int .i64 yf3)).setCell ⟨b, 7, none⟩ (.int .i64 yf4)).setCell ⟨b, 8, none⟩ (.int .i64 ys0)).setCell ⟨b, 9, none⟩ (.int .i64 ys1)).setCell ⟨b, 10, none⟩ (.int .i64 ys2)).setCell ⟨b, 11, none⟩ (.int .i64 ys3)) := h8.set_rest 8 _
  have h10 : BufAt 5 T #[.int .i64 yf0, .int .i64 yf1, .int .i64 yf2, .int .i64 yf3, .int .i64 yf4, .int .i64 ys0, .int .i64 ys1, .int .i64 ys2, .int .i64 ys3, .int .i64 ys4, .int .i64 d0, .int .i64 d1, .int .i64 d2, .int .i64 d3, .slice A d4.length c, .int .i64 d5, .int .i64 e0, .int .i64 e1, .int .i64 e2, .int .i64 e3, .int .i64 e4, .int .i64 g0, .int .i64 g1, .int .i64 g2, .int .i64 g3, .int .i64 g4, .int .i64 k0, .int .i64 k1, .int .i64 k2, .int .i64 k3, .slice A' k4.length c', .int .i64 k5, vc, vf] ok b bs ((((((((((w.setCell ⟨b, 3, none⟩ (.int .i64 yf0)).setCell ⟨b, 4, none⟩ (.int .i64 yf1)).setCell ⟨b, 5, none⟩ (.int .i64 yf2)).setCell ⟨b, 6, none⟩ (.int .i64 yf3)).setCell ⟨b, 7, none⟩ (.int .i64 yf4)).setCell ⟨b, 8, none⟩ (.int .i64 ys0)).setCell ⟨b, 9, none⟩ (.int .i64 ys1)).setCell ⟨b, 10, none⟩ (.int .i64 ys2)).setCell ⟨b, 11, none⟩ (.int .i64 ys3)).setCell ⟨b, 12, none⟩ (.int .i64 ys4)) := h9.set_rest 9 _
  have h11 : BufAt 5 T #[.int .i64 yf0, .int .i64 yf1, .int .i64 yf2, .int .i64 yf3, .int .i64 yf4, .int .i64 ys0, .int .i64 ys1, .int .i64 ys2, .int .i64 ys3, .int .i64 ys4, .int .i64 yp0, .int .i64 d1, .int .i64 d2, .int .i64 d3, .slice A d4.length c, .int .i64 d5, .int .i64 e0, .int .i64 e1, .int .i64 e2, .int .i64 e3, .int .i64 e4, .int .i64 g0, .int .i64 g1, .int .i64 g2, .int .i64 g3, .int .i64 g4, .int .i64 k0, .int .i64 k1, .int .i64 k2, .int .i64 k3, .slice A' k4.length c', .int .i64 k5, vc, vf] ok b bs (((((((((((w.setCell ⟨b, 3, none⟩ (.int .i64 yf0)).setCell ⟨b, 4, none⟩ (.int .i64 yf1)).setCell ⟨b, 5, none⟩ (.int .i64 yf2)).setCell ⟨b, 6, none⟩ (.int .i64 yf3)).setCell ⟨b, 7, none⟩ (.int .i64 yf4)).setCell ⟨b, 8, none⟩ (.int .i64 ys0)).setCell ⟨b, 9, none⟩ (.int .i64 ys1)).setCell ⟨b, 10, none⟩ (.int .i64 ys2)).setCell ⟨b, 11, none⟩ (.int .i64 ys3)).setCell ⟨b, 12, none⟩ (.int .i64 ys4)).setCell ⟨b, 13, none⟩ (.int .i64 yp0)) := h10.set_rest 10 _
  have h12 : BufAt 5 T #[.int .i64 yf0, .int .i64 yf1, .int .i64 yf2, .int .i64 yf3, .int .i64 yf4, .int .i64 ys0, .int .i64 ys1, .int .i64 ys2, .int .i64 ys3, .int .i64 ys4, .int .i64 yp0, .int .i64 yp1, .int .i64 d2, .int .i64 d3, .slice A d4.length c, .int .i64 d5, .int .i64 e0, .int .i64 e1, .int .i64 e2, .int .i64 e3, .int .i64 e4, .int .i64 g0, .int .i64 g1, .int .i64 g2, .int .i64 g3, .int .i64 g4, .int .i64 k0, .int .i64 k1, .int .i64 k2, .int .i64 k3, .slice A' k4.length c', .int .i64 k5, vc, vf] ok b bs ((((((((((((w.setCell ⟨b, 3, none⟩ (.int .i64 yf0)).setCell ⟨b, 4, none⟩ (.int .i64 yf1)).setCell ⟨b, 5, none⟩ (.int .i64 yf2)).setCell ⟨b, 6, none⟩ (.int .i64 yf3)).setCell ⟨b, 7, none⟩ (.int .i64 yf4)).setCell ⟨b, 8, none⟩ (.int .i64 ys0)).setCell ⟨b, 9, none⟩ (.int .i64 ys1)).setCell ⟨b, 10, none⟩ (.int .i64 ys2)).setCell ⟨b, 11, none⟩ (.int .i64 ys3)).setCell ⟨b, 12, none⟩ (.int .i64 ys4)).setCell ⟨b, 13, none⟩ (.int .i64 yp0)).setCell ⟨b, 14, none⟩ (.int .i64 yp1)) := h11.set_rest 11 _
  have h13 : BufAt 5 T #[.int .i64 yf0, .int .i64 yf1, .int .i64 yf2, .int .i64 yf3, .int .i64 yf4, .int .i64 ys0, .int .i64 ys1, .int .i64 ys2, .int .i64 ys3, .int .i64 ys4, .int .i64 yp0, .int .i64 yp1, .int .i64 yp2, .int .i64 d3, .slice A d4.length c, .int .i64 d5, .int .i64 e0, .int .i64 e1, .int .i64 e2, .int .i64 e3, .int .i64 e4, .int .i64 g0, .int .i64 g1, .int .i64 g2, .int .i64 g3, .int .i64 g4, .int .i64 k0, .int .i64 k1, .int .i64 k2, .int .i64 k3, .slice A' k4.length c', .int .i64 k5, vc, vf] ok b bs (((((((((((((w.setCell ⟨b, 3, none⟩ (.int .i64 yf0)).setCell ⟨b, 4, none⟩ (.int .i64 yf1)).setCell ⟨b, 5, none⟩ (.int .i64 yf2)).setCell ⟨b, 6, none⟩ (.int .i64 yf3)).setCell ⟨b, 7, none⟩ (.int .i64 yf4)).setCell ⟨b, 8, none⟩ (.int .i64 ys0)).setCell ⟨b, 9, none⟩ (.int .i64 ys1)).setCell ⟨b, 10, none⟩ (.int .i64 ys2)).setCell ⟨b, 11, none⟩ (.int .i64 ys3)).setCell ⟨b, 12, none⟩ (.int .i64 ys4)).setCell ⟨b, 13, none⟩ (.int .i64 yp0)).setCell ⟨b, 14, none⟩ (.int .i64 yp1)).setCell ⟨b, 15, none⟩ (.int .i64 yp2)) := h12.set_rest 12 _
  have h14 : BufAt 5 T #[.int .i64 yf0, .int .i64 yf1, .int .i64 yf2, .int .i64 yf3, .int .i64 yf4, .int .i64 ys0, .int .i64 ys1, .int .i64 ys2, .int .i64 ys3, .int .i64 ys4, .int .i64 yp0, .int .i64 yp1, .int .i64 yp2, .int .i64 yp3, .slice A d4.length c, .int .i64 d5, .int .i64 e0, .int .i64 e1, .int .i64 e2, .int .i64 e3, .int .i64 e4, .int .i64 g0, .int .i64 g1, .int .i64 g2, .int .i64 g3, .int .i64 g4, .int .i64 k0, .int .i64 k1, .int .i64 k2, .int .i64 k3, .slice A' k4.length c', .int .i64 k5, vc, vf] ok b bs ((((((((((((((w.setCell ⟨b, 3, none⟩ (.int .i64 yf0)).setCell ⟨b, 4, none⟩ (.int .i64 yf1)).setCell ⟨b, 5, none⟩ (.int .i64 yf2)).setCell ⟨b, 6, none⟩ (.int .i64 yf3)).setCell ⟨b, 7, none⟩ (.int .i64 yf4)).setCell ⟨b, 8, none⟩ (.int .i64 ys0)).setCell ⟨b, 9, none⟩ (.int .i64 ys1)).setCell ⟨b, 10, none⟩ (.int .i64 ys2)).setCell ⟨b, 11, none⟩ (.int .i64 ys3)).setCell ⟨b, 12, none⟩ (.int .i64 ys4)).setCell ⟨b, 13, none⟩ (.int .i64 yp0)).setCell ⟨b, 14, none⟩ (.int .i64 yp1)).setCell ⟨b, 15, none⟩ (.int .i64 yp2)).setCell ⟨b, 16, none⟩ (.int .i64 yp3)) := h13.set_rest 13 _
  have h15 : BufAt 5 T #[.int .i64 yf0, .int .i64 yf1, .int .i64 yf2, .int .i64 yf3, .int .i64 yf4, .int .i64 ys0, .int .i64 ys1, .int .i64 ys2, .int .i64 ys3, .int .i64 ys4, .int .i64 yp0, .int .i64 yp1, .int .i64 yp2, .int .i64 yp3, .slice A2 ypd.length c2, .int .i64 d5, .int .i64 e0, .int .i64 e1, .int .i64 e2, .int .i64 e3, .int .i64 e4, .int .i64 g0, .int .i64 g1, .int .i64 g2, .int .i64 g3, .int .i64 g4, .int .i64 k0, .int .i64 k1, .int .i64 k2, .int .i64 k3, .slice A' k4.length c', .int .i64 k5, vc, vf] ok b bs (((((((((((((((w.setCell ⟨b, 3, none⟩ (.int .i64 yf0)).setCell ⟨b, 4, none⟩ (.int .i64 yf1)).setCell ⟨b, 5, none⟩ (.int .i64 yf2)).setCell ⟨b, 6, none⟩ (.int .i64 yf3)).setCell ⟨b, 7, none⟩ (.int .i64 yf4)).setCell ⟨b, 8, none⟩ (.int .i64 ys0)).setCell ⟨b, 9, none⟩ (.int .i64 ys1)).setCell ⟨b, 10, none⟩ (.int .i64 ys2)).setCell ⟨b, 11, none⟩ (.int .i64 ys3)).setCell ⟨b, 12, none⟩ (.int .i64 ys4)).setCell ⟨b, 13, none⟩ (.int .i64 yp0)).setCell ⟨b, 14, none⟩ (.int .i64 yp1)).setCell ⟨b, 15, none⟩ (.int .i64 yp2)).setCell ⟨b, 16, none⟩ (.int .i64 yp3)).setCell ⟨b, 17, none⟩ (.slice A2 ypd.length c2)) := h14.set_rest 14 _
  have h16 : BufAt 5 T #[.int .i64 yf0, .int .i64 yf1, .int .i64 yf2, .int .i64 yf3, .int .i64 yf4, .int .i64 ys0, .int .i64 ys1, .int .i64 ys2, .int .i64 ys3, .int .i64 ys4, .int .i64 yp0, .int .i64 yp1, .int .i64 yp2, .int .i64 yp3, .slice A2 ypd.length c2, .int .i64 yp5, .int .i64 e0, .int .i64 e1, .int .i64 e2, .int .i64 e3, .int .i64 e4, .int .i64 g0, .int .i64 g1, .int .i64 g2, .int .i64 g3, .int .i64 g4, .int .i64 k0, .int .i64 k1, .int .i64 k2, .int .i64 k3, .slice A' k4.length c', .int .i64 k5, vc, vf] ok b bs ((((((((((((((((w.setCell ⟨b, 3, none⟩ (.int .i64 yf0)).setCell ⟨b, 4, none⟩ (.int .i64 yf1)).setCell ⟨b, 5, none⟩ (.int .i64 yf2)).setCell ⟨b, 6, none⟩ (.int .i64 yf3)).setCell ⟨b, 7, none⟩ (.int .i64 yf4)).setCell ⟨b, 8, none⟩ (.int .i64 ys0)).setCell ⟨b, 9, none⟩ (.int .i64 ys1)).setCell ⟨b, 10, none⟩ (.int .i64 ys2)).setCell ⟨b, 11, none⟩ (.int .i64 ys3)).setCell ⟨b, 12, none⟩ (.int .i64 ys4)).setCell ⟨b, 13, none⟩ (.int .i64 yp0)).setCell ⟨b, 14, none⟩ (.int .i64 yp1)).setCell ⟨b, 15, none⟩ (.int .i64 yp2)).setCell ⟨b, 16, none⟩ (.int .i64 yp3)).setCell ⟨b, 17, none⟩ (.slice A2 ypd.length c2)).setCell ⟨b, 18, none⟩ (.int .i64 yp5)) := h15.set_rest 15 _
  exact h16
theorem copyF_so {ok : Nat → Prop} {b : Nat} {w0 w : World} (yf0 yf1 yf2 yf3 yf4 ys0 ys1 ys2 ys3 ys4 yp0 yp1 yp2 yp3 yp5 : Int) (ypd : List Int) (A2 : Option Addr) (c2 : Nat) (hF : Fr ok w0 w) (hb : ok b) :
    Fr ok w0 ((((((((((((((((w.setCell ⟨b, 3, none⟩ (.int .i64 yf0)).setCell ⟨b, 4, none⟩ (.int .i64 yf1)).setCell ⟨b, 5, none⟩ (.int .i64 yf2)).setCell ⟨b, 6, none⟩ (.int .i64 yf3)).setCell ⟨b, 7, none⟩ (.int .i64 yf4)).setCell ⟨b, 8, none⟩ (.int .i64 ys0)).setCell ⟨b, 9, none⟩ (.int .i64 ys1)).setCell ⟨b, 10, none⟩ (.int .i64 ys2)).setCell ⟨b, 11, none⟩ (.int .i64 ys3)).setCell ⟨b, 12, none⟩ (.int .i64 ys4)).setCell ⟨b, 13, none⟩ (.int .i64 yp0)).setCell ⟨b, 14, none⟩ (.int .i64 yp1)).setCell ⟨b, 15, none⟩ (.int .i64 yp2)).setCell ⟨b, 16, none⟩ (.int .i64 yp3)).setCell ⟨b, 17, none⟩ (.slice A2 ypd.length c2)).setCell ⟨b, 18, none⟩ (.int .i64 yp5)) := (Fr.setCell (Fr.setCell (Fr.setCell (Fr.setCell (Fr.setCell (Fr.setCell (Fr.setCell (Fr.setCell (Fr.setCell (Fr.setCell (Fr.setCell (Fr.setCell (Fr.setCell (Fr.setCell (Fr.setCell (Fr.setCell hF (p := ⟨b, 3, none⟩) (.inr hb) (.int .i64 yf0)) (p := ⟨b, 4, none⟩) (.inr hb) (.int .i64 yf1)) (p := ⟨b, 5, none⟩) (.inr hb) (.int .i64 yf2)) (p := ⟨b, 6, none⟩) (.inr hb) (.int .i64 yf3)) (p := ⟨b, 7, none⟩) (.inr hb) (.int .i64 yf4)) (p := ⟨b, 8, none⟩) (.inr hb) (.int .i64 ys0)) (p := ⟨b, 9, none⟩) (.inr hb) (.int .i64 ys1)) (p := ⟨b, 10, none⟩) (.inr hb) (.int .i64 ys2)) (p := ⟨b, 11, none⟩) (.inr hb) (.int .i64 ys3)) (p := ⟨b, 12, none⟩) (.inr hb) (.int .i64 ys4)) (p := ⟨b, 13, none⟩) (.inr hb) (.int .i64 yp0)) (p := ⟨b, 14, none⟩) (.inr hb) (.int .i64 yp1)) (p := ⟨b, 15, none⟩) (.inr hb) (.int .i64 yp2)) (p := ⟨b, 16, none⟩) (.inr hb) (.int .i64 yp3)) (p := ⟨b, 17, none⟩) (.inr hb) (.slice A2 ypd.length c2)) (p := ⟨b, 18, none⟩) (.inr hb) (.int .i64 yp5))
set_option maxRecDepth 100000 in
/-- The sixteen cells of a state written over. -/
theorem copy_outer {T : TypeId} {ok : Nat → Prop} {b : Nat} {bs : List UInt8} {w : World} (outer o : SoP) (A : Option Addr) (c : Nat) (A' : Option Addr) (c' : Nat) (vc vf : Value) (yf0 yf1 yf2 yf3 yf4 ys0 ys1 ys2 ys3 ys4 yp0 yp1 yp2 yp3 yp5 : Int) (ypd : List Int) (A2 : Option Addr) (c2 : Nat) (h : BufAt 5 T (RR o A c outer A' c' vc vf) ok b bs w) :
    BufAt 5 T (RR o A c ⟨⟨yf0, yf1, yf2, yf3, yf4⟩, ⟨ys0, ys1, ys2, ys3, ys4⟩, ⟨yp0, yp1, yp2, yp3, ypd, yp5⟩⟩ A2 c2 vc vf) ok b bs ((((((((((((((((w.setCell ⟨b, 19, none⟩ (.int .i64 yf0)).setCell ⟨b, 20, none⟩ (.int .i64 yf1)).setCell ⟨b, 21, none⟩ (.int .i64 yf2)).setCell ⟨b, 22, none⟩ (.int .i64 yf3)).setCell ⟨b, 23, none⟩ (.int .i64 yf4)).setCell ⟨b, 24, none⟩ (.int .i64 ys0)).setCell ⟨b, 25, none⟩ (.int .i64 ys1)).setCell ⟨b, 26, none⟩ (.int .i64 ys2)).setCell ⟨b, 27, none⟩ (.int .i64 ys3)).setCell ⟨b, 28, none⟩ (.int .i64 ys4)).setCell ⟨b, 29, none⟩ (.int .i64 yp0)).setCell ⟨b, 30, none⟩ (.int .i64 yp1)).setCell ⟨b, 31, none⟩ (.int .i64 yp2)).setCell ⟨b, 32, none⟩ (.int .i64 yp3)).setCell ⟨b, 33, none⟩ (.slice A2 ypd.length c2)).setCell ⟨b, 34, none⟩ (.int .i64 yp5)) := by
  obtain ⟨⟨a0, a1, a2, a3, a4⟩, ⟨b0, b1, b2, b3, b4⟩, ⟨d0, d1, d2, d3, d4, d5⟩⟩ := outer
  obtain ⟨⟨e0, e1, e2, e3, e4⟩, ⟨g0, g1, g2, g3, g4⟩, ⟨k0, k1, k2, k3, k4, k5⟩⟩ := o
  have h0 : BufAt 5 T #[.int .i64 e0, .int .i64 e1, .int .i64 e2, .int .i64 e3, .int .i64 e4, .int .i64 g0, .int .i64 g1, .int .i64 g2, .int .i64 g3, .int .i64 g4, .int .i64 k0, .int .i64 k1, .int .i64 k2, .int .i64 k3, .slice A k4.length c, .int .i64 k5, .int .i64 a0, .int .i64 a1, .int .i64 a2, .int .i64 a3, .int .i64 a4, .int .i64 b0, .int .i64 b1, .int .i64 b2, .int .i64 b3, .int .i64 b4, .int .i64 d0, .int .i64 d1, .int .i64 d2, .int .i64 d3, .slice A' d4.length c', .int .i64 d5, vc, vf] ok b bs w := h
  have h1 : BufAt 5 T #[.int .i64 e0, .int .i64 e1, .int .i64 e2, .int .i64 e3, .int .i64 e4, .int .i64 g0, .int .i64 g1, .int .i64 g2, .int .i64 g3, .int .i64 g4, .int .i64 k0, .int .i64 k1, .int .i64 k2, .int .i64 k3, .slice A k4.length c, .int .i64 k5, .int .i64 yf0, .int .i64 a1, .int .i64 a2, .int .i64 a3, .int .i64 a4, .int .i64 b0, .int .i64 b1, .int .i64 b2, .int .i64 b3, .int .i64 b4, .int .i64 d0, .int .i64 d1, .int .i64 d2, .int .i64 d3, .slice A' d4.length c', .int .i64 d5, vc, vf] ok b bs (w.setCell ⟨b, 19, none⟩ (.int .i64 yf0)) := h0.set_rest 16 _
  have h2 : BufAt 5 T #[.int .i64 e0, .int .i64 e1, .int .i64 e2, .int .i64 e3, .int .i64 e4, .int .i64 g0, .int .i64 g1, .int .i64 g2, .int .i64 g3, .int .i64 g4, .int .i64 k0, .int .i64 k1, .int .i64 k2, .int .i64 k3, .slice A k4.length c, .int .i64 k5, .int .i64 yf0, .int .i64 yf1, .int .i64 a2, .int .i64 a3, .int .i64 a4, .int .i64 b0, .int .i64 b1, .int .i64 b2, .int .i64 b3, .int .i64 b4, .int .i64 d0, .int .i64 d1, .int .i64 d2, .int .i64 d3, .slice A' d4.length c', .int .i64 d5, vc, vf] ok b bs ((w.setCell ⟨b, 19, none⟩ (.int .i64 yf0)).setCell ⟨b, 20, none⟩ (.int .i64 yf1)) := h1.set_rest 17 _
  have h3 : BufAt 5 T #[.int .i64 e0, .int .i64 e1, .int .i64 e2, .int .i64 e3, .int .i64 e4, .int .i64 g0, .int .i64 g1, .int .i64 g2, .int .i64 g3, .int .i64 g4, .int .i64 k0, .int .i64 k1, .int .i64 k2, .int .i64 k3, .slice A k4.length c, .int .i64 k5, .int .i64 yf0, .int .i64 yf1, .int .i64 yf2, .int .i64 a3, .int .i64 a4, .int .i64 b0, .int .i64 b1, .int .i64 b2, .int .i64 b3, .int .i64 b4, .int .i64 d0, .int .i64 d1, .int .i64 d2, .int .i64 d3, .slice A' d4.length c', .int .i64 d5, vc, vf] ok b bs (((w.setCell ⟨b, 19, none⟩ (.int .i64 yf0)).setCell ⟨b, 20, none⟩ (.int .i64 yf1)).setCell ⟨b, 21, none⟩ (.int .i64 yf2)) := h2.set_rest 18 _
  have h4 : BufAt 5 T #[.int .i64 e0, .int .i64 e1, .int .i64 e2, .int .i64 e3, .int .i64 e4, .int .i64 g0, .int .i64 g1, .int .i64 g2, .int .i64 g3, .int .i64 g4, .int .i64 k0, .int .i64 k1, .int .i64 k2, .int .i64 k3, .slice A k4.length c, .int .i64 k5, .int .i64 yf0, .int .i64 yf1, .int .i64 yf2, .int .i64 yf3, .int .i64 a4, .int .i64 b0, .int .i64 b1, .int .i64 b2, .int .i64 b3, .int .i64 b4, .int .i64 d0, .int .i64 d1, .int .i64 d2, .int .i64 d3, .slice A' d4.length c', .int .i64 d5, vc, vf] ok b bs ((((w.setCell ⟨b, 19, none⟩ (.int .i64 yf0)).setCell ⟨b, 20, none⟩ (.int .i64 yf1)).setCell ⟨b, 21, none⟩ (.int .i64 yf2)).setCell ⟨b, 22, none⟩ (.int .i64 yf3)) := h3.set_rest 19 _
  have h5 : BufAt 5 T #[.int .i64 e0, .int .i64 e1, .int .i64 e2, .int .i64 e3, .int .i64 e4, .int .i64 g0, .int .i64 g1, .int .i64 g2, .int .i64 g3, .int .i64 g4, .int .i64 k0, .int .i64 k1, .int .i64 k2, .int .i64 k3, .slice A k4.length c, .int .i64 k5, .int .i64 yf0, .int .i64 yf1, .int .i64 yf2, .int .i64 yf3, .int .i64 yf4, .int .i64 b0, .int .i64 b1, .int .i64 b2, .int .i64 b3, .int .i64 b4, .int .i64 d0, .int .i64 d1, .int .i64 d2, .int .i64 d3, .slice A' d4.length c', .int .i64 d5, vc, vf] ok b bs (((((w.setCell ⟨b, 19, none⟩ (.int .i64 yf0)).setCell ⟨b, 20, none⟩ (.int .i64 yf1)).setCell ⟨b, 21, none⟩ (.int .i64 yf2)).setCell ⟨b, 22, none⟩ (.int .i64 yf3)).setCell ⟨b, 23, none⟩ (.int .i64 yf4)) := h4.set_rest 20 _
  have h6 : BufAt 5 T #[.int .i64 e0, .int .i64 e1, .int .i64 e2, .int .i64 e3, .int .i64 e4, .int .i64 g0, .int .i64 g1, .int .i64 g2, .int .i64 g3, .int .i64 g4, .int .i64 k0, .int .i64 k1, .int .i64 k2, .int .i64 k3, .slice A k4.length c, .int .i64 k5, .int .i64 yf0, .int .i64 yf1, .int .i64 yf2, .int .i64 yf3, .int .i64 yf4, .int .i64 ys0, .int .i64 b1, .int .i64 b2, .int .i64 b3, .int .i64 b4, .int .i64 d0, .int .i64 d1, .int .i64 d2, .int .i64 d3, .slice A' d4.length c', .int .i64 d5, vc, vf] ok b bs ((((((w.setCell ⟨b, 19, none⟩ (.int .i64 yf0)).setCell ⟨b, 20, none⟩ (.int .i64 yf1)).setCell ⟨b, 21, none⟩ (.int .i64 yf2)).setCell ⟨b, 22, none⟩ (.int .i64 yf3)).setCell ⟨b, 23, none⟩ (.int .i64 yf4)).setCell ⟨b, 24, none⟩ (.int .i64 ys0)) := h5.set_rest 21 _
  have h7 : BufAt 5 T #[.int .i64 e0, .int .i64 e1, .int .i64 e2, .int .i64 e3, .int .i64 e4, .int .i64 g0, .int .i64 g1, .int .i64 g2, .int .i64 g3, .int .i64 g4, .int .i64 k0, .int .i64 k1, .int .i64 k2, .int .i64 k3, .slice A k4.length c, .int .i64 k5, .int .i64 yf0, .int .i64 yf1, .int .i64 yf2, .int .i64 yf3, .int .i64 yf4, .int .i64 ys0, .int .i64 ys1, .int .i64 b2, .int .i64 b3, .int .i64 b4, .int .i64 d0, .int .i64 d1, .int .i64 d2, .int .i64 d3, .slice A' d4.length c', .int .i64 d5, vc, vf] ok b bs (((((((w.setCell ⟨b, 19, none⟩ (.int .i64 yf0)).setCell ⟨b, 20, none⟩ (.int .i64 yf1)).setCell ⟨b, 21, none⟩ (.int .i64 yf2)).setCell ⟨b, 22, none⟩ (.int .i64 yf3)).setCell ⟨b, 23, none⟩ (.int .i64 yf4)).setCell ⟨b, 24, none⟩ (.int .i64 ys0)).setCell ⟨b, 25, none⟩ (.int .i64 ys1)) := h6.set_rest 22 _
  have h8 : BufAt 5 T #[.int .i64 e0, .int .i64 e1, .int .i64 e2, .int .i64 e3, .int .i64 e4, .int .i64 g0, .int .i64 g1, .int .i64 g2, .int .i64 g3, .int .i64 g4, .int .i64 k0, .int .i64 k1, .int .i64 k2, .int .i64 k3, .slice A k4.length c, .int .i64 k5, .int .i64 yf0, .int .i64 yf1, .int .i64 yf2, .int .i64 yf3, .int .i64 yf4, .int .i64 ys0, .int .i64 ys1, .int .i64 ys2, .int .i64 b3, .int .i64 b4, .int .i64 d0, .int .i64 d1, .int .i64 d2, .int .i64 d3, .slice A' d4.length c', .int .i64 d5, vc, vf] ok b bs ((((((((w.setCell ⟨b, 19, none⟩ (.int .i64 yf0)).setCell ⟨b, 20, none⟩ (.int .i64 yf1)).setCell ⟨b, 21, none⟩ (.int .i64 yf2)).setCell ⟨b, 22, none⟩ (.int .i64 yf3)).setCell ⟨b, 23, none⟩ (.int .i64 yf4)).setCell ⟨b, 24, none⟩ (.int .i64 ys0)).setCell ⟨b, 25, none⟩ (.int .i64 ys1)).setCell ⟨b, 26, none⟩ (.int .i64 ys2)) := h7.set_rest 23 _
  have h9 : BufAt 5 T #[.int .i64 e0, .int .i64 e1, .int .i64 e2, .int .i64 e3, .int .i64 e4, .int .i64 g0, .int .i64 g1, .int .i64 g2, .int .i64 g3, .int .i64 g4, .int .i64 k0, .int .i64 k1, .int .i64 k2, .int .i64 k3, .slice A k4.length c, .int .i64 k5, .int .i64 yf0, .int .i64 yf1, .int .i64 yf2, .int .i64 yf3, .int .i64 yf4, .int .i64 ys0, .int .i64 ys1, .int .i64 ys2, .int .i64 ys3, .int .i64 b4, .int .i64 d0, .int .i64 d1, .int .i64 d2, .int .i64 d3, .slice A' d4.length c', .int .i64 d5, vc, vf] ok b bs (((((((((w.setCell ⟨b, 19, none⟩ (.int .i64 yf0)).setCell ⟨b, 20, none⟩ (.int .i64 yf1)).setCell ⟨b, 21, none⟩ (.int .i64 yf2)).setCell ⟨b, 22, none⟩ (.int .i64 yf3)).setCell ⟨b, 23, none⟩ (.int .i64 yf4)).setCell ⟨b, 24, none⟩ (.int .i64 ys0)).setCell ⟨b, 25, none⟩ (.int .i64 ys1)).setCell ⟨b, 26, none⟩ (.int .i64 ys2)).setCell ⟨b, 27, none⟩ (.int .i64 ys3)) := h8.set_rest 24 _
  have h10 : BufAt 5 T #[.int .i64 e0, .int .i64 e1, .int .i64 e2, .int .i64 e3, .int .i64 e4, .int .i64 g0, .int .i64 g1, .int .i64 g2, .int .i64 g3, .int .i64 g4, .int .i64 k0, .int .i64 k1, .int .i64 k2, .int .i64 k3, .slice A k4.length c, .int .i64 k5, .int .i64 yf0, .int .i64 yf1, .int .i64 yf2, .int .i64 yf3, .int .i64 yf4, .int .i64 ys0, .int .i64 ys1, .int .i64 ys2, .int .i64 ys3, .int .i64 ys4, .int .i64 d0, .int .i64 d1, .int .i64 d2, .int .i64 d3, .slice A' d4.length c', .int .i64 d5, vc, vf] ok b bs ((((((((((w.setCell ⟨b, 19, none⟩ (.int .i64 yf0)).setCell ⟨b, 20, none⟩ (.int .i64 yf1)).setCell ⟨b, 21, none⟩ (.int .i64 yf2)).setCell ⟨b, 22, none⟩ (.int .i64 yf3)).setCell ⟨b, 23, none⟩ (.int .i64 yf4)).setCell ⟨b, 24, none⟩ (.int .i64 ys0)).setCell ⟨b, 25, none⟩ (.int .i64 ys1)).setCell ⟨b, 26, none⟩ (.int .i64 ys2)).setCell ⟨b, 27, none⟩ (.int .i64 ys3)).setCell ⟨b, 28, none⟩ (.int .i64 ys4)) := h9.set_rest 25 _
  have h11 : BufAt 5 T #[.int .i64 e0, .int .i64 e1, .int .i64 e2, .int .i64 e3, .int .i64 e4, .int .i64 g0, .int .i64 g1, .int .i64 g2, .int .i64 g3, .int .i64 g4, .int .i64 k0, .int .i64 k1, .int .i64 k2, .int .i64 k3, .slice A k4.length c, .int .i64 k5, .int .i64 yf0, .int .i64 yf1, .int .i64 yf2, .int .i64 yf3, .int .i64 yf4, .int .i64 ys0, .int .i64 ys1, .int .i64 ys2, .int .i64 ys3, .int .i64 ys4, .int .i64 yp0, .int .i64 d1, .int .i64 d2, .int .i64 d3, .slice A' d4.length c', .int .i64 d5, vc, vf] ok b bs (((((((((((w.setCell ⟨b, 19, none⟩ (.int .i64 yf0)).setCell ⟨b, 20, none⟩ (.int .i64 yf1)).setCell ⟨b, 21, none⟩ (.int .i64 yf2)).setCell ⟨b, 22, none⟩ (.int .i64 yf3)).setCell ⟨b, 23, none⟩ (.int .i64 yf4)).setCell ⟨b, 24, none⟩ (.int .i64 ys0)).setCell ⟨b, 25, none⟩ (.int .i64 ys1)).setCell ⟨b, 26, none⟩ (.int .i64 ys2)).setCell ⟨b, 27, none⟩ (.int .i64 ys3)).setCell ⟨b, 28, none⟩ (.int .i64 ys4)).setCell ⟨b, 29, none⟩ (.int .i64 yp0)) := h10.set_rest 26 _
  have h12 : BufAt 5 T #[.int .i64 e0, .int .i64 e1, .int .i64 e2, .int .i64 e3, .int .i64 e4, .int .i64 g0, .int .i64 g1, .int .i64 g2, .int .i64 g3, .int .i64 g4, .int .i64 k0, .int .i64 k1, .int .i64 k2, .int .i64 k3, .slice A k4.length c, .int .i64 k5, .int .i64 yf0, .int .i64 yf1, .int .i64 yf2, .int .i64 yf3, .int .i64 yf4, .int .i64 ys0, .int .i64 ys1, .int .i64 ys2, .int .i64 ys3, .int .i64 ys4, .int .i64 yp0, .int .i64 yp1, .int .i64 d2, .int .i64 d3, .slice A' d4.length c', .int .i64 d5, vc, vf] ok b bs ((((((((((((w.setCell ⟨b, 19, none⟩ (.int .i64 yf0)).setCell ⟨b, 20, none⟩ (.int .i64 yf1)).setCell ⟨b, 21, none⟩ (.int .i64 yf2)).setCell ⟨b, 22, none⟩ (.int .i64 yf3)).setCell ⟨b, 23, none⟩ (.int .i64 yf4)).setCell ⟨b, 24, none⟩ (.int .i64 ys0)).setCell ⟨b, 25, none⟩ (.int .i64 ys1)).setCell ⟨b, 26, none⟩ (.int .i64 ys2)).setCell ⟨b, 27, none⟩ (.int .i64 ys3)).setCell ⟨b, 28, none⟩ (.int .i64 ys4)).setCell ⟨b, 29, none⟩ (.int .i64 yp0)).setCell ⟨b, 30, none⟩ (.int .i64 yp1)) := h11.set_rest 27 _
  have h13 : BufAt 5 T #[.int .i64 e0, .int .i64 e1, .int .i64 e2, .int .i64 e3, .int .i64 e4, .int .i64 g0, .int .i64 g1, .int .i64 g2, .int .i64 g3, .int .i64 g4, .int .i64 k0, .int .i64 k1, .int .i64 k2, .int .i64 k3, .slice A k4.length c, .int .i64 k5, .int .i64 yf0, .int .i64 yf1, .int .i64 yf2, .int .i64 yf3, .int .i64 yf4, .int .i64 ys0, .int .i64 ys1, .int .i64 ys2, .int .i64 ys3, .int .i64 ys4, .int .i64 yp0, .int .i64 yp1, .int .i64 yp2, .int .i64 d3, .slice A' d4.length c', .int .i64 d5, vc, vf] ok b bs (((((((((((((w.setCell ⟨b, 19, none⟩ (.int .i64 yf0)).setCell ⟨b, 20, none⟩ (.int .i64 yf1)).setCell ⟨b, 21, none⟩ (.int .i64 yf2)).setCell ⟨b, 22, none⟩ (.int .i64 yf3)).setCell ⟨b, 23, none⟩ (.int .i64 yf4)).setCell ⟨b, 24, none⟩ (.int .i64 ys0)).setCell ⟨b, 25, none⟩ (.int .i64 ys1)).setCell ⟨b, 26, none⟩ (.int .i64 ys2)).setCell ⟨b, 27, none⟩ (.int .i64 ys3)).setCell ⟨b, 28, none⟩ (.int .i64 ys4)).setCell ⟨b, 29, none⟩ (.int .i64 yp0)).setCell ⟨b, 30, none⟩ (.int .i64 yp1)).setCell ⟨b, 31, none⟩ (.int .i64 yp2)) := h12.set_rest 28 _
  have h14 : BufAt 5 T #[.int .i64 e0, .int .i64 e1, .int .i64 e2, .int .i64 e3, .int .i64 e4, .int .i64 g0, .int .i64 g1, .int .i64 g2, .int .i64 g3, .int .i64 g4, .int .i64 k0, .int .i64 k1, .int .i64 k2, .int .i64 k3, .slice A k4.length c, .int .i64 k5, .int .i64 yf0, .int .i64 yf1, .int .i64 yf2, .int .i64 yf3, .int .i64 yf4, .int .i64 ys0, .int .i64 ys1, .int .i64 ys2, .int .i64 ys3, .int .i64 ys4, .int .i64 yp0, .int .i64 yp1, .int .i64 yp2, .int .i64 yp3, .slice A' d4.length c', .int .i64 d5, vc, vf] ok b bs ((((((((((((((w.setCell ⟨b, 19, none⟩ (.int .i64 yf0)).setCell ⟨b, 20, none⟩ (.int .i64 yf1)).setCell ⟨b, 21, none⟩ (.int .i64 yf2)).setCell ⟨b, 22, none⟩ (.int .i64 yf3)).setCell ⟨b, 23, none⟩ (.int .i64 yf4)).setCell ⟨b, 24, none⟩ (.int .i64 ys0)).setCell ⟨b, 25, none⟩ (.int .i64 ys1)).setCell ⟨b, 26, none⟩ (.int .i64 ys2)).setCell ⟨b, 27, none⟩ (.int .i64 ys3)).setCell ⟨b, 28, none⟩ (.int .i64 ys4)).setCell ⟨b, 29, none⟩ (.int .i64 yp0)).setCell ⟨b, 30, none⟩ (.int .i64 yp1)).setCell ⟨b, 31, none⟩ (.int .i64 yp2)).setCell ⟨b, 32, none⟩ (.int .i64 yp3)) := h13.set_rest 29 _
  have h15 : BufAt 5 T #[.int .i64 e0, .int .i64 e1, .int .i64 e2, .int .i64 e3, .int .i64 e4, .int .i64 g0, .int .i64 g1, .int .i64 g2, .int .i64 g3, .int .i64 g4, .int .i64 k0, .int .i64 k1, .int .i64 k2, .int .i64 k3, .slice A k4.length c, .int .i64 k5, .int .i64 yf0, .int .i64 yf1, .int .i64 yf2, .int .i64 yf3, .int .i64 yf4, .int .i64 ys0, .int .i64 ys1, .int .i64 ys2, .int .i64 ys3, .int .i64 ys4, .int .i64 yp0, .int .i64 yp1, .int .i64 yp2, .int .i64 yp3, .slice A2 ypd.length c2, .int .i64 d5, vc, vf] ok b bs (((((((((((((((w.setCell ⟨b, 19, none⟩ (.int .i64 yf0)).setCell ⟨b, 20, none⟩ (.int .i64 yf1)).setCell ⟨b, 21, none⟩ (.int .i64 yf2)).setCell ⟨b, 22, none⟩ (.int .i64 yf3)).setCell ⟨b, 23, none⟩ (.int .i64 yf4)).setCell ⟨b, 24, none⟩ (.int .i64 ys0)).setCell ⟨b, 25, none⟩ (.int .i64 ys1)).setCell ⟨b, 26, none⟩ (.int .i64 ys2)).setCell ⟨b, 27, none⟩ (.int .i64 ys3)).setCell ⟨b, 28, none⟩ (.int .i64 ys4)).setCell ⟨b, 29, none⟩ (.int .i64 yp0)).setCell ⟨b, 30, none⟩ (.int .i64 yp1)).setCell ⟨b, 31, none⟩ (.int .i64 yp2)).setCell ⟨b, 32, none⟩ (.int .i64 yp3)).setCell ⟨b, 33, none⟩ (.slice A2 ypd.length c2)) := h14.set_rest 30 _
  have h16 : BufAt 5 T #[.int .i64 e0, .int .i64 e1, .int .i64 e2, .int .i64 e3, .int .i64 e4, .int .i64 g0, .int .i64 g1, .int .i64 g2, .int .i64 g3, .int .i64 g4, .int .i64 k0, .int .i64 k1, .int .i64 k2, .int .i64 k3, .slice A k4.length c, .int .i64 k5, .int .i64 yf0, .int .i64 yf1, .int .i64 yf2, .int .i64 yf3, .int .i64 yf4, .int .i64 ys0, .int .i64 ys1, .int .i64 ys2, .int .i64 ys3, .int .i64 ys4, .int .i64 yp0, .int .i64 yp1, .int .i64 yp2, .int .i64 yp3, .slice A2 ypd.length c2, .int .i64 yp5, vc, vf] ok b bs ((((((((((((((((w.setCell ⟨b, 19, none⟩ (.int .i64 yf0)).setCell ⟨b, 20, none⟩ (.int .i64 yf1)).setCell ⟨b, 21, none⟩ (.int .i64 yf2)).setCell ⟨b, 22, none⟩ (.int .i64 yf3)).setCell ⟨b, 23, none⟩ (.int .i64 yf4)).setCell ⟨b, 24, none⟩ (.int .i64 ys0)).setCell ⟨b, 25, none⟩ (.int .i64 ys1)).setCell ⟨b, 26, none⟩ (.int .i64 ys2)).setCell ⟨b, 27, none⟩ (.int .i64 ys3)).setCell ⟨b, 28, none⟩ (.int .i64 ys4)).setCell ⟨b, 29, none⟩ (.int .i64 yp0)).setCell ⟨b, 30, none⟩ (.int .i64 yp1)).setCell ⟨b, 31, none⟩ (.int .i64 yp2)).setCell ⟨b, 32, none⟩ (.int .i64 yp3)).setCell ⟨b, 33, none⟩ (.slice A2 ypd.length c2)).setCell ⟨b, 34, none⟩ (.int .i64 yp5)) := h15.set_rest 31 _
  exact h16
theorem copyF_outer {ok : Nat → Prop} {b : Nat} {w0 w : World} (yf0 yf1 yf2 yf3 yf4 ys0 ys1 ys2 ys3 ys4 yp0 yp1 yp2 yp3 yp5 : Int) (ypd : List Int) (A2 : Option Addr) (c2 : Nat) (hF : Fr ok w0 w) (hb : ok b) :
    Fr ok w0 ((((((((((((((((w.setCell ⟨b, 19, none⟩ (.int .i64 yf0)).setCell ⟨b, 20, none⟩ (.int .i64 yf1)).setCell ⟨b, 21, none⟩ (.int .i64 yf2)).setCell ⟨b, 22, none⟩ (.int .i64 yf3)).setCell ⟨b, 23, none⟩ (.int .i64 yf4)).setCell ⟨b, 24, none⟩ (.int .i64 ys0)).setCell ⟨b, 25, none⟩ (.int .i64 ys1)).setCell ⟨b, 26, none⟩ (.int .i64 ys2)).setCell ⟨b, 27, none⟩ (.int .i64 ys3)).setCell ⟨b, 28, none⟩ (.int .i64 ys4)).setCell ⟨b, 29, none⟩ (.int .i64 yp0)).setCell ⟨b, 30, none⟩ (.int .i64 yp1)).setCell ⟨b, 31, none⟩ (.int .i64 yp2)).setCell ⟨b, 32, none⟩ (.int .i64 yp3)).setCell ⟨b, 33, none⟩ (.slice A2 ypd.length c2)).setCell ⟨b, 34, none⟩ (.int .i64 yp5)) := (Fr.setCell (Fr.setCell (Fr.setCell (Fr.setCell (Fr.setCell (Fr.setCell (Fr.setCell (Fr.setCell (Fr.setCell (Fr.setCell (Fr.setCell (Fr.setCell (Fr.setCell (Fr.setCell (Fr.setCell (Fr.setCell hF (p := ⟨b, 19, none⟩) (.inr hb) (.int .i64 yf0)) (p := ⟨b, 20, none⟩) (.inr hb) (.int .i64 yf1)) (p := ⟨b, 21, none⟩) (.inr hb) (.int .i64 yf2)) (p := ⟨b, 22, none⟩) (.inr hb) (.int .i64 yf3)) (p := ⟨b, 23, none⟩) (.inr hb) (.int .i64 yf4)) (p := ⟨b, 24, none⟩) (.inr hb) (.int .i64 ys0)) (p := ⟨b, 25, none⟩) (.inr hb) (.int .i64 ys1)) (p := ⟨b, 26, none⟩) (.inr hb) (.int .i64 ys2)) (p := ⟨b, 27, none⟩) (.inr hb) (.int .i64 ys3)) (p := ⟨b, 28, none⟩) (.inr hb) (.int .i64 ys4)) (p := ⟨b, 29, none⟩) (.inr hb) (.int .i64 yp0)) (p := ⟨b, 30, none⟩) (.inr hb) (.int .i64 yp1)) (p := ⟨b, 31, none⟩) (.inr hb) (.int .i64 yp2)) (p := ⟨b, 32, none⟩) (.inr hb) (.int .i64 yp3)) (p := ⟨b, 33, none⟩) (.inr hb) (.slice A2 ypd.length c2)) (p := ⟨b, 34, none⟩) (.inr hb) (.int .i64 yp5))
end Go.Proofs.YtdkgfgmmmjpkgaaGreatDoor

namespace Go.Proofs.YtdkgfgmmmjpkgaaGreatDoor
open Go.RowKit Go.Shelf

theorem clipB_le (c : ClipP) : (clipB c).length ≤ 160 * c.path.length + 5 := by
  have := pathB_le c.path
  rw [clipB]
  split <;> simp only [List.length_append, List.length_cons, List.length_nil] <;> omega
def clipsLen : List ClipP → Nat
  | [] => 0
  | c :: r => 160 * c.path.length + 5 + clipsLen r
theorem clipsB_le : ∀ l : List ClipP, (l.flatMap clipB).length ≤ clipsLen l
  | [] => by simp [clipsLen]
  | c :: r => by
    have h1 := clipsB_le r
    have h2 := clipB_le c
    rw [List.flatMap_cons, List.length_append, clipsLen]
    omega
theorem clipsLen_app : ∀ a b : List ClipP, clipsLen (a ++ b) = clipsLen a + clipsLen b
  | [], b => by simp [clipsLen]
  | c :: r, b => by rw [List.cons_append, clipsLen, clipsLen, clipsLen_app r b]; omega
theorem clips_split (l : List ClipP) (k : Nat) (h : k < l.length) : clipsLen (l.take k) + (160 * l[k].path.length + 5) ≤ clipsLen l := by
  have h1 : l = l.take k ++ l[k] :: l.drop (k + 1) := by rw [← List.drop_eq_getElem_cons h, List.take_append_drop]
  have h2 := congrArg clipsLen h1
  rw [clipsLen_app, clipsLen] at h2
  omega
theorem clips_take (l : List ClipP) (k : Nat) (h : k < l.length) : (l.take (k + 1)).flatMap clipB = (l.take k).flatMap clipB ++ clipB l[k] := by
  rw [List.take_add_one, List.getElem?_eq_getElem h, List.flatMap_append]
  simp
theorem clipsLen_drop : ∀ (l : List ClipP) (n : Nat), clipsLen (l.drop n) ≤ clipsLen l
  | [], n => by simp [clipsLen]
  | c :: r, 0 => Nat.le_refl _
  | c :: r, n + 1 => by
    have := clipsLen_drop r n
    rw [List.drop_succ_cons, clipsLen]
    omega

set_option maxHeartbeats 6400000 in
set_option maxRecDepth 100000 in
theorem bound_calls {T : TypeId} {ok : Nat → Prop} {b : Nat} {bs : List UInt8} (new : List ClipP) (A : Option Addr) (c : Nat) (w0 w : World) (st : StP) (fs : List Int) (hA : ClipsAt w0 A new ∧ new.length ≤ c ∧ c ≤ maxLen) (h : DrAt T w0 ok b bs st fs w) (hok : ∀ k, w.heap.size ≤ k → ok k) (h0 : Below w0.heap.size w0 w) (hok0 : ∀ k, ok k → w0.heap.size ≤ k) (hlim : bs.length + clipsLen new + 2000 ≤ 70368744177664) :
    Calls Tryz.prog 42 #[.pointer (some ⟨b, 0, none⟩), .slice A new.length c] w fun e w' => e = .returned (.tuple #[]) ∧ DrAt T w0 ok b (bs ++ boundB st new) (boundSt st new) fs w' ∧ Fr ok w w' := by
  obtain ⟨Ad, cd, Ao, co, Ac, cc, vf, hB, hD, hC, hf, hfo⟩ := h
  obtain ⟨⟨⟨sf0, sf1, sf2, sf3, sf4⟩, ⟨ss0, ss1, ss2, ss3, ss4⟩, ⟨sp0, sp1, sp2, sp3, spd, sp5⟩⟩, ⟨⟨of0, of1, of2, of3, of4⟩, ⟨os0, os1, os2, os3, os4⟩, ⟨op0, op1, op2, op3, opd, op5⟩⟩, cur⟩ := st
  simp only at hD hC
  unfold maxLen at hA hC
  obtain ⟨okB, hokB⟩ : ∃ okB, okB = okF ok vf := ⟨_, rfl⟩
  replace hB : BufAt 5 T (RR ⟨⟨sf0, sf1, sf2, sf3, sf4⟩, ⟨ss0, ss1, ss2, ss3, ss4⟩, ⟨sp0, sp1, sp2, sp3, spd, sp5⟩⟩ Ad cd ⟨⟨of0, of1, of2, of3, of4⟩, ⟨os0, os1, os2, os3, os4⟩, ⟨op0, op1, op2, op3, opd, op5⟩⟩ Ao co (.slice Ac cur.length cc) vf) okB b bs w := by rw [hokB]; exact hB
  have HNB := Lib.hid (show ∀ W : World, w.heap.size ≤ W.heap.size → ∀ q, W.heap.size ≤ q → okB q from fun W hW q hq => by
    rw [hokB]
    exact ⟨hok q (by omega), fun he => by have := hf.lt q he.symm; omega⟩)
  have HKE := Lib.hid (show ∀ W : World, Fr okB w W → Below w0.heap.size w0 W from fun W hW => keeps h0 hW (fun q hq => hok0 q (by rw [hokB] at hq; exact hq.1)))
  have HO0 := Lib.hid (show ∀ k, okB k → w0.heap.size ≤ k from fun q hq => hok0 q (by rw [hokB] at hq; exact hq.1))
  have HL0 := Lib.hid (show ∀ (rst : Array Value) (op : ByteArray) (acc : List UInt8) (W : World), BufAt 5 T rst okB b acc W → Fr okB w W → op.size ≤ 16 → acc.length + 20 ≤ 140737488355328 →
      Calls Tryz.prog 21 #[.pointer (some ⟨b, 0, none⟩), .string op, .slice none 0 0] W fun e w' => e = .returned (.tuple #[]) ∧ BufAt 5 T rst okB b (acc ++ lineB [] op.data.toList) w' ∧ Fr okB w w' from fun rst op acc W hB hF hop hl =>
    (line_calls (T := T) (rest := rst) (ok := okB) (bs := acc) op [] none 0 W hop hB (HNB.out W hF.size) (.inl rfl) (fun a ha => by cases ha) hl).mono fun e w' h' => ⟨h'.1, h'.2.1, hF.trans h'.2.2⟩)
  have hbad : badB ⟨⟨⟨sf0, sf1, sf2, sf3, sf4⟩, ⟨ss0, ss1, ss2, ss3, ss4⟩, ⟨sp0, sp1, sp2, sp3, spd, sp5⟩⟩, ⟨⟨of0, of1, of2, of3, of4⟩, ⟨os0, os1, os2, os3, os4⟩, ⟨op0, op1, op2, op3, opd, op5⟩⟩, cur⟩ new = (decide (new.length < cur.length) || !eqClips cur (new.take cur.length)) := rfl
  have HEQ := Lib.hid (show ∀ W : World, Below w0.heap.size w0 W → cur.length ≤ new.length → Calls Tryz.prog 75 #[.slice Ac cur.length cc, .slice A cur.length c, .func (.func 76) #[] #[]] W fun e w' => e = .returned (.bool (eqClips cur (new.take cur.length))) ∧ Below W.heap.size W w' from fun W hW hle => by
    have h1 := equalClips_calls cur (new.take cur.length) Ac A cc c W (hC.1.keep hW) ((hA.1.take cur.length hle).keep hW) (by unfold maxLen; omega)
    rw [List.length_take, Nat.min_eq_left hle] at h1
    exact h1)
  have hb35 := hB.rest_cell 32 (.slice Ac cur.length cc) rfl
  simp only [Nat.reduceAdd] at hb35
  have HB := Lib.hid hB; have HF := Lib.hid hf; have HFO := Lib.hid hfo; have HD := Lib.hid hD; have HOKB := Lib.hid hokB
  have HCA := Lib.hid hA.1
  have hA2 := hA.2
  have hC2 := hC.2
  obtain ⟨hal, hac⟩ := hA2
  obtain ⟨hcl, hcc⟩ := hC2
  clear hB hf hfo hD hA hC hok h0 hok0 hokB
  generalize hE : eqClips cur (new.take cur.length) = q at *
  have HBAD := Lib.hid hbad
  clear hbad hE
  go_enter Tryz.func42, Tryz.ntmps42
  go_wp2_with fail
  go_upto_region 1 with fail
  go_cut [4, 26] (fun s4 s26 wx => s4 = .int .i64 cur.length ∧ s26 = .bool (badB ⟨⟨⟨sf0, sf1, sf2, sf3, sf4⟩, ⟨ss0, ss1, ss2, ss3, ss4⟩, ⟨sp0, sp1, sp2, sp3, spd, sp5⟩⟩, ⟨⟨of0, of1, of2, of3, of4⟩, ⟨os0, os1, os2, os3, os4⟩, ⟨op0, op1, op2, op3, opd, op5⟩⟩, cur⟩ new) ∧ Hid (BufAt 5 T (RR ⟨⟨sf0, sf1, sf2, sf3, sf4⟩, ⟨ss0, ss1, ss2, ss3, ss4⟩, ⟨sp0, sp1, sp2, sp3, spd, sp5⟩⟩ Ad cd ⟨⟨of0, of1, of2, of3, of4⟩, ⟨os0, os1, os2, os3, os4⟩, ⟨op0, op1, op2, op3, opd, op5⟩⟩ Ao co (.slice Ac cur.length cc) vf) okB b bs wx) ∧ Hid (Fr okB w wx))
  case first =>
    by_cases hlt : new.length < cur.length
    · have hd : decide ((new.length : Int) < cur.length) = true := decide_eq_true (by omega)
      have hd2 : decide (new.length < cur.length) = true := decide_eq_true hlt
      have HQ := Lib.hid (show badB ⟨⟨⟨sf0, sf1, sf2, sf3, sf4⟩, ⟨ss0, ss1, ss2, ss3, ss4⟩, ⟨sp0, sp1, sp2, sp3, spd, sp5⟩⟩, ⟨⟨of0, of1, of2, of3, of4⟩, ⟨os0, os1, os2, os3, os4⟩, ⟨op0, op1, op2, op3, opd, op5⟩⟩, cur⟩ new = true from by rw [HBAD.out, hd2]; rfl)
      go_wp2_with fail
      go_quiet (fail)
      go_wp2_with fail
      go_meet
      exact ⟨rfl, congrArg Value.bool HQ.out.symm, BufAt.below HB.out (below_drewN (Below.refl _ _) nq), Fr.drewN (Fr.refl _ _) nq⟩
    · have hd : decide ((new.length : Int) < cur.length) = false := decide_eq_false (by omega)
      have hd2 : decide (new.length < cur.length) = false := decide_eq_false hlt
      have hle : cur.length ≤ new.length := by omega
      have hle2 : (cur.length : Int) ≤ c := by omega
      have hle3 : (0 : Int) ≤ cur.length := by omega
      have HQ := Lib.hid (show badB ⟨⟨⟨sf0, sf1, sf2, sf3, sf4⟩, ⟨ss0, ss1, ss2, ss3, ss4⟩, ⟨sp0, sp1, sp2, sp3, spd, sp5⟩⟩, ⟨⟨of0, of1, of2, of3, of4⟩, ⟨os0, os1, os2, os3, os4⟩, ⟨op0, op1, op2, op3, opd, op5⟩⟩, cur⟩ new = !q from by rw [HBAD.out, hd2]; rfl)
      have HS := Lib.hid (show ∀ W : World, Below w.heap.size w W → W.cell? ⟨b, 35, none⟩ = some (.slice Ac cur.length cc) ∧ Below w.heap.size w W from fun W hW => ⟨(hW.cell (World.block_lt_of_cell? w _ hb35)).trans hb35, hW⟩)
      have HE2 := Lib.hid (show ∀ W : World, Below w.heap.size w W → Calls Tryz.prog 75 #[.slice Ac cur.length cc, .slice A cur.length c, .func (.func 76) #[] #[]] W fun e w' => e = .returned (.bool q) ∧ Below w.heap.size w w' from fun W hW => (HEQ.out W (HKE.out W (Fr.of_below okB hW)) hle).mono fun e w' h' => ⟨h'.1, hW.trans (h'.2.mono hW.size)⟩)
      go_wp2_with fail
      go_region_held3 (fun W => W.cell? ⟨b, 35, none⟩ = some (.slice Ac cur.length cc) ∧ Below w.heap.size w W)
        (first
          | exact HS.out _ (by assumption)
          | exact HS.out _ (below_drew' (Below.refl _ _))
          | exact HS.out _ (Below.refl _ _))
        ((go_at_call 75; refine (HE2.out _ (by first | assumption | (go_split_ands; assumption))).mono ?_; rintro e w8 ⟨rfl, q8⟩))
      rename (_ ∧ Below w.heap.size w _) => hfin
      have HFI := Lib.hid hfin.2
      clear hfin
      go_wp2_with fail
      go_meet
      exact ⟨rfl, congrArg Value.bool HQ.out.symm, BufAt.below HB.out HFI.out, Fr.of_below okB HFI.out⟩
  case rest =>
    obtain ⟨rfl, rfl, B1, F1⟩ := hcut
    generalize wc = w1 at *
    clear HEQ hb35
    obtain ⟨S1, hS1⟩ : ∃ S1, S1 = boundSo ⟨⟨⟨sf0, sf1, sf2, sf3, sf4⟩, ⟨ss0, ss1, ss2, ss3, ss4⟩, ⟨sp0, sp1, sp2, sp3, spd, sp5⟩⟩, ⟨⟨of0, of1, of2, of3, of4⟩, ⟨os0, os1, os2, os3, os4⟩, ⟨op0, op1, op2, op3, opd, op5⟩⟩, cur⟩ new := ⟨_, rfl⟩
    obtain ⟨N1, hN1⟩ : ∃ N1, N1 = boundN ⟨⟨⟨sf0, sf1, sf2, sf3, sf4⟩, ⟨ss0, ss1, ss2, ss3, ss4⟩, ⟨sp0, sp1, sp2, sp3, spd, sp5⟩⟩, ⟨⟨of0, of1, of2, of3, of4⟩, ⟨os0, os1, os2, os3, os4⟩, ⟨op0, op1, op2, op3, opd, op5⟩⟩, cur⟩ new := ⟨_, rfl⟩
    obtain ⟨Y1, hY1⟩ : ∃ Y1 : List UInt8, Y1 = if badB ⟨⟨⟨sf0, sf1, sf2, sf3, sf4⟩, ⟨ss0, ss1, ss2, ss3, ss4⟩, ⟨sp0, sp1, sp2, sp3, spd, sp5⟩⟩, ⟨⟨of0, of1, of2, of3, of4⟩, ⟨os0, os1, os2, os3, os4⟩, ⟨op0, op1, op2, op3, opd, op5⟩⟩, cur⟩ new then [81, 10] else [] := ⟨_, rfl⟩
    have HS1 := Lib.hid hS1; have HN1 := Lib.hid hN1; have HY1 := Lib.hid hY1
    have hY1l : Y1.length ≤ 2 := by rw [hY1]; split <;> simp
    have hN1l : N1 ≤ new.length := by
      rw [hN1, boundN]
      split
      · exact Nat.zero_le _
      · rename_i hb
        rw [badB] at hb
        simp only [Bool.or_eq_true, decide_eq_true_eq, not_or] at hb
        exact Nat.le_of_not_lt hb.1
    clear hS1 hN1 hY1
    go_upto_if 26 with fail
    go_cut [4] (fun s4 wx => s4 = .int .i64 N1 ∧ ∃ A1 c1 vc, Hid (BufAt 5 T (RR S1 A1 c1 ⟨⟨of0, of1, of2, of3, of4⟩, ⟨os0, os1, os2, os3, os4⟩, ⟨op0, op1, op2, op3, opd, op5⟩⟩ Ao co vc vf) okB b (bs ++ Y1) wx) ∧ Hid (DashAt w0 A1 c1 S1.pen) ∧ Hid (Fr okB w wx))
    case first =>
      cases hbd : badB ⟨⟨⟨sf0, sf1, sf2, sf3, sf4⟩, ⟨ss0, ss1, ss2, ss3, ss4⟩, ⟨sp0, sp1, sp2, sp3, spd, sp5⟩⟩, ⟨⟨of0, of1, of2, of3, of4⟩, ⟨os0, os1, os2, os3, os4⟩, ⟨op0, op1, op2, op3, opd, op5⟩⟩, cur⟩ new with
      | false =>
        have e1 : S1 = ⟨⟨sf0, sf1, sf2, sf3, sf4⟩, ⟨ss0, ss1, ss2, ss3, ss4⟩, ⟨sp0, sp1, sp2, sp3, spd, sp5⟩⟩ := by rw [HS1.out, boundSo, hbd]; rfl
        have e2 : N1 = cur.length := by rw [HN1.out, boundN, hbd]; rfl
        have e3 : Y1 = [] := by rw [HY1.out, hbd]; rfl
        have P1 : Hid (BufAt 5 T (RR S1 Ad cd ⟨⟨of0, of1, of2, of3, of4⟩, ⟨os0, os1, os2, os3, os4⟩, ⟨op0, op1, op2, op3, opd, op5⟩⟩ Ao co (.slice Ac cur.length cc) vf) okB b (bs ++ Y1) w1) := by rw [e1, e3, List.append_nil]; exact B1
        have P2 : Hid (DashAt w0 Ad cd S1.pen) := by rw [e1]; exact HD.out.1
        have P3 := Lib.hid e2
        clear e1 e2 e3
        go_wp2_with fail
        go_meet
        exact ⟨by rw [P3.out], _, _, _, P1, P2, F1⟩
      | true =>
        have E1 := Lib.hid (show S1 = ⟨⟨of0, of1, of2, of3, of4⟩, ⟨os0, os1, os2, os3, os4⟩, ⟨op0, op1, op2, op3, opd, op5⟩⟩ from by rw [HS1.out, boundSo, hbd]; rfl)
        have E2 := Lib.hid (show N1 = 0 from by rw [HN1.out, boundN, hbd]; rfl)
        have E3 := Lib.hid (show Y1 = [81, 10] from by rw [HY1.out, hbd]; rfl)
        go_wp2_with fail
        refine (HL0.out _ ⟨#[81]⟩ bs w1 B1.out F1.out (by decide) (by omega)).mono ?_
        rintro e w2 ⟨rfl, b2, f2⟩
        have B2 := Lib.hid b2
        have F2 := Lib.hid f2
        have r0 := BufAt.rest_cell b2 16 (.int .i64 of0) rfl
        have r1 := BufAt.rest_cell b2 17 (.int .i64 of1) rfl
        have r2 := BufAt.rest_cell b2 18 (.int .i64 of2) rfl
        have r3 := BufAt.rest_cell b2 19 (.int .i64 of3) rfl
        have r4 := BufAt.rest_cell b2 20 (.int .i64 of4) rfl
        have r5 := BufAt.rest_cell b2 21 (.int .i64 os0) rfl
        have r6 := BufAt.rest_cell b2 22 (.int .i64 os1) rfl
        have r7 := BufAt.rest_cell b2 23 (.int .i64 os2) rfl
        have r8 := BufAt.rest_cell b2 24 (.int .i64 os3) rfl
        have r9 := BufAt.rest_cell b2 25 (.int .i64 os4) rfl
        have r10 := BufAt.rest_cell b2 26 (.int .i64 op0) rfl
        have r11 := BufAt.rest_cell b2 27 (.int .i64 op1) rfl
        have r12 := BufAt.rest_cell b2 28 (.int .i64 op2) rfl
        have r13 := BufAt.rest_cell b2 29 (.int .i64 op3) rfl
        have r14 := BufAt.rest_cell b2 30 (.slice Ao opd.length co) rfl
        have r15 := BufAt.rest_cell b2 31 (.int .i64 op5) rfl
        simp only [Nat.reduceAdd] at r0 r1 r2 r3 r4 r5 r6 r7 r8 r9 r10 r11 r12 r13 r14 r15
        have z0 := BufAt.fz b2 3
        have z1 := BufAt.fz b2 4
        have z2 := BufAt.fz b2 5
        have z3 := BufAt.fz b2 6
        have z4 := BufAt.fz b2 7
        have z5 := BufAt.fz b2 8
        have z6 := BufAt.fz b2 9
        have z7 := BufAt.fz b2 10
        have z8 := BufAt.fz b2 11
        have z9 := BufAt.fz b2 12
        have z10 := BufAt.fz b2 13
        have z11 := BufAt.fz b2 14
        have z12 := BufAt.fz b2 15
        have z13 := BufAt.fz b2 16
        have z14 := BufAt.fz b2 17
        have z15 := BufAt.fz b2 18
        have z35 := BufAt.fz b2 35
        have r35 := BufAt.rest_cell b2 32 (.slice Ac cur.length cc) rfl
        have u0 := BufAt.rest_cell b2 0 (.int .i64 sf0) rfl
        have u1 := BufAt.rest_cell b2 1 (.int .i64 sf1) rfl
        have u2 := BufAt.rest_cell b2 2 (.int .i64 sf2) rfl
        have u3 := BufAt.rest_cell b2 3 (.int .i64 sf3) rfl
        have u4 := BufAt.rest_cell b2 4 (.int .i64 sf4) rfl
        have u5 := BufAt.rest_cell b2 5 (.int .i64 ss0) rfl
        have u6 := BufAt.rest_cell b2 6 (.int .i64 ss1) rfl
        have u7 := BufAt.rest_cell b2 7 (.int .i64 ss2) rfl
        have u8 := BufAt.rest_cell b2 8 (.int .i64 ss3) rfl
        have u9 := BufAt.rest_cell b2 9 (.int .i64 ss4) rfl
        have u10 := BufAt.rest_cell b2 10 (.int .i64 sp0) rfl
        have u11 := BufAt.rest_cell b2 11 (.int .i64 sp1) rfl
        have u12 := BufAt.rest_cell b2 12 (.int .i64 sp2) rfl
        have u13 := BufAt.rest_cell b2 13 (.int .i64 sp3) rfl
        have u14 := BufAt.rest_cell b2 14 (.slice Ad spd.length cd) rfl
        have u15 := BufAt.rest_cell b2 15 (.int .i64 sp5) rfl
        simp only [Nat.add_zero, Nat.reduceAdd] at u0 u1 u2 u3 u4 u5 u6 u7 u8 u9 u10 u11 u12 u13 u14 u15
        simp only [Nat.reduceAdd] at r35
        clear b2 f2
        go_wp2_with fail
        go_meet
        have hb : okB b := BufAt.ok_ B2.out
        have h1 := (copy_so _ _ _ _ _ _ _ _ of0 of1 of2 of3 of4 os0 os1 os2 os3 os4 op0 op1 op2 op3 op5 opd Ao co B2.out).set_rest 32 (.slice none 0 0)
        have h2 := (copyF_so of0 of1 of2 of3 of4 os0 os1 os2 os3 os4 op0 op1 op2 op3 op5 opd Ao co F2.out hb).setCell (p := ⟨b, 35, none⟩) (.inr hb) (.slice none 0 0)
        refine ⟨by rw [E2.out]; rfl, Ao, co, .slice none 0 0, ?_, ?_, h2⟩
        · rw [E1.out, E3.out]; exact h1
        · rw [E1.out]; exact HD.out.2
    case rest =>
      clear B1 F1
      obtain ⟨rfl, A1, c1, vc, B2, D2, F2⟩ := hcut
      generalize wc = w2 at *
      obtain ⟨O1, hO1⟩ : ∃ O1, O1 = boundOuter ⟨⟨⟨sf0, sf1, sf2, sf3, sf4⟩, ⟨ss0, ss1, ss2, ss3, ss4⟩, ⟨sp0, sp1, sp2, sp3, spd, sp5⟩⟩, ⟨⟨of0, of1, of2, of3, of4⟩, ⟨os0, os1, os2, os3, os4⟩, ⟨op0, op1, op2, op3, opd, op5⟩⟩, cur⟩ new := ⟨_, rfl⟩
      obtain ⟨Y2, hY2⟩ : ∃ Y2 : List UInt8, Y2 = if boundOpen ⟨⟨⟨sf0, sf1, sf2, sf3, sf4⟩, ⟨ss0, ss1, ss2, ss3, ss4⟩, ⟨sp0, sp1, sp2, sp3, spd, sp5⟩⟩, ⟨⟨of0, of1, of2, of3, of4⟩, ⟨os0, os1, os2, os3, os4⟩, ⟨op0, op1, op2, op3, opd, op5⟩⟩, cur⟩ new then [113, 10] else [] := ⟨_, rfl⟩
      have HO1o := Lib.hid hO1
      have hop : boundOpen ⟨⟨⟨sf0, sf1, sf2, sf3, sf4⟩, ⟨ss0, ss1, ss2, ss3, ss4⟩, ⟨sp0, sp1, sp2, sp3, spd, sp5⟩⟩, ⟨⟨of0, of1, of2, of3, of4⟩, ⟨os0, os1, os2, os3, os4⟩, ⟨op0, op1, op2, op3, opd, op5⟩⟩, cur⟩ new = (N1 == 0 && decide (0 < new.length)) := by rw [HN1.out]; rfl
      rw [boundOuter, hop, ← HS1.out] at hO1
      have HY2o := Lib.hid hY2
      rw [hop] at hY2
      have HO1 := Lib.hid hO1; have HY2 := Lib.hid hY2
      have hY2l : Y2.length ≤ 2 := by rw [hY2]; split <;> simp
      have HOP := Lib.hid hop
      clear hO1 hY2 hop
      obtain ⟨⟨tf0, tf1, tf2, tf3, tf4⟩, ⟨ts0, ts1, ts2, ts3, ts4⟩, ⟨tp0, tp1, tp2, tp3, tpd, tp5⟩⟩ := S1
      go_upto_region 4 with fail
      go_cut [45] (fun s45 wx => s45 = .bool (N1 == 0 && decide (0 < new.length)) ∧ Hid (BufAt 5 T (RR ⟨⟨tf0, tf1, tf2, tf3, tf4⟩, ⟨ts0, ts1, ts2, ts3, ts4⟩, ⟨tp0, tp1, tp2, tp3, tpd, tp5⟩⟩ A1 c1 ⟨⟨of0, of1, of2, of3, of4⟩, ⟨os0, os1, os2, os3, os4⟩, ⟨op0, op1, op2, op3, opd, op5⟩⟩ Ao co vc vf) okB b (bs ++ Y1) wx) ∧ Hid (Fr okB w wx))
      case first =>
        by_cases hn : N1 = 0
        · have q1 : ((N1 : Int) == 0) = true := by rw [hn]; rfl
          have HQ := Lib.hid (show (N1 == 0 && decide (0 < new.length)) = decide (0 < new.length) from by rw [hn]; rfl)
          clear hn
          go_wp2_with fail
          go_meet
          exact ⟨by rw [HQ.out], B2, F2⟩
        · have q1 : ((N1 : Int) == 0) = false := beq_eq_false_iff_ne.2 (by omega)
          have HQ := Lib.hid (show (N1 == 0 && decide (0 < new.length)) = false from by rw [beq_eq_false_iff_ne.2 hn]; rfl)
          clear hn
          go_wp2_with fail
          go_meet
          exact ⟨by rw [HQ.out], B2, F2⟩
      case rest =>
      clear B2 F2
      obtain ⟨rfl, B2, F2⟩ := hcut
      generalize wc = w2' at *
      go_upto_if 45 with fail
      go_cut [] (fun wx => ∃ A2 c2, Hid (BufAt 5 T (RR ⟨⟨tf0, tf1, tf2, tf3, tf4⟩, ⟨ts0, ts1, ts2, ts3, ts4⟩, ⟨tp0, tp1, tp2, tp3, tpd, tp5⟩⟩ A1 c1 O1 A2 c2 vc vf) okB b (bs ++ Y1 ++ Y2) wx) ∧ Hid (DashAt w0 A2 c2 O1.pen) ∧ Hid (Fr okB w wx))
      case first =>
        cases q3 : (N1 == 0 && decide (0 < new.length)) with
        | true =>
          have E1 := Lib.hid (show O1 = ⟨⟨tf0, tf1, tf2, tf3, tf4⟩, ⟨ts0, ts1, ts2, ts3, ts4⟩, ⟨tp0, tp1, tp2, tp3, tpd, tp5⟩⟩ from by rw [HO1.out, q3]; rfl)
          have E2 := Lib.hid (show Y2 = [113, 10] from by rw [HY2.out, q3]; rfl)
          go_wp2_with fail
          refine (HL0.out _ ⟨#[113]⟩ _ w2' B2.out F2.out (by decide) (by rw [List.length_append]; omega)).mono ?_
          rintro e w3 ⟨rfl, b2, f2⟩
          have B3 := Lib.hid b2
          have F3 := Lib.hid f2
          have r0 := BufAt.rest_cell b2 0 (.int .i64 tf0) rfl
          have r1 := BufAt.rest_cell b2 1 (.int .i64 tf1) rfl
          have r2 := BufAt.rest_cell b2 2 (.int .i64 tf2) rfl
          have r3 := BufAt.rest_cell b2 3 (.int .i64 tf3) rfl
          have r4 := BufAt.rest_cell b2 4 (.int .i64 tf4) rfl
          have r5 := BufAt.rest_cell b2 5 (.int .i64 ts0) rfl
          have r6 := BufAt.rest_cell b2 6 (.int .i64 ts1) rfl
          have r7 := BufAt.rest_cell b2 7 (.int .i64 ts2) rfl
          have r8 := BufAt.rest_cell b2 8 (.int .i64 ts3) rfl
          have r9 := BufAt.rest_cell b2 9 (.int .i64 ts4) rfl
          have r10 := BufAt.rest_cell b2 10 (.int .i64 tp0) rfl
          have r11 := BufAt.rest_cell b2 11 (.int .i64 tp1) rfl
          have r12 := BufAt.rest_cell b2 12 (.int .i64 tp2) rfl
          have r13 := BufAt.rest_cell b2 13 (.int .i64 tp3) rfl
          have r14 := BufAt.rest_cell b2 14 (.slice A1 tpd.length c1) rfl
          have r15 := BufAt.rest_cell b2 15 (.int .i64 tp5) rfl
          simp only [Nat.add_zero, Nat.reduceAdd] at r0 r1 r2 r3 r4 r5 r6 r7 r8 r9 r10 r11 r12 r13 r14 r15
          have z0 := BufAt.fz b2 19
          have z1 := BufAt.fz b2 20
          have z2 := BufAt.fz b2 21
          have z3 := BufAt.fz b2 22
          have z4 := BufAt.fz b2 23
          have z5 := BufAt.fz b2 24
          have z6 := BufAt.fz b2 25
          have z7 := BufAt.fz b2 26
          have z8 := BufAt.fz b2 27
          have z9 := BufAt.fz b2 28
          have z10 := BufAt.fz b2 29
          have z11 := BufAt.fz b2 30
          have z12 := BufAt.fz b2 31
          have z13 := BufAt.fz b2 32
          have z14 := BufAt.fz b2 33
          have z15 := BufAt.fz b2 34
          obtain ⟨VO, hVO⟩ : ∃ VO : Array Value, VO = RR ⟨⟨tf0, tf1, tf2, tf3, tf4⟩, ⟨ts0, ts1, ts2, ts3, ts4⟩, ⟨tp0, tp1, tp2, tp3, tpd, tp5⟩⟩ A1 c1 ⟨⟨of0, of1, of2, of3, of4⟩, ⟨os0, os1, os2, os3, os4⟩, ⟨op0, op1, op2, op3, opd, op5⟩⟩ Ao co vc vf := ⟨_, rfl⟩
          have u0 := BufAt.rest_cell b2 16 (.int .i64 of0) rfl
          have u1 := BufAt.rest_cell b2 17 (.int .i64 of1) rfl
          have u2 := BufAt.rest_cell b2 18 (.int .i64 of2) rfl
          have u3 := BufAt.rest_cell b2 19 (.int .i64 of3) rfl
          have u4 := BufAt.rest_cell b2 20 (.int .i64 of4) rfl
          have u5 := BufAt.rest_cell b2 21 (.int .i64 os0) rfl
          have u6 := BufAt.rest_cell b2 22 (.int .i64 os1) rfl
          have u7 := BufAt.rest_cell b2 23 (.int .i64 os2) rfl
          have u8 := BufAt.rest_cell b2 24 (.int .i64 os3) rfl
          have u9 := BufAt.rest_cell b2 25 (.int .i64 os4) rfl
          have u10 := BufAt.rest_cell b2 26 (.int .i64 op0) rfl
          have u11 := BufAt.rest_cell b2 27 (.int .i64 op1) rfl
          have u12 := BufAt.rest_cell b2 28 (.int .i64 op2) rfl
          have u13 := BufAt.rest_cell b2 29 (.int .i64 op3) rfl
          have u14 := BufAt.rest_cell b2 30 (.slice Ao opd.length co) rfl
          have u15 := BufAt.rest_cell b2 31 (.int .i64 op5) rfl
          simp only [Nat.reduceAdd] at u0 u1 u2 u3 u4 u5 u6 u7 u8 u9 u10 u11 u12 u13 u14 u15
          clear b2 f2 hVO
          go_wp2_with fail
          go_meet
          have hb : okB b := BufAt.ok_ B3.out
          have h1 := copy_outer _ _ _ _ _ _ _ _ tf0 tf1 tf2 tf3 tf4 ts0 ts1 ts2 ts3 ts4 tp0 tp1 tp2 tp3 tp5 tpd A1 c1 B3.out
          have h2 := copyF_outer tf0 tf1 tf2 tf3 tf4 ts0 ts1 ts2 ts3 ts4 tp0 tp1 tp2 tp3 tp5 tpd A1 c1 F3.out hb
          refine ⟨A1, c1, ?_, ?_, h2⟩
          · rw [E1.out, E2.out]; exact h1
          · rw [E1.out]; exact D2
        | false =>
          have E1 := Lib.hid (show O1 = ⟨⟨of0, of1, of2, of3, of4⟩, ⟨os0, os1, os2, os3, os4⟩, ⟨op0, op1, op2, op3, opd, op5⟩⟩ from by rw [HO1.out, q3]; rfl)
          have E2 := Lib.hid (show Y2 = [] from by rw [HY2.out, q3]; rfl)
          have P1 : Hid (BufAt 5 T (RR ⟨⟨tf0, tf1, tf2, tf3, tf4⟩, ⟨ts0, ts1, ts2, ts3, ts4⟩, ⟨tp0, tp1, tp2, tp3, tpd, tp5⟩⟩ A1 c1 O1 Ao co vc vf) okB b (bs ++ Y1 ++ Y2) w2') := by rw [E1.out, E2.out, List.append_nil]; exact B2
          have P2 : Hid (DashAt w0 Ao co O1.pen) := by rw [E1.out]; exact HD.out.2
          go_wp2_with fail
          go_meet
          exact ⟨_, _, P1, P2, F2⟩
      case rest =>
        clear B2 F2
        obtain ⟨A2, c2, B3, D3, F3⟩ := hcut
        generalize wc = w3 at *
        have hi1 : (0 : Int) ≤ N1 := by omega
        have hi2 : (N1 : Int) ≤ new.length := by omega
        obtain ⟨L, hL⟩ : ∃ L, L = new.drop N1 := ⟨_, rfl⟩
        have hLl : L.length = new.length - N1 := by rw [hL, List.length_drop]
        have hLc : clipsLen L ≤ clipsLen new := by rw [hL]; exact clipsLen_drop _ _
        have HLG := Lib.hid (show ∀ k (h : k < L.length) (hk : N1 + k < new.length), L[k] = new[N1 + k] from fun k h hk => by simp only [hL, List.getElem_drop])
        have HFINB := Lib.hid (show boundB ⟨⟨⟨sf0, sf1, sf2, sf3, sf4⟩, ⟨ss0, ss1, ss2, ss3, ss4⟩, ⟨sp0, sp1, sp2, sp3, spd, sp5⟩⟩, ⟨⟨of0, of1, of2, of3, of4⟩, ⟨os0, os1, os2, os3, os4⟩, ⟨op0, op1, op2, op3, opd, op5⟩⟩, cur⟩ new = Y1 ++ (Y2 ++ L.flatMap clipB) from by rw [boundB, HY1.out, HY2o.out, hL, HN1.out])
        have HFINS := Lib.hid (show boundSt ⟨⟨⟨sf0, sf1, sf2, sf3, sf4⟩, ⟨ss0, ss1, ss2, ss3, ss4⟩, ⟨sp0, sp1, sp2, sp3, spd, sp5⟩⟩, ⟨⟨of0, of1, of2, of3, of4⟩, ⟨os0, os1, os2, os3, os4⟩, ⟨op0, op1, op2, op3, opd, op5⟩⟩, cur⟩ new = ⟨⟨⟨tf0, tf1, tf2, tf3, tf4⟩, ⟨ts0, ts1, ts2, ts3, ts4⟩, ⟨tp0, tp1, tp2, tp3, tpd, tp5⟩⟩, O1, new⟩ from by rw [boundSt, ← HS1.out, ← HO1o.out])
        clear hL
        obtain ⟨⟨vf0, vf1, vf2, vf3, vf4⟩, ⟨vs0, vs1, vs2, vs3, vs4⟩, ⟨vp0, vp1, vp2, vp3, vpd, vp5⟩⟩ := O1
        have HEL := Lib.hid (show ∀ W, Fr okB w W → ∀ k (h : k < L.length), ∃ ab aoff Ap cap, A = some ⟨ab, aoff, none⟩ ∧ W.cell? ⟨ab, aoff + N1 * 2 + k * 2, none⟩ = some (.slice Ap L[k].path.length cap) ∧ W.cell? ⟨ab, aoff + N1 * 2 + k * 2 + 1, none⟩ = some (.bool L[k].eo) ∧ PathAt w0 Ap L[k].path from fun W hW k h => by
          have hk : N1 + k < new.length := by omega
          obtain ⟨ab, aoff, Ap, cap, e1, e2, e3, e4, -, -⟩ := HCA.out.elem (N1 + k) hk
          have hb := HKE.out W hW
          rw [HLG.out k h hk]
          have ea : aoff + N1 * 2 + k * 2 = aoff + (N1 + k) * 2 := by omega
          refine ⟨ab, aoff, Ap, cap, e1, ?_, ?_, e4⟩
          · rw [ea]; exact (hb.cell (World.block_lt_of_cell? w0 _ e2)).trans e2
          · rw [ea]; exact (hb.cell (World.block_lt_of_cell? w0 _ e3)).trans e3)
        have hY12 : (bs ++ Y1 ++ Y2).length ≤ bs.length + 4 := by simp only [List.length_append]; omega
        generalize hbase : bs ++ Y1 ++ Y2 = base at *
        have HBASE := Lib.hid hbase
        clear hbase
        have HEND := Lib.hid (show ∀ W : World, BufAt 5 T (RR ⟨⟨tf0, tf1, tf2, tf3, tf4⟩, ⟨ts0, ts1, ts2, ts3, ts4⟩, ⟨tp0, tp1, tp2, tp3, tpd, tp5⟩⟩ A1 c1 ⟨⟨vf0, vf1, vf2, vf3, vf4⟩, ⟨vs0, vs1, vs2, vs3, vs4⟩, ⟨vp0, vp1, vp2, vp3, vpd, vp5⟩⟩ A2 c2 (.slice A new.length c) vf) okB b (base ++ L.flatMap clipB) W → Fr okB w W → DrAt T w0 ok b (bs ++ boundB ⟨⟨⟨sf0, sf1, sf2, sf3, sf4⟩, ⟨ss0, ss1, ss2, ss3, ss4⟩, ⟨sp0, sp1, sp2, sp3, spd, sp5⟩⟩, ⟨⟨of0, of1, of2, of3, of4⟩, ⟨os0, os1, os2, os3, os4⟩, ⟨op0, op1, op2, op3, opd, op5⟩⟩, cur⟩ new) (boundSt ⟨⟨⟨sf0, sf1, sf2, sf3, sf4⟩, ⟨ss0, ss1, ss2, ss3, ss4⟩, ⟨sp0, sp1, sp2, sp3, spd, sp5⟩⟩, ⟨⟨of0, of1, of2, of3, of4⟩, ⟨os0, os1, os2, os3, os4⟩, ⟨op0, op1, op2, op3, opd, op5⟩⟩, cur⟩ new) fs W ∧ Fr ok w W from fun W hb hw => by
          rw [HFINB.out, HFINS.out]
          refine ⟨⟨A1, c1, A2, c2, A, c, vf, ?_, ⟨D2, D3⟩, ⟨HCA.out, hal, by unfold maxLen; exact hac⟩, owns_keep HF.out (fun q hq => hw.block q (HF.out.lt q hq).2 (fun ho => by rw [HOKB.out] at ho; exact ho.2 hq.symm)), HFO.out⟩, hw.mono fun q _ ho => by rw [HOKB.out] at ho; exact ho.1⟩
          have h1 := hb.imp (ok' := okF ok vf) fun q _ ho => by rw [HOKB.out] at ho; exact ho
          rw [← HBASE.out] at h1
          simp only [List.append_assoc] at h1
          exact h1)
        clear HFINB HFINS HS1 HN1 HY1 HO1 HO1o HY2 HY2o HBAD HOP HD
        have HM0 : Hid (base = base ++ (L.take 0).flatMap clipB) := by show _ = _; simp
        by_cases hcap : N1 = c
        · have hL0 : Hid (base = base ++ L.flatMap clipB) := by
            have : L = [] := List.eq_nil_of_length_eq_zero (by omega)
            show _ = _
            rw [this]; simp
          subst hcap
          have hM : new.length - N1 = 0 := by omega
          go_wp2_with fail
          go_loopw [59] (fun v wr => v = .int .i64 0 ∧ Hid (wr = w3)) (fun _ _ => 0)
          case atStart => exact ⟨rfl, rfl⟩
          case round =>
            obtain ⟨rfl, hwr⟩ := hrel
            obtain rfl := hwr.out
            have z35 := BufAt.fz B3.out 35
            have r35 := BufAt.rest_cell B3.out 32 vc rfl
            simp only [Nat.reduceAdd] at r35
            have HB9 := Lib.hid (BufAt.set_rest B3.out 32 (.slice A new.length N1))
            have HF9 := Lib.hid (Fr.setCell F3.out (p := ⟨b, 35, none⟩) (.inr (BufAt.ok_ B3.out)) (.slice A new.length N1))
            go_wp2_with fail
            go_end0
            have h9 := HEND.out _ (by rw [← hL0.out]; exact HB9.out) HF9.out
            exact ⟨rfl, h9.1, h9.2⟩
        · have hcap2 : ¬ (N1 : Int) = c := by omega
          by_cases hz : L.length = 0
          · have hL0 : Hid (base = base ++ L.flatMap clipB) := by
              have : L = [] := List.eq_nil_of_length_eq_zero hz
              show _ = _
              rw [this]; simp
            have hM : new.length - N1 = 0 := by omega
            go_wp2_with fail
            go_loopw [59] (fun v wr => v = .int .i64 0 ∧ Hid (wr = w3)) (fun _ _ => 0)
            case atStart => exact ⟨rfl, rfl⟩
            case round =>
              obtain ⟨rfl, hwr⟩ := hrel
              obtain rfl := hwr.out
              have z35 := BufAt.fz B3.out 35
              have r35 := BufAt.rest_cell B3.out 32 vc rfl
              simp only [Nat.reduceAdd] at r35
              have HB9 := Lib.hid (BufAt.set_rest B3.out 32 (.slice A new.length c))
              have HF9 := Lib.hid (Fr.setCell F3.out (p := ⟨b, 35, none⟩) (.inr (BufAt.ok_ B3.out)) (.slice A new.length c))
              go_wp2_with fail
              go_end0
              have h9 := HEND.out _ (by rw [← hL0.out]; exact HB9.out) HF9.out
              exact ⟨rfl, h9.1, h9.2⟩
          obtain ⟨ab, aoff, -, -, hAl, -⟩ := HEL.out w3 F3.out 0 (by omega)
          subst hAl
          clear hz
          go_wp2_with fail
          go_loopw [6, 59] (fun _ v wr => ∃ (k : Nat) (acc : List UInt8), k ≤ L.length ∧ v = .int .i64 k ∧ Hid (acc = base ++ (L.take k).flatMap clipB) ∧ Hid (BufAt 5 T (RR ⟨⟨tf0, tf1, tf2, tf3, tf4⟩, ⟨ts0, ts1, ts2, ts3, ts4⟩, ⟨tp0, tp1, tp2, tp3, tpd, tp5⟩⟩ A1 c1 ⟨⟨vf0, vf1, vf2, vf3, vf4⟩, ⟨vs0, vs1, vs2, vs3, vs4⟩, ⟨vp0, vp1, vp2, vp3, vpd, vp5⟩⟩ A2 c2 vc vf) okB b acc wr) ∧ Hid (Fr okB w wr)) (fun _ v _ => L.length - (intOf v).toNat)
          case atStart => exact ⟨0, base, Nat.zero_le _, rfl, HM0, B3, F3⟩
          case round =>
            clear HM0 B3 F3
            obtain ⟨k, acc, hk, rfl, hacc, hB, hF⟩ := hrel
            by_cases hlt : k < L.length
            · obtain ⟨ab', aoff', Ap, cap, hAl, e0, e1, hpa⟩ := HEL.out wr hF.out k hlt
              have hkM : k < new.length - N1 := by omega
              have hsp := clips_split L k hlt
              have hst := clips_take L k hlt
              have hpre := clipsB_le (L.take k)
              have hal2 : acc.length ≤ base.length + clipsLen (L.take k) := by
                rw [hacc.out, List.length_append]; omega
              generalize L[k] = x at *
              obtain ⟨xp, xe⟩ := x
              simp only at e0 e1 hpa hsp
              have hfit : acc.length + 160 * xp.length + 1000 ≤ 70368744177664 := by omega
              have HST := Lib.hid hst
              cases hAl
              have hwz := hF.out.size
              have HPC := Lib.hid (fun X => path_calls (T := T) (rest := RR ⟨⟨tf0, tf1, tf2, tf3, tf4⟩, ⟨ts0, ts1, ts2, ts3, ts4⟩, ⟨tp0, tp1, tp2, tp3, tpd, tp5⟩⟩ A1 c1 ⟨⟨vf0, vf1, vf2, vf3, vf4⟩, ⟨vs0, vs1, vs2, vs3, vs4⟩, ⟨vp0, vp1, vp2, vp3, vpd, vp5⟩⟩ A2 c2 vc vf) (ok := but okB wr.heap.size) (b := b) (bs := acc) xp Ap cap w0 (wr.alloc X) (((hB.out.imp (ok' := but okB wr.heap.size) fun q hq ho => ⟨ho, by omega⟩).alloc X)) (fun q hq => by simp at hq; exact ⟨HNB.out wr hF.out.size q (by omega), by omega⟩) hpa ((HKE.out wr hF.out).trans ((below_alloc wr X).mono (HKE.out wr hF.out).size)) (fun q hq => HO0.out q hq.1) hfit)
              have hpl := pathB_le xp
              clear hst hpa hsp hpre
              go_wp2_with fail
              refine (HPC.out _).mono ?_
              rintro e w4 ⟨rfl, b4, f4⟩
              have B4 := Lib.hid b4
              have F4 := Lib.hid f4
              have s1 := own_cell f4 1 (.bool xe) rfl
              have hz4 := f4.size
              simp only [World.size_alloc] at hz4
              have HLW := Lib.hid (fun op (hop : ByteArray.size op ≤ 16) => line_calls (T := T) (rest := RR ⟨⟨tf0, tf1, tf2, tf3, tf4⟩, ⟨ts0, ts1, ts2, ts3, ts4⟩, ⟨tp0, tp1, tp2, tp3, tpd, tp5⟩⟩ A1 c1 ⟨⟨vf0, vf1, vf2, vf3, vf4⟩, ⟨vs0, vs1, vs2, vs3, vs4⟩, ⟨vp0, vp1, vp2, vp3, vpd, vp5⟩⟩ A2 c2 vc vf) (ok := but okB wr.heap.size) (b := b) (bs := acc ++ pathB xp) op [] none 0 w4 hop b4 (fun q hq => ⟨HNB.out w4 (by omega) q hq, by omega⟩) (.inl rfl) (fun a ha => by cases ha) (by rw [List.length_append]; simp only [List.length_nil]; omega))
              clear b4 f4 e0 e1
              cases xe with
              | true =>
                have hnext : Hid (acc ++ pathB xp ++ [87, 42, 32, 110, 10] = base ++ (L.take (k + 1)).flatMap clipB) := by
                  show _ = _
                  rw [HST.out, hacc.out]
                  simp only [clipB, List.append_assoc, if_true]
                go_wp2_with fail
                refine (HLW.out ⟨#[87, 42, 32, 110]⟩ (by decide)).mono ?_
                rintro e w5 ⟨rfl, b5, f5⟩
                have B5 : Hid (BufAt 5 T (RR ⟨⟨tf0, tf1, tf2, tf3, tf4⟩, ⟨ts0, ts1, ts2, ts3, ts4⟩, ⟨tp0, tp1, tp2, tp3, tpd, tp5⟩⟩ A1 c1 ⟨⟨vf0, vf1, vf2, vf3, vf4⟩, ⟨vs0, vs1, vs2, vs3, vs4⟩, ⟨vp0, vp1, vp2, vp3, vpd, vp5⟩⟩ A2 c2 vc vf) okB b (acc ++ pathB xp ++ [87, 42, 32, 110, 10]) w5) := BufAt.imp (ok' := okB) b5 fun q _ ho => ho.1
                have F5 := Lib.hid (hF.out.trans ((Fr.alloc (Fr.refl okB wr) _).trans ((F4.out.trans f5).mono fun q _ ho => ho.1)))
                clear b5 f5 s1
                go_wp2_with fail
                go_roundw
                case rel => exact ⟨k + 1, _, by omega, by go_num, hnext, B5, F5⟩
                case measure => simp [intOf]; omega
              | false =>
                have hnext : Hid (acc ++ pathB xp ++ [87, 32, 110, 10] = base ++ (L.take (k + 1)).flatMap clipB) := by
                  show _ = _
                  rw [HST.out, hacc.out]
                  simp only [clipB, List.append_assoc, Bool.false_eq_true, if_false]
                go_wp2_with fail
                refine (HLW.out ⟨#[87, 32, 110]⟩ (by decide)).mono ?_
                rintro e w5 ⟨rfl, b5, f5⟩
                have B5 : Hid (BufAt 5 T (RR ⟨⟨tf0, tf1, tf2, tf3, tf4⟩, ⟨ts0, ts1, ts2, ts3, ts4⟩, ⟨tp0, tp1, tp2, tp3, tpd, tp5⟩⟩ A1 c1 ⟨⟨vf0, vf1, vf2, vf3, vf4⟩, ⟨vs0, vs1, vs2, vs3, vs4⟩, ⟨vp0, vp1, vp2, vp3, vpd, vp5⟩⟩ A2 c2 vc vf) okB b (acc ++ pathB xp ++ [87, 32, 110, 10]) w5) := BufAt.imp (ok' := okB) b5 fun q _ ho => ho.1
                have F5 := Lib.hid (hF.out.trans ((Fr.alloc (Fr.refl okB wr) _).trans ((F4.out.trans f5).mono fun q _ ho => ho.1)))
                clear b5 f5 s1
                go_wp2_with fail
                go_roundw
                case rel => exact ⟨k + 1, _, by omega, by go_num, hnext, B5, F5⟩
                case measure => simp [intOf]; omega
            · obtain rfl : k = L.length := by omega
              have hfull : Hid (acc = base ++ L.flatMap clipB) := by show _ = _; rw [hacc.out, List.take_length]
              have hkM : ¬ L.length < new.length - N1 := by omega
              have z35 := BufAt.fz hB.out 35
              have r35 := BufAt.rest_cell hB.out 32 vc rfl
              simp only [Nat.reduceAdd] at r35
              have HB9 := Lib.hid (BufAt.set_rest hB.out 32 (.slice (some ⟨ab, aoff, none⟩) new.length c))
              have HF9 := Lib.hid (Fr.setCell hF.out (p := ⟨b, 35, none⟩) (.inr (BufAt.ok_ hB.out)) (.slice (some ⟨ab, aoff, none⟩) new.length c))
              go_wp2_with fail
              go_end0
              have h9 := HEND.out _ (by rw [← hfull.out]; exact HB9.out) HF9.out
              exact ⟨rfl, h9.1, h9.2⟩
end Go.Proofs.YtdkgfgmmmjpkgaaGreatDoor
