/- The reference's Print as the machine runs it: the bytes of a sound object. -/
import Derived.Test.YtkcdckcckpgliaaDoorPr9
import Derived.Test.YtkcdckcckpgliaaDoorPrint
namespace Go.Proofs.YtkcdckcckpgliaaDoor
open Go.RowKit Go.Shelf

theorem rpr_of (deep : Bool) (f : PO → Bool) (o : PO) (v : Array Value) (w : World) (hs : sndK deep f o = true) (ho : ORd w o v) (hlim : (wrL o).length ≤ 70368744177664) (d : Nat) (hd : deep = true → RPrAt d) (hfd : deep = true → ∀ o, f o = sndB d o) :
    Calls Tryd.prog 11 #[.agg v] w fun e w' => e = .returned (.string (asStr (wrL o))) ∧ Below w.heap.size w w' := by
  obtain ⟨k, n, t, ks, l, dd⟩ := o
  have hget : deep = true → allB f l = true → ∀ i (h : i < l.length), sndB d l[i] = true := fun h1 h2 i hi => by rw [← hfd h1]; exact allB_get h2 i hi
  unfold sndK at hs
  simp only at hs
  split at hs
  · rename_i h; obtain rfl := eq_of_beq h
    exact rpr_0 n t ks l dd v w ho
  split at hs
  · rename_i h; obtain rfl := eq_of_beq h
    simp only [Bool.and_eq_true, Bool.or_eq_true, beq_iff_eq] at hs
    exact rpr_1 n t ks l dd v w hs.2 ho
  split at hs
  · rename_i h; obtain rfl := eq_of_beq h
    simp only [Bool.and_eq_true] at hs
    exact rpr_2 n t ks l dd v w hs.2 ho
  split at hs
  · rename_i h; obtain rfl := eq_of_beq h
    simp only [Bool.and_eq_true] at hs
    exact rpr_3 n t ks l dd v w hs.2 ho
  split at hs
  · rename_i h; obtain rfl := eq_of_beq h
    simp only [namedB, Bool.and_eq_true, decide_eq_true_eq] at hs
    exact rpr_4 n t ks l dd v w hs.2.1.2 ho
  split at hs
  · rename_i h; obtain rfl := eq_of_beq h
    simp only [Bool.and_eq_true, decide_eq_true_eq] at hs
    exact rpr_5 n t ks l dd v w hs.2 ho
  split at hs
  · rename_i h; obtain rfl := eq_of_beq h
    simp only [Bool.and_eq_true, decide_eq_true_eq] at hs
    exact rpr_8 n t ks l dd v w hs.1.2 hs.2 ho
  split at hs
  · rename_i h; obtain rfl := eq_of_beq h
    simp only [Bool.and_eq_true, decide_eq_true_eq] at hs
    exact rpr_6 d (hd hs.1.1) n t ks l dd v w (hget hs.1.1 hs.2) ho hlim
  split at hs
  · rename_i h; obtain rfl := eq_of_beq h
    simp only [Bool.and_eq_true, decide_eq_true_eq] at hs
    exact rpr_7 d (hd hs.1.1.1.1) n t ks l dd v w (by have := eq_of_beq hs.1.1.2; omega) (distinctB_named _ _ hs.1.2) (hget hs.1.1.1.1 hs.2) ho hlim
  split at hs
  · rename_i h; obtain rfl := eq_of_beq h
    simp only [Bool.and_eq_true, decide_eq_true_eq] at hs
    exact rpr_9 d (hd hs.1.1.1.1.1.1) n t ks l dd v w (by have := eq_of_beq hs.1.1.1.1.2; omega) (distinctB_named _ _ hs.1.1.1.2) hs.1.2 (hget hs.1.1.1.1.1.1 hs.2) ho hlim
  · simp at hs

theorem rpr_all : ∀ d, RPrAt d
  | 0 => fun o v w hs ho hlim => rpr_of false (fun _ => false) o v w hs ho hlim 0 (fun h => by simp at h) (fun h => by simp at h)
  | d + 1 => fun o v w hs ho hlim => rpr_of true (sndB d) o v w hs ho hlim d (fun _ => rpr_all d) (fun _ _ => rfl)
theorem rPrint_calls (o : PO) (v : Array Value) (w : World) (ho : ORd w o v) (hs : sndB 32 o = true) (hlim : (wrL o).length ≤ 70368744177664) :
    Calls Tryd.prog 11 #[.agg v] w fun e w' => e = .returned (.string (asStr (wrL o))) ∧ Below w.heap.size w w' := rpr_all 32 o v w hs ho hlim
end Go.Proofs.YtkcdckcckpgliaaDoor
