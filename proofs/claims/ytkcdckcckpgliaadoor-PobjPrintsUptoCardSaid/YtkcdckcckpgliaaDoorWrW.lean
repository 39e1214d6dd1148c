/- What pobj.write writes: a plain function; Itoa and FormatBool as contracts with a frame. -/
import Derived.Test.YtkcdckcckpgliaaDoorSnd4
import Derived.Test.YtkcdckcckpgliaaDoorText
import Derived.Test.YtkcdckcckpgliaaDoorDec
import Derived.WalkSmall
import Derived.Lib.ItoaLen
namespace Go.Proofs.YtkcdckcckpgliaaDoor
open Go.RowKit Go.Shelf

def nullL : List UInt8 := [110, 117, 108, 108]
def boolL (b : Bool) : List UInt8 := if b then [116, 114, 117, 101] else [102, 97, 108, 115, 101]
def arrItems : Bool → List (List UInt8) → List UInt8
  | _, [] => []
  | first, x :: r => (if first then 91 else 32) :: (x ++ arrItems false r)
def arrB (xs : List (List UInt8)) : List UInt8 := arrItems true xs ++ (if xs.isEmpty then [91] else []) ++ [93]
def pairItems : List ByteArray → List (List UInt8) → List UInt8
  | k :: ks, x :: xs => 32 :: (nameL k.data.toList ++ 32 :: (x ++ pairItems ks xs))
  | _, _ => []
def pairsB (ks : List ByteArray) (xs : List (List UInt8)) (more : List UInt8) : List UInt8 := [60, 60] ++ pairItems ks xs ++ (more ++ [32, 62, 62])
def lenL : List UInt8 := [32, 47, 76, 101, 110, 103, 116, 104, 32]
def streamB (ks : List ByteArray) (xs : List (List UInt8)) (d : List UInt8) : List UInt8 :=
  pairsB ks xs (lenL ++ Lib.itoa d.length) ++ [10, 115, 116, 114, 101, 97, 109, 10] ++ d ++ [10, 101, 110, 100, 115, 116, 114, 101, 97, 109]
mutual
/-- An object's bytes. -/
def wrL : PO → List UInt8
  | ⟨k, n, t, ks, l, d⟩ =>
    if k == 0 then nullL
    else if k == 1 then boolL (n == 1)
    else if k == 2 then Lib.itoa n
    else if k == 3 then realL n
    else if k == 4 then nameL t.data.toList
    else if k == 5 then textL t.data.toList
    else if k == 8 then Lib.itoa n ++ [32, 48, 32, 82]
    else if k == 6 then arrB (wrs l)
    else if k == 7 then pairsB ks (wrs l) []
    else streamB ks (wrs l) d
def wrs : List PO → List (List UInt8)
  | [] => []
  | x :: r => wrL x :: wrs r
end
theorem wrs_length : ∀ l : List PO, (wrs l).length = l.length
  | [] => by simp [wrs]
  | x :: r => by rw [wrs, List.length_cons, List.length_cons, wrs_length r]
theorem wrs_get : ∀ (l : List PO) (i : Nat) (h : i < l.length), (wrs l)[i]'(by rw [wrs_length]; exact h) = wrL l[i]
  | x :: r, 0, _ => by simp [wrs]
  | x :: r, i + 1, h => by simp only [wrs, List.getElem_cons_succ]; exact wrs_get r i (by simpa using h)
theorem wrs_drop (l : List PO) (i : Nat) (h : i < l.length) : (wrs l).drop i = wrL l[i] :: (wrs l).drop (i + 1) := by
  rw [List.drop_eq_getElem_cons (by rw [wrs_length]; exact h), wrs_get l i h]

/-- The library's table of powers lies as its text lays it. -/
def Tab (w : World) : Prop := Lib.TabIs Tryd.prog w "internal/strconv.uint64pow10" .u64 Lib.pow10Tab
theorem gPow : Tryd.prog.globalNamed "internal/strconv.uint64pow10" = some 1 := by kernel_rfl
theorem Tab.keep {w w' : World} (h : Tab w) (hb : Below w.heap.size w w') : Tab w' := by
  have hg : 1 < w.heap.size := by
    have h1 := h
    unfold Tab Lib.TabIs World.var? at h1
    simp only [gPow] at h1
    rcases Nat.lt_or_ge 1 w.heap.size with h2 | h2
    · exact h2
    · simp [Array.getElem?_eq_none h2] at h1
  exact var?_below hb gPow hg h

theorem itoa_calls (n : Int) (h0 : -9223372036854775808 ≤ n) (h1 : n ≤ 9223372036854775807) (w : World) (ht : Tab w) :
    Calls Tryd.prog 29 #[.int .i64 n] w fun e w' => e = .returned (.string (asStr (Lib.itoa n))) ∧ Below w.heap.size w w' :=
  (Tryd.strconv_Itoa n h0 h1 w ht).mono fun e w' ⟨he, k, os, hw⟩ => ⟨he, by
    subst hw
    exact ⟨rfl, rfl, rfl, by simp [Sort.grow], fun j hj => by
      show (w.heap ++ os)[j]? = w.heap[j]?
      rw [Array.getElem?_append_left hj]⟩⟩
theorem formatBool_calls (b : Bool) (w : World) : Calls Tryd.prog 28 #[.bool b] w fun e w' => e = .returned (.string (asStr (boolL b))) ∧ w = w' := by
  refine (Tryd.strconv_FormatBool b w).mono fun e w' ⟨h1, h2⟩ => ⟨?_, h2.symm⟩
  rw [h1]
  cases b <;> rfl
end Go.Proofs.YtkcdckcckpgliaaDoor
