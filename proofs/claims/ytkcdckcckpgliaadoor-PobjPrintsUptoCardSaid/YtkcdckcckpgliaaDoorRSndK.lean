/- The keys of a dictionary, as the reference looks at them. -/
import Derived.Test.YtkcdckcckpgliaaDoorRSnd2
namespace Go.Proofs.YtkcdckcckpgliaaDoor
open Go.RowKit Go.Shelf

def keysB (nine : Bool) : List ByteArray → List ByteArray → Bool
  | _, [] => true
  | pre, k :: r => (namedB k && !(nine && (k.toList == lengthName.toList)) && !(pre.any (fun x => x.toList == k.toList))) && keysB nine (pre ++ [k]) r
theorem keysB_step (nine : Bool) (ks : List ByteArray) (i : Nat) (h : i < ks.length) :
    keysB nine (ks.take i) (ks.drop i) = ((namedB ks[i] && !(nine && (ks[i].toList == lengthName.toList)) && !((ks.take i).any (fun x => x.toList == ks[i].toList))) && keysB nine (ks.take (i + 1)) (ks.drop (i + 1))) := by
  have hd : ks.drop i = ks[i] :: ks.drop (i + 1) := List.drop_eq_getElem_cons h
  have ht : ks.take (i + 1) = ks.take i ++ [ks[i]] := by rw [List.take_add_one, List.getElem?_eq_getElem h]; rfl
  rw [hd, ht]; rfl
theorem toList_beq (a b : ByteArray) : (a.toList == b.toList) = true ↔ a = b := by
  rw [beq_iff_eq, Lib.toList_data, Lib.toList_data]
  exact ⟨fun h => by cases a; cases b; exact congrArg _ (Array.toList_inj.1 h), fun h => by rw [h]⟩
theorem containsS_any (zs : List ByteArray) (x : ByteArray) : Lib.containsS zs x = zs.any (fun y => y.toList == x.toList) := by
  rw [Bool.eq_iff_iff, Lib.containsS_iff, List.any_eq_true]
  exact ⟨fun h => ⟨x, h, (toList_beq x x).2 rfl⟩, fun ⟨y, hy, h⟩ => (toList_beq y x).1 h ▸ hy⟩
theorem keysB_no : ∀ (r pre : List ByteArray), keysB false pre r = distinctB pre r
  | [], _ => rfl
  | k :: r, pre => by
    rw [keysB, distinctB, keysB_no r, containsS_any]
    simp
theorem keysB_yes : ∀ (r pre : List ByteArray), keysB true pre r = (distinctB pre r && !Lib.containsS r lengthName)
  | [], _ => rfl
  | k :: r, pre => by
    rw [keysB, distinctB, keysB_yes r, containsS_any, containsS_any, containsS_any, List.any_cons]
    cases namedB k <;> cases (k.toList == lengthName.toList) <;> cases (pre.any fun y => y.toList == k.toList) <;> cases distinctB (pre ++ [k]) r <;> simp
end Go.Proofs.YtkcdckcckpgliaaDoor
