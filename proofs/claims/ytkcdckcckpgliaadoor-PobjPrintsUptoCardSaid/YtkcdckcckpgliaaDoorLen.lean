/- How long the print of a sound object is. -/
import Derived.Test.YtkcdckcckpgliaaDoorOpen
import Derived.Test.YtkcdckcckpgliaaDoorPrint
namespace Go.Proofs.YtkcdckcckpgliaaDoor

def sumL : List (List UInt8) → Nat
  | [] => 0
  | x :: r => x.length + sumL r
theorem arrItems_le : ∀ (b : Bool) (xs : List (List UInt8)), (arrItems b xs).length = sumL xs + xs.length
  | _, [] => by simp [arrItems, sumL]
  | b, x :: r => by
    have := arrItems_le false r
    simp only [arrItems, sumL, List.length_cons, List.length_append]
    omega
theorem pairItems_le : ∀ (ks : List ByteArray) (xs : List (List UInt8)), (pairItems ks xs).length ≤ 3 * szK ks + sumL xs
  | [], xs => by simp [pairItems]
  | k :: ks, [] => by simp [pairItems]
  | k :: ks, x :: xs => by
    have h1 := pairItems_le ks xs
    have h2 := nameL_le k.data.toList
    have h3 : k.data.toList.length = k.size := by rw [Array.length_toList]; rfl
    simp only [pairItems, szK, sumL, List.length_cons, List.length_append]
    omega
theorem szO_pos (o : PO) : 1 ≤ szO o := by cases o; simp only [szO]; omega
theorem wrs_le : ∀ (l : List PO), (∀ i (h : i < l.length), (wrL l[i]).length + 30 ≤ 100 * szO l[i]) → sumL (wrs l) + l.length ≤ 100 * szOs l
  | [], _ => by simp [wrs, sumL]
  | x :: r, h => by
    have h0 := h 0 (by simp)
    simp only [List.getElem_cons_zero] at h0
    have h1 := wrs_le r fun i hi => by
      have := h (i + 1) (by simpa using hi)
      simpa using this
    simp only [wrs, sumL, szOs, List.length_cons]
    omega
theorem itoa_fit (n : Int) (h : fitsB n = true) : (Lib.itoa n).length ≤ 21 := by
  simp only [fitsB, Bool.and_eq_true, decide_eq_true_eq] at h
  exact itoa_le n (by omega)
theorem len_of (deep : Bool) (f : PO → Bool) (hf : ∀ o, f o = true → (wrL o).length + 30 ≤ 100 * szO o) (o : PO) (h : sndK deep f o = true) : (wrL o).length + 30 ≤ 100 * szO o := by
  obtain ⟨k, n, t, ks, l, d⟩ := o
  have hts : t.data.toList.length = t.size := by rw [Array.length_toList]; rfl
  have hl : allB f l = true → sumL (wrs l) + l.length ≤ 100 * szOs l := fun ha => wrs_le l fun i hi => hf _ (allB_get ha i hi)
  unfold sndK at h
  simp only at h
  rw [wrL]
  simp only [szO]
  split at h
  · rename_i hk; rw [if_pos hk]; simp [nullL]; omega
  rename_i hk0; rw [if_neg hk0]
  split at h
  · rename_i hk; rw [if_pos hk]
    have : (boolL (n == 1)).length ≤ 5 := by cases (n == 1) <;> decide
    omega
  rename_i hk1; rw [if_neg hk1]
  split at h
  · rename_i hk; rw [if_pos hk]
    simp only [Bool.and_eq_true] at h
    have := itoa_fit n h.2
    omega
  rename_i hk2; rw [if_neg hk2]
  split at h
  · rename_i hk; rw [if_pos hk]
    have := realL_le n
    omega
  rename_i hk3; rw [if_neg hk3]
  split at h
  · rename_i hk; rw [if_pos hk]
    have := nameL_le t.data.toList
    omega
  rename_i hk4; rw [if_neg hk4]
  split at h
  · rename_i hk; rw [if_pos hk]
    have := textL_le t.data.toList
    omega
  rename_i hk5; rw [if_neg hk5]
  split at h
  · rename_i hk; rw [if_pos hk]
    simp only [Bool.and_eq_true, decide_eq_true_eq] at h
    have := itoa_le n (by omega)
    simp only [List.length_append, List.length_cons, List.length_nil]
    omega
  rename_i hk8; rw [if_neg hk8]
  split at h
  · rename_i hk; rw [if_pos hk]
    simp only [Bool.and_eq_true] at h
    have h1 := hl h.2
    have h2 := arrItems_le true (wrs l)
    rw [wrs_length] at h2
    simp only [arrB, List.length_append, List.length_cons, List.length_nil]
    split <;> simp only [List.length_cons, List.length_nil] <;> omega
  rename_i hk6; rw [if_neg hk6]
  split at h
  · rename_i hk; rw [if_pos hk]
    simp only [Bool.and_eq_true] at h
    have h1 := hl h.2
    have h2 := pairItems_le ks (wrs l)
    simp only [pairsB, List.length_append, List.length_cons, List.length_nil]
    omega
  rename_i hk7; rw [if_neg hk7]
  split at h
  · simp only [Bool.and_eq_true, decide_eq_true_eq] at h
    have h1 := hl h.2
    have h2 := pairItems_le ks (wrs l)
    have h3 := itoa_le d.length (by have := h.1.2; omega)
    have h4 : lenL.length = 9 := rfl
    simp only [streamB, pairsB, List.length_append, List.length_cons, List.length_nil, h4]
    omega
  · simp at h
theorem len_all : ∀ (d : Nat) (o : PO), sndB d o = true → (wrL o).length + 30 ≤ 100 * szO o
  | 0, o, h => len_of false (fun _ => false) (fun o h => by simp at h) o h
  | d + 1, o, h => len_of true (sndB d) (len_all d) o h
end Go.Proofs.YtkcdckcckpgliaaDoor
