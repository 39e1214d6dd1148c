/- Plain facts on the bytes of a name: regular, below 127, and of no other name. -/
import Derived.Test.YtkcdckcckpgliaaDoorNames2
import Derived.Lib.Strings
namespace Go.Proofs.YtkcdckcckpgliaaDoor

theorem esc35 : escN 35 = true := by decide
theorem hexD_inj : ∀ n, n < 16 → ∀ m, m < 16 → hexD n = hexD m → n = m := by decide
theorem hexD_reg : ∀ n, n < 16 → regB (hexD n) = true ∧ (hexD n).toNat ≤ 126 := by decide
theorem plain_reg (c : UInt8) (h : escN c = false) : regB c = true ∧ c.toNat ≤ 126 := by
  have all : ∀ n, n < 256 → escN (UInt8.ofNat n) = false → regB (UInt8.ofNat n) = true ∧ (UInt8.ofNat n).toNat ≤ 126 := by decide +kernel
  have := all c.toNat c.toNat_lt
  rw [UInt8.ofNat_toNat] at this
  exact this h
theorem nameByte_reg (c x : UInt8) (h : x ∈ nameByte c) : regB x = true ∧ x.toNat ≤ 126 := by
  have h1 := c.toNat_lt
  by_cases he : escN c = true
  · rw [nameByte, if_pos he] at h
    simp only [List.mem_cons, List.not_mem_nil, or_false] at h
    rcases h with rfl | rfl | rfl
    · decide
    · exact hexD_reg _ (by omega)
    · exact hexD_reg _ (by omega)
  · have he' : escN c = false := by simpa using he
    rw [nameByte_plain c he', List.mem_singleton] at h
    rw [h]
    exact plain_reg c he'
theorem nameL_reg (s : List UInt8) (i : Nat) (h0 : 1 ≤ i) (hi : i < (nameL s).length) : regB (nameL s)[i] = true ∧ (nameL s)[i].toNat ≤ 126 := by
  have hm : (nameL s)[i] ∈ s.flatMap nameByte := by
    obtain ⟨j, rfl⟩ : ∃ j, i = j + 1 := ⟨i - 1, by omega⟩
    have : (nameL s)[j + 1] = (s.flatMap nameByte)[j]'(by simpa [nameL] using hi) := by simp [nameL]
    rw [this]
    exact List.getElem_mem _
  obtain ⟨c, -, hc⟩ := List.mem_flatMap.1 hm
  exact nameByte_reg c _ hc
theorem nameByte_inj (c d : UInt8) (r q : List UInt8) (h : nameByte c ++ r = nameByte d ++ q) : c = d ∧ r = q := by
  have hc := c.toNat_lt
  have hd := d.toNat_lt
  by_cases h1 : escN c = true <;> by_cases h2 : escN d = true
  · rw [nameByte, if_pos h1, nameByte, if_pos h2] at h
    simp only [List.cons_append, List.nil_append, List.cons.injEq, true_and] at h
    obtain ⟨e1, e2, e3⟩ := h
    have a1 := hexD_inj _ (by omega) _ (by omega) e1
    have a2 := hexD_inj _ (by omega) _ (by omega) e2
    exact ⟨UInt8.toNat.inj (by omega), e3⟩
  · rw [nameByte, if_pos h1, nameByte, if_neg h2] at h
    simp only [List.cons_append, List.nil_append, List.cons.injEq] at h
    exact absurd (h.1 ▸ esc35) h2
  · rw [nameByte, if_neg h1, nameByte, if_pos h2] at h
    simp only [List.cons_append, List.nil_append, List.cons.injEq] at h
    exact absurd (h.1 ▸ esc35) h1
  · rw [nameByte, if_neg h1, nameByte, if_neg h2] at h
    simpa using h
theorem nameByte_ne (c : UInt8) : nameByte c ≠ [] := by unfold nameByte; split <;> simp
theorem flat_inj : ∀ s t : List UInt8, s.flatMap nameByte = t.flatMap nameByte → s = t
  | [], [], _ => rfl
  | [], d :: t, h => by
    rw [List.flatMap_nil, List.flatMap_cons] at h
    exact absurd (List.append_eq_nil_iff.1 h.symm).1 (nameByte_ne d)
  | c :: s, [], h => by
    rw [List.flatMap_nil, List.flatMap_cons] at h
    exact absurd (List.append_eq_nil_iff.1 h).1 (nameByte_ne c)
  | c :: s, d :: t, h => by
    rw [List.flatMap_cons, List.flatMap_cons] at h
    obtain ⟨rfl, h2⟩ := nameByte_inj c d _ _ h
    rw [flat_inj s t h2]
theorem nameL_inj (s t : List UInt8) (h : nameL s = nameL t) : s = t := flat_inj s t (by simpa [nameL] using h)
theorem ba_ext {s t : ByteArray} (h : s.data.toList = t.data.toList) : s = t := by
  cases s with | mk a => cases t with | mk c => exact congrArg ByteArray.mk (Array.toList_inj.1 h)
theorem nameL_iff (s t : ByteArray) : (nameL s.data.toList = nameL t.data.toList) ↔ s = t :=
  ⟨fun h => ba_ext (nameL_inj _ _ h), fun h => by rw [h]⟩
theorem indexByte_neg : ∀ l : List UInt8, l.any (fun c => c == 0) = false → Lib.indexByte l 0 = -1
  | [], _ => rfl
  | c :: l, h => by
    rw [List.any_cons, Bool.or_eq_false_iff] at h
    rw [Lib.indexByte, h.1, indexByte_neg l h.2]
    rfl
/-- What is no name's text: empty, too long, or with a byte 0. -/
theorem not_named (s : ByteArray) (h : namedB s = false) : s.size < 1 ∨ 127 < s.size ∨ zeroB s = true := by
  by_cases h1 : s.size < 1
  · exact .inl h1
  by_cases h2 : 127 < s.size
  · exact .inr (.inl h2)
  refine .inr (.inr ?_)
  by_cases h3 : zeroB s = true
  · exact h3
  · have h4 := indexByte_neg s.data.toList (by simpa [zeroB] using h3)
    have h5 : s.toList ≠ [] := by
      rw [Lib.toList_data]
      intro h6
      have := size_data s
      rw [h6] at this
      simp at this
      omega
    have : namedB s = true := by
      simp only [namedB, Bool.and_eq_true, decide_eq_true_eq, Bool.not_eq_true', List.isEmpty_eq_false_iff]
      exact ⟨⟨h5, by omega⟩, by omega⟩
    rw [this] at h
    cases h
end Go.Proofs.YtkcdckcckpgliaaDoor
