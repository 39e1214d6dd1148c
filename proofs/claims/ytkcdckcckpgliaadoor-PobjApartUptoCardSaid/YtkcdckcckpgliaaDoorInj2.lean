/- Names and strings can be read back. -/
import Derived.Test.YtkcdckcckpgliaaDoorInj1
namespace Go.Proofs.YtkcdckcckpgliaaDoor

theorem esc35 : escN 35 = true := by decide
theorem hexD_inj : ∀ n, n < 16 → ∀ m, m < 16 → hexD n = hexD m → n = m := by decide
theorem nameByte_inj (c d : UInt8) (r q : List UInt8) (h : nameByte c ++ r = nameByte d ++ q) : c = d ∧ r = q := by
  have hc := c.toNat_lt
  have hd := d.toNat_lt
  by_cases h1 : escN c = true <;> by_cases h2 : escN d = true
  · rw [nameByte, if_pos h1, nameByte, if_pos h2] at h
    simp only [List.cons_append, List.nil_append, List.cons.injEq, true_and] at h
    obtain ⟨e1, e2, e3⟩ := h
    have a1 := hexD_inj _ (by omega) _ (by omega) e1
    have a2 := hexD_inj _ (by omega) _ (by omega) e2
    exact ⟨UInt8.toNat.inj (by omega), e3⟩
  · rw [nameByte, if_pos h1, nameByte, if_neg h2] at h
    simp only [List.cons_append, List.nil_append, List.cons.injEq] at h
    exact absurd (h.1 ▸ esc35) h2
  · rw [nameByte, if_neg h1, nameByte, if_pos h2] at h
    simp only [List.cons_append, List.nil_append, List.cons.injEq] at h
    exact absurd (h.1 ▸ esc35) h1
  · rw [nameByte, if_neg h1, nameByte, if_neg h2] at h
    simpa using h
/-- What ends a name: nothing, a space or a bracket. -/
def NameEnd (q : List UInt8) : Prop := q = [] ∨ ∃ c t, q = c :: t ∧ (c = 32 ∨ c = 93)
theorem nameByte_head (c : UInt8) (r : List UInt8) : ¬ NameEnd (nameByte c ++ r) := by
  rintro (h | ⟨d, t, h, hd⟩)
  · rw [nameByte] at h
    split at h <;> simp at h
  · rw [nameByte] at h
    split at h
    · simp only [List.cons_append, List.cons.injEq] at h
      rw [← h.1] at hd
      revert hd; decide
    · rename_i he
      simp only [List.cons_append, List.nil_append, List.cons.injEq] at h
      rw [h.1] at he
      rcases hd with rfl | rfl <;> exact he (by decide)
theorem flat_split : ∀ (s t : List UInt8) (q q' : List UInt8), NameEnd q → NameEnd q' → s.flatMap nameByte ++ q = t.flatMap nameByte ++ q' → s = t ∧ q = q'
  | [], [], _, _, _, _, h => ⟨rfl, by simpa using h⟩
  | [], d :: t, q, q', h1, _, h => by
    rw [List.flatMap_nil, List.nil_append, List.flatMap_cons, List.append_assoc] at h
    exact absurd (h ▸ h1) (nameByte_head d _)
  | c :: s, [], q, q', _, h2, h => by
    rw [List.flatMap_nil, List.nil_append, List.flatMap_cons, List.append_assoc] at h
    exact absurd (h ▸ h2) (nameByte_head c _)
  | c :: s, d :: t, q, q', h1, h2, h => by
    rw [List.flatMap_cons, List.flatMap_cons, List.append_assoc, List.append_assoc] at h
    obtain ⟨rfl, h3⟩ := nameByte_inj c d _ _ h
    obtain ⟨rfl, h4⟩ := flat_split s t q q' h1 h2 h3
    exact ⟨rfl, h4⟩
theorem ba_ext {s t : ByteArray} (h : s.data.toList = t.data.toList) : s = t := by
  cases s with | mk a => cases t with | mk c => exact congrArg ByteArray.mk (Array.toList_inj.1 h)
theorem name_split (s t : ByteArray) (q q' : List UInt8) (h1 : NameEnd q) (h2 : NameEnd q') (h : nameL s.data.toList ++ q = nameL t.data.toList ++ q') : s = t ∧ q = q' := by
  unfold nameL at h
  simp only [List.cons_append, List.cons.injEq, true_and] at h
  obtain ⟨e1, e2⟩ := flat_split _ _ q q' h1 h2 h
  exact ⟨ba_ext e1, e2⟩

theorem esc_cases (c : UInt8) (h : escT c = true) : c.toNat = 40 ∨ c.toNat = 41 ∨ c.toNat = 92 := by
  simp only [escT, Bool.or_eq_true, decide_eq_true_eq] at h
  omega
theorem oct_toNat (n : Nat) (h : n < 8) : (UInt8.ofNat (48 + n)).toNat = 48 + n := by rw [UInt8.toNat_ofNat', Nat.mod_eq_of_lt (by omega)]
theorem textByte_inj (c d : UInt8) (r q : List UInt8) (h : textByte c ++ r = textByte d ++ q) : c = d ∧ r = q := by
  have hc := c.toNat_lt
  have hd := d.toNat_lt
  have n92 : (92 : UInt8).toNat = 92 := by decide
  have ho := fun n hn => oct_toNat n hn
  have plain : ∀ c : UInt8, ¬ escT c = true → c ≠ 92 := fun c h1 e => by rw [e] at h1; exact h1 (by decide)
  unfold textByte at h
  by_cases h1 : escT c = true <;> by_cases h2 : escT d = true
  · rw [if_pos h1, if_pos h2] at h
    simpa using h
  · rw [if_pos h1, if_neg h2] at h
    split at h
    · simp only [List.cons_append, List.nil_append, List.cons.injEq, true_and] at h
      have e := congrArg UInt8.toNat h.1
      rw [ho _ (by omega)] at e
      have := esc_cases c h1
      omega
    · simp only [List.cons_append, List.nil_append, List.cons.injEq] at h
      exact absurd h.1.symm (plain d h2)
  · rw [if_neg h1, if_pos h2] at h
    split at h
    · simp only [List.cons_append, List.nil_append, List.cons.injEq, true_and] at h
      have e := congrArg UInt8.toNat h.1
      rw [ho _ (by omega)] at e
      have := esc_cases d h2
      omega
    · simp only [List.cons_append, List.nil_append, List.cons.injEq] at h
      exact absurd h.1 (plain c h1)
  · rw [if_neg h1, if_neg h2] at h
    split at h <;> split at h
    · simp only [List.cons_append, List.nil_append, List.cons.injEq, true_and] at h
      obtain ⟨e1, e2, e3, e4⟩ := h
      have a1 := congrArg UInt8.toNat e1
      have a2 := congrArg UInt8.toNat e2
      have a3 := congrArg UInt8.toNat e3
      rw [ho _ (by omega), ho _ (by omega)] at a1 a2 a3
      exact ⟨UInt8.toNat.inj (by omega), e4⟩
    · simp only [List.cons_append, List.nil_append, List.cons.injEq] at h
      exact absurd h.1.symm (plain d h2)
    · simp only [List.cons_append, List.nil_append, List.cons.injEq] at h
      exact absurd h.1 (plain c h1)
    · simpa using h
theorem textByte_head (c : UInt8) (r q : List UInt8) : textByte c ++ r ≠ 41 :: q := by
  intro h
  unfold textByte at h
  split at h
  · simp at h
  · rename_i he
    split at h
    · simp at h
    · simp only [List.cons_append, List.nil_append, List.cons.injEq] at h
      rw [h.1] at he
      exact he (by decide)
theorem flatT_split : ∀ (s t : List UInt8) (q q' : List UInt8), s.flatMap textByte ++ 41 :: q = t.flatMap textByte ++ 41 :: q' → s = t ∧ q = q'
  | [], [], _, _, h => ⟨rfl, by simpa using h⟩
  | [], d :: t, q, q', h => by
    rw [List.flatMap_nil, List.nil_append, List.flatMap_cons, List.append_assoc] at h
    exact absurd h.symm (textByte_head d _ _)
  | c :: s, [], q, q', h => by
    rw [List.flatMap_nil, List.nil_append, List.flatMap_cons, List.append_assoc] at h
    exact absurd h (textByte_head c _ _)
  | c :: s, d :: t, q, q', h => by
    rw [List.flatMap_cons, List.flatMap_cons, List.append_assoc, List.append_assoc] at h
    obtain ⟨rfl, h3⟩ := textByte_inj c d _ _ h
    obtain ⟨rfl, h4⟩ := flatT_split s t q q' h3
    exact ⟨rfl, h4⟩
theorem text_split (s t : ByteArray) (q q' : List UInt8) (h : textL s.data.toList ++ q = textL t.data.toList ++ q') : s = t ∧ q = q' := by
  unfold textL at h
  simp only [List.cons_append, List.cons.injEq, true_and, List.append_assoc, List.nil_append] at h
  obtain ⟨e1, e2⟩ := flatT_split _ _ q q' h
  exact ⟨ba_ext e1, e2⟩
end Go.Proofs.YtkcdckcckpgliaaDoor
