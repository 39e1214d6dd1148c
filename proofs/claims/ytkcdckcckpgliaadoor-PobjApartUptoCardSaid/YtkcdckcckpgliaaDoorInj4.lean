/- Sound objects print alike exactly if they are equal: the kinds without rows. -/
import Derived.Test.YtkcdckcckpgliaaDoorInj3
import Derived.Test.YtkcdckcckpgliaaDoorEqO2
namespace Go.Proofs.YtkcdckcckpgliaaDoor

theorem eqS_refl : ∀ l, eqS l l = true
  | [] => rfl
  | x :: r => by rw [eqS, eqS_refl r]; simp
theorem eqL_refl : ∀ l, eqL l l = true
  | [] => rfl
  | x :: r => by rw [eqL, eqL_refl r]; simp
theorem eqOs_len : ∀ l l', eqOs l l' = true → l.length = l'.length
  | [], [], _ => rfl
  | [], _ :: _, h => by simp [eqOs] at h
  | _ :: _, [], h => by simp [eqOs] at h
  | x :: l, y :: l', h => by
    rw [eqOs, Bool.and_eq_true] at h
    simp [eqOs_len l l' h.2]
theorem eqO_of {a b : PO} (hk : a.k = b.k) (hn : a.n = b.n) (ht : a.t.toList = b.t.toList) (hks : a.ks = b.ks) (hd : a.d = b.d) (hl : eqOs a.l b.l = true) : eqO a b = true := by
  rw [eqO_parts, hk, hn, ht, hks, hd, hl, eqS_refl, eqL_refl, eqOs_len _ _ hl]
  simp
theorem bare_facts {o : PO} {n t k l d : Bool} (h : bareB o n t k l d = true) : (n = false → o.n = 0) ∧ (t = false → o.t.toList = []) ∧ (k = false → o.ks = []) ∧ (l = false → o.l = []) ∧ (d = false → o.d = []) := by
  simp only [bareB, Bool.and_eq_true, Bool.or_eq_true] at h
  obtain ⟨⟨⟨⟨h1, h2⟩, h3⟩, h4⟩, h5⟩ := h
  refine ⟨fun e => ?_, fun e => ?_, fun e => ?_, fun e => ?_, fun e => ?_⟩
  · rw [e] at h1; simpa using h1
  · rw [e] at h2; simpa using h2
  · rw [e] at h3; simpa using h3
  · rw [e] at h4; simpa using h4
  · rw [e] at h5; simpa using h5
/-- What an object of each kind must be. -/
def KindOK (deep : Bool) (f : PO → Bool) (o : PO) : Prop :=
  (o.k = 0 ∧ bareB o false false false false false = true) ∨
  (o.k = 1 ∧ bareB o true false false false false = true ∧ (o.n = 0 ∨ o.n = 1)) ∨
  (o.k = 2 ∧ bareB o true false false false false = true ∧ fitsB o.n = true) ∨
  (o.k = 3 ∧ bareB o true false false false false = true ∧ fitsB o.n = true) ∨
  (o.k = 4 ∧ bareB o false true false false false = true) ∨
  (o.k = 5 ∧ bareB o false true false false false = true) ∨
  (o.k = 8 ∧ bareB o true false false false false = true ∧ 1 ≤ o.n) ∨
  (o.k = 6 ∧ deep = true ∧ bareB o false false false true false = true ∧ ∀ x, x ∈ o.l → f x = true) ∨
  (o.k = 7 ∧ deep = true ∧ bareB o false false true true false = true ∧ o.ks.length = o.l.length ∧ ∀ x, x ∈ o.l → f x = true) ∨
  (o.k = 9 ∧ deep = true ∧ bareB o false false true true true = true ∧ o.ks.length = o.l.length ∧ (∀ s, s ∈ o.ks → s ≠ lengthName) ∧ o.d.length ≤ 1048576 ∧ ∀ x, x ∈ o.l → f x = true)
theorem allB_mem {f : PO → Bool} {l : List PO} (h : allB f l = true) : ∀ x, x ∈ l → f x = true := by
  simp only [allB, Bool.and_eq_true, List.all_eq_true] at h
  exact fun x hx => (h.2 x hx).1
theorem kind_of {deep : Bool} {f : PO → Bool} {o : PO} (h : sndK deep f o = true) : KindOK deep f o := by
  unfold sndK at h
  unfold KindOK
  split at h
  · rename_i hk; exact .inl ⟨eq_of_beq hk, h⟩
  split at h
  · rename_i hk
    simp only [Bool.and_eq_true, Bool.or_eq_true, beq_iff_eq] at h
    exact .inr (.inl ⟨eq_of_beq hk, h.1, h.2⟩)
  split at h
  · rename_i hk
    simp only [Bool.and_eq_true] at h
    exact .inr (.inr (.inl ⟨eq_of_beq hk, h.1, h.2⟩))
  split at h
  · rename_i hk
    simp only [Bool.and_eq_true] at h
    exact .inr (.inr (.inr (.inl ⟨eq_of_beq hk, h.1, h.2⟩)))
  split at h
  · rename_i hk
    simp only [Bool.and_eq_true] at h
    exact .inr (.inr (.inr (.inr (.inl ⟨eq_of_beq hk, h.1⟩))))
  split at h
  · rename_i hk
    simp only [Bool.and_eq_true] at h
    exact .inr (.inr (.inr (.inr (.inr (.inl ⟨eq_of_beq hk, h.1⟩)))))
  split at h
  · rename_i hk
    simp only [Bool.and_eq_true, decide_eq_true_eq] at h
    exact .inr (.inr (.inr (.inr (.inr (.inr (.inl ⟨eq_of_beq hk, h.1.1, h.1.2⟩))))))
  split at h
  · rename_i hk
    simp only [Bool.and_eq_true] at h
    exact .inr (.inr (.inr (.inr (.inr (.inr (.inr (.inl ⟨eq_of_beq hk, h.1.1, h.1.2, allB_mem h.2⟩)))))))
  split at h
  · rename_i hk
    simp only [Bool.and_eq_true] at h
    exact .inr (.inr (.inr (.inr (.inr (.inr (.inr (.inr (.inl ⟨eq_of_beq hk, h.1.1.1.1, h.1.1.1.2, by have := eq_of_beq h.1.1.2; omega, allB_mem h.2⟩))))))))
  split at h
  · rename_i hk
    simp only [Bool.and_eq_true, decide_eq_true_eq, Bool.not_eq_true'] at h
    refine .inr (.inr (.inr (.inr (.inr (.inr (.inr (.inr (.inr ⟨eq_of_beq hk, h.1.1.1.1.1.1, h.1.1.1.1.1.2, by have := eq_of_beq h.1.1.1.1.2; omega, fun s hs e => ?_, h.1.2, allB_mem h.2⟩))))))))
    have h2 := h.1.1.2
    rw [(Lib.containsS_iff _ _).2 (e ▸ hs)] at h2
    cases h2
  · simp at h
theorem kind_nat {d : Nat} {o : PO} (h : sndB d o = true) : ∃ deep f, KindOK deep f o ∧ (deep = true → ∃ d0, ∀ x, f x = sndB d0 x) := by
  cases d with
  | zero => exact ⟨false, fun _ => false, kind_of h, fun h => by cases h⟩
  | succ d => exact ⟨true, sndB d, kind_of h, fun _ => ⟨d, fun _ => rfl⟩⟩
end Go.Proofs.YtkcdckcckpgliaaDoor
