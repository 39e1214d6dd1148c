/- Heads and ends of what is printed; numbers among themselves. -/
import Derived.Test.YtkcdckcckpgliaaDoorInj2
import Derived.Test.YtkcdckcckpgliaaDoorEqO
import Derived.Test.YtkcdckcckpgliaaDoorPrint
namespace Go.Proofs.YtkcdckcckpgliaaDoor

/-- What may stand behind an object: nothing, a bracket, a space that is not the one of a reference. -/
def Stop (q : List UInt8) : Prop := q = [] ∨ (∃ t, q = 93 :: t) ∨ (∃ t, q = 32 :: t ∧ t.take 3 ≠ [48, 32, 82])
/-- So, and its second byte is no R. -/
def Good (q : List UInt8) : Prop := q = [] ∨ (∃ t, q = 93 :: t) ∨ (∃ c t, q = 32 :: c :: t ∧ c ≠ 82)
theorem Stop.nameEnd {q : List UInt8} (h : Stop q) : NameEnd q := by
  rcases h with h | ⟨t, h⟩ | ⟨t, h, _⟩
  · exact .inl h
  · exact .inr ⟨93, t, h, .inr rfl⟩
  · exact .inr ⟨32, t, h, .inl rfl⟩
theorem NameEnd.noNum {q : List UInt8} (h : NameEnd q) : NoHead isNum q := by
  intro c t hc
  rcases h with h | ⟨d, u, h, hd⟩
  · rw [h] at hc; cases hc
  · rw [h] at hc
    simp only [List.cons.injEq] at hc
    rw [← hc.1]
    rcases hd with rfl | rfl <;> decide
theorem Stop.noNum {q : List UInt8} (h : Stop q) : NoHead isNum q := h.nameEnd.noNum
theorem Stop.no_ref {t : List UInt8} (h : Stop (32 :: 48 :: 32 :: 82 :: t)) : False := by
  rcases h with h | ⟨u, h⟩ | ⟨u, h, h2⟩
  · cases h
  · simp at h
  · simp only [List.cons.injEq, true_and] at h
    rw [← h] at h2
    exact h2 rfl
theorem stop47 (t : List UInt8) : Stop (32 :: 47 :: t) := .inr (.inr ⟨_, rfl, by simp⟩)
theorem stop62 (t : List UInt8) : Stop (32 :: 62 :: t) := .inr (.inr ⟨_, rfl, by simp⟩)

/-- The first byte tells the kind, but for numbers, and dictionaries and streams. -/
def HeadOK (k : Int) (c : UInt8) : Prop := (k = 0 ∧ c = 110) ∨ (k = 1 ∧ (c = 116 ∨ c = 102)) ∨ ((k = 2 ∨ k = 3 ∨ k = 8) ∧ isNum c = true) ∨ (k = 4 ∧ c = 47) ∨ (k = 5 ∧ c = 40) ∨ (k = 6 ∧ c = 91) ∨ ((k = 7 ∨ k = 9) ∧ c = 60)
theorem itoa_ne (n : Int) : Lib.itoa n ≠ [] := by
  unfold Lib.itoa
  split
  · simp
  · exact dec_ne _
theorem real_ne (n : Int) : realL n ≠ [] := by
  have := real_46 n
  intro h
  rw [h] at this
  simp at this
theorem arr_cons (xs : List (List UInt8)) : ∃ t, arrB xs = 91 :: t := by
  cases xs with
  | nil => exact ⟨[93], rfl⟩
  | cons x r => exact ⟨_, by simp only [arrB, arrItems, if_true, List.cons_append]; rfl⟩
theorem head_of (deep : Bool) (f : PO → Bool) (o : PO) (h : sndK deep f o = true) : ∃ c t, wrL o = c :: t ∧ HeadOK o.k c := by
  obtain ⟨k, n, t, ks, l, d⟩ := o
  have hnum : ∀ (k : Int) (L : List UInt8) (R : List UInt8), (k = 2 ∨ k = 3 ∨ k = 8) → L ≠ [] → (∀ c, c ∈ L → isNum c = true) → ∃ c t, L ++ R = c :: t ∧ HeadOK k c := fun k L R hk hL hc => by
    cases L with
    | nil => exact absurd rfl hL
    | cons c r => exact ⟨c, r ++ R, rfl, .inr (.inr (.inl ⟨hk, hc c (by simp)⟩))⟩
  unfold sndK at h
  simp only at h
  rw [wrL]
  simp only
  split at h
  · rename_i hk; rw [if_pos hk]; exact ⟨_, _, rfl, .inl ⟨eq_of_beq hk, rfl⟩⟩
  rename_i hk0; rw [if_neg hk0]
  split at h
  · rename_i hk; rw [if_pos hk]
    cases (n == 1)
    · exact ⟨_, _, rfl, .inr (.inl ⟨eq_of_beq hk, .inr rfl⟩)⟩
    · exact ⟨_, _, rfl, .inr (.inl ⟨eq_of_beq hk, .inl rfl⟩)⟩
  rename_i hk1; rw [if_neg hk1]
  split at h
  · rename_i hk; rw [if_pos hk]
    have := hnum k (Lib.itoa n) [] (.inl (eq_of_beq hk)) (itoa_ne n) (fun c hc => (itoa_num n c hc).1)
    rwa [List.append_nil] at this
  rename_i hk2; rw [if_neg hk2]
  split at h
  · rename_i hk; rw [if_pos hk]
    have := hnum k (realL n) [] (.inr (.inl (eq_of_beq hk))) (real_ne n) (fun c hc => real_num n c hc)
    rwa [List.append_nil] at this
  rename_i hk3; rw [if_neg hk3]
  split at h
  · rename_i hk; rw [if_pos hk]; exact ⟨_, _, rfl, .inr (.inr (.inr (.inl ⟨eq_of_beq hk, rfl⟩)))⟩
  rename_i hk4; rw [if_neg hk4]
  split at h
  · rename_i hk; rw [if_pos hk]; exact ⟨_, _, rfl, .inr (.inr (.inr (.inr (.inl ⟨eq_of_beq hk, rfl⟩))))⟩
  rename_i hk5; rw [if_neg hk5]
  split at h
  · rename_i hk; rw [if_pos hk]
    exact hnum k (Lib.itoa n) _ (.inr (.inr (eq_of_beq hk))) (itoa_ne n) (fun c hc => (itoa_num n c hc).1)
  rename_i hk8; rw [if_neg hk8]
  split at h
  · rename_i hk; rw [if_pos hk]
    obtain ⟨t, ht⟩ := arr_cons (wrs l)
    exact ⟨_, t, ht, .inr (.inr (.inr (.inr (.inr (.inl ⟨eq_of_beq hk, rfl⟩)))))⟩
  rename_i hk6; rw [if_neg hk6]
  split at h
  · rename_i hk; rw [if_pos hk]
    exact ⟨_, _, rfl, .inr (.inr (.inr (.inr (.inr (.inr ⟨.inl (eq_of_beq hk), rfl⟩)))))⟩
  rename_i hk7; rw [if_neg hk7]
  split at h
  · rename_i hk
    exact ⟨_, _, rfl, .inr (.inr (.inr (.inr (.inr (.inr ⟨.inr (eq_of_beq hk), rfl⟩)))))⟩
  · simp at h
theorem head_nat (d : Nat) (o : PO) (h : sndB d o = true) : ∃ c t, wrL o = c :: t ∧ HeadOK o.k c := by
  cases d with
  | zero => exact head_of _ _ o h
  | succ d => exact head_of _ _ o h
theorem HeadOK.ne82 {k : Int} {c : UInt8} (h : HeadOK k c) : c ≠ 82 ∧ c ≠ 93 ∧ c ≠ 32 := by
  rcases h with ⟨_, rfl⟩ | ⟨_, rfl | rfl⟩ | ⟨_, h⟩ | ⟨_, rfl⟩ | ⟨_, rfl⟩ | ⟨_, rfl⟩ | ⟨_, rfl⟩
  · decide
  · decide
  · decide
  · refine ⟨?_, ?_, ?_⟩ <;> (intro e; rw [e] at h; revert h; decide)
  · decide
  · decide
  · decide
  · decide
end Go.Proofs.YtkcdckcckpgliaaDoor
