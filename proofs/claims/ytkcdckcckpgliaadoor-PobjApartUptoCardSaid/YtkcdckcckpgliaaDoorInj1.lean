/- Bytes that can be read back: digits, numbers, names, strings. No word on the program. -/
import Derived.Test.YtkcdckcckpgliaaDoorWrW
namespace Go.Proofs.YtkcdckcckpgliaaDoor

def NoHead (p : UInt8 → Bool) (q : List UInt8) : Prop := ∀ c t, q = c :: t → p c = false
theorem split_tok {p : UInt8 → Bool} : ∀ {l l' q q' : List UInt8}, (∀ c, c ∈ l → p c = true) → (∀ c, c ∈ l' → p c = true) → NoHead p q → NoHead p q' → l ++ q = l' ++ q' → l = l' ∧ q = q'
  | [], [], _, _, _, _, _, _, h => ⟨rfl, h⟩
  | [], c :: l', q, q', _, h2, h3, _, h => by
    have h5 := h3 c (l' ++ q') h
    rw [h2 c (by simp)] at h5
    cases h5
  | c :: l, [], q, q', h1, _, _, h4, h => by
    have h5 := h4 c (l ++ q) h.symm
    rw [h1 c (by simp)] at h5
    cases h5
  | c :: l, d :: l', q, q', h1, h2, h3, h4, h => by
    simp only [List.cons_append, List.cons.injEq] at h
    obtain ⟨rfl, h⟩ := h
    obtain ⟨e1, e2⟩ := split_tok (fun x hx => h1 x (by simp [hx])) (fun x hx => h2 x (by simp [hx])) h3 h4 h
    exact ⟨by rw [e1], e2⟩

def isDig (c : UInt8) : Bool := decide (48 ≤ c.toNat) && decide (c.toNat ≤ 57)
theorem dig_of (n : Nat) (h : n < 10) : isDig (UInt8.ofNat (48 + n)) = true ∧ (UInt8.ofNat (48 + n)).toNat = 48 + n := by
  have h1 : (UInt8.ofNat (48 + n)).toNat = 48 + n := by rw [UInt8.toNat_ofNat', Nat.mod_eq_of_lt (by omega)]
  exact ⟨by simp [isDig, h1]; omega, h1⟩
theorem dig_inj {m n : Nat} (hm : m < 10) (hn : n < 10) (h : UInt8.ofNat (48 + m) = UInt8.ofNat (48 + n)) : m = n := by
  have h1 := (dig_of m hm).2
  rw [h, (dig_of n hn).2] at h1
  omega
theorem dec_ten {u : Nat} (h : ¬ u < 10) : Lib.decDigits u = Lib.decDigits (u / 10) ++ [UInt8.ofNat (48 + u % 10)] := by
  rw [Lib.decDigits, dif_neg h]
theorem dec_dig : ∀ (u : Nat) (c : UInt8), c ∈ Lib.decDigits u → isDig c = true := by
  intro u
  induction u using Nat.strongRecOn with
  | ind u ih =>
    intro c hc
    by_cases h : u < 10
    · rw [Lib.decDigits_one h, List.mem_singleton] at hc
      rw [hc]; exact (dig_of u h).1
    · rw [dec_ten h, List.mem_append, List.mem_singleton] at hc
      rcases hc with hc | rfl
      · exact ih (u / 10) (by omega) c hc
      · exact (dig_of _ (by omega)).1
theorem dec_ne (u : Nat) : Lib.decDigits u ≠ [] := by
  by_cases h : u < 10
  · rw [Lib.decDigits_one h]; simp
  · rw [dec_ten h]; simp
theorem dec_inj : ∀ (u v : Nat), Lib.decDigits u = Lib.decDigits v → u = v := by
  intro u
  induction u using Nat.strongRecOn with
  | ind u ih =>
    intro v h
    by_cases h1 : u < 10 <;> by_cases h2 : v < 10
    · rw [Lib.decDigits_one h1, Lib.decDigits_one h2] at h
      exact dig_inj h1 h2 (by simpa using h)
    · rw [Lib.decDigits_one h1, dec_ten h2] at h
      have h3 := congrArg List.length h
      have h4 := List.length_pos_iff.2 (dec_ne (v / 10))
      simp at h3
      exact absurd h3 (dec_ne _)
    · rw [dec_ten h1, Lib.decDigits_one h2] at h
      have h3 := congrArg List.length h
      simp at h3
      exact absurd h3 (dec_ne _)
    · rw [dec_ten h1, dec_ten h2] at h
      obtain ⟨e1, e2⟩ := List.append_inj' h rfl
      have e3 := ih (u / 10) (by omega) _ e1
      have e4 := dig_inj (Nat.mod_lt u (by decide)) (Nat.mod_lt v (by decide)) (by simpa using e2)
      omega
theorem dig_45 : isDig 45 = false := by decide
theorem dig_46 : isDig 46 = false := by decide
theorem itoa_inj (m n : Int) (h : Lib.itoa m = Lib.itoa n) : m = n := by
  unfold Lib.itoa at h
  split at h <;> split at h
  · simp only [List.cons.injEq, true_and] at h
    have := dec_inj _ _ h
    omega
  · have := dec_dig n.toNat 45 (by rw [← h]; simp)
    rw [dig_45] at this; cases this
  · have := dec_dig m.toNat 45 (by rw [h]; simp)
    rw [dig_45] at this; cases this
  · have := dec_inj _ _ h
    omega
def isNum (c : UInt8) : Bool := isDig c || (c == 45) || (c == 46)
theorem itoa_num (n : Int) (c : UInt8) (h : c ∈ Lib.itoa n) : isNum c = true ∧ c ≠ 46 := by
  have hd : ∀ u, c ∈ Lib.decDigits u → isNum c = true ∧ c ≠ 46 := fun u hu => by
    have := dec_dig u c hu
    exact ⟨by simp [isNum, this], fun e => by rw [e, dig_46] at this; cases this⟩
  unfold Lib.itoa at h
  split at h
  · rcases List.mem_cons.1 h with rfl | h
    · decide
    · exact hd _ h
  · exact hd _ h
theorem frac_dig : ∀ (m f : Nat), f < 65536 → ∀ c, c ∈ fracL m f → isDig c = true
  | 0, f, _, c, h => by simp [fracL] at h
  | m + 1, f, hf, c, h => by
    rw [fracL] at h
    split at h
    · simp at h
    · rcases List.mem_cons.1 h with rfl | h
      · exact (dig_of _ (by omega)).1
      · exact frac_dig m _ (by omega) c h
theorem frac_inj : ∀ (m f g : Nat), f < 65536 → g < 65536 → f * 2 ^ m % 65536 = 0 → g * 2 ^ m % 65536 = 0 → fracL m f = fracL m g → f = g
  | 0, f, g, hf, hg, h1, h2, _ => by simp at h1 h2; omega
  | m + 1, f, g, hf, hg, h1, h2, h => by
    rw [fracL, fracL] at h
    split at h <;> split at h
    · omega
    · simp at h
    · simp at h
    · simp only [List.cons.injEq] at h
      have e1 := dig_inj (by omega) (by omega) h.1
      have hh : ∀ x, x * 2 ^ (m + 1) % 65536 = 0 → x * 10 % 65536 * 2 ^ m % 65536 = 0 := fun x hx => by
        rw [Nat.mod_mul_mod]
        rw [Nat.pow_succ] at hx
        generalize 2 ^ m = p at hx ⊢
        have a1 : x * 10 * p = x * p * 10 := Nat.mul_right_comm ..
        have a2 : x * (p * 2) = x * p * 2 := (Nat.mul_assoc ..).symm
        omega
      have e2 := frac_inj m _ _ (Nat.mod_lt _ (by decide)) (Nat.mod_lt _ (by decide)) (hh f h1) (hh g h2) h.2
      omega
/-- A fraction's digits are never the lone digit 0. -/
theorem frac_ne (m f : Nat) (hf : f < 65536) : fracL (m + 2) f ≠ [48] := by
  intro h
  rw [fracL] at h
  split at h
  · simp at h
  · simp only [List.cons.injEq] at h
    have h1 := dig_inj (n := 0) (by omega : f * 10 / 65536 < 10) (by decide) h.1
    have h2 := h.2
    rw [fracL, if_neg (by omega)] at h2
    simp at h2

/-- A real's bytes tell the number. -/
theorem partA_of (n : Int) (h : fitsB n = true) : partA n = n.natAbs := by
  unfold partA
  rw [h]
  simp
theorem real_num (n : Int) (c : UInt8) (h : c ∈ realL n) : isNum c = true := by
  have hd : ∀ c, isDig c = true → isNum c = true := fun c hc => by simp [isNum, hc]
  unfold realL at h
  simp only [List.mem_append] at h
  rcases h with ((h | h) | h) | h
  · unfold partS at h
    split at h
    · rw [List.mem_singleton] at h; rw [h]; decide
    · simp at h
  · exact hd c (dec_dig _ c h)
  · rw [List.mem_singleton] at h; rw [h]; decide
  · split at h
    · rw [List.mem_singleton] at h; rw [h]; decide
    · exact hd c (frac_dig 16 _ (by omega) c h)
theorem real_46 (n : Int) : (46 : UInt8) ∈ realL n := by simp [realL]
theorem real_inj (m n : Int) (hm : fitsB m = true) (hn : fitsB n = true) (h : realL m = realL n) : m = n := by
  have hS : ∀ n : Int, fitsB n = true → partS n = if n < 0 then [45] else [] := fun n hn => by
    unfold partS; rw [hn]; simp
  have hdp : ∀ n, NoHead isDig ([46] ++ (if (partR n).isEmpty then [48] else partR n)) := fun n c t hc => by
    simp only [List.cons_append, List.nil_append, List.cons.injEq] at hc
    rw [← hc.1]; decide
  unfold realL at h
  have key : ∀ (h' : partW m ++ ([46] ++ (if (partR m).isEmpty then [48] else partR m)) = partW n ++ ([46] ++ (if (partR n).isEmpty then [48] else partR n))), m.natAbs = n.natAbs := fun h' => by
    obtain ⟨e1, e2⟩ := split_tok (p := isDig) (fun c hc => dec_dig _ c hc) (fun c hc => dec_dig _ c hc) (hdp m) (hdp n) h'
    have e3 := dec_inj _ _ e1
    simp only [List.cons_append, List.nil_append, List.cons.injEq, true_and] at e2
    have e4 : partR m = partR n := by
      split at e2 <;> split at e2
      · rename_i a b
        rw [List.isEmpty_iff.1 a, List.isEmpty_iff.1 b]
      · exact absurd e2.symm (frac_ne 14 _ (by omega))
      · exact absurd e2 (frac_ne 14 _ (by omega))
      · exact e2
    have e5 := frac_inj 16 _ _ (by omega) (by omega) (by omega) (by omega) e4
    rw [partA_of m hm, partA_of n hn] at e3 e5
    omega
  rw [hS m hm, hS n hn, List.append_assoc, List.append_assoc, List.append_assoc, List.append_assoc] at h
  have hns : ∀ (n : Int) (x : List UInt8), 45 :: x ≠ partW n ++ ([46] ++ (if (partR n).isEmpty then [48] else partR n)) := fun n x h => by
    have h1 := List.length_pos_iff.2 (dec_ne (partA n / 65536))
    unfold partW at h
    cases hw : Lib.decDigits (partA n / 65536) with
    | nil => exact absurd hw (dec_ne _)
    | cons c r =>
      rw [hw] at h
      simp only [List.cons_append, List.cons.injEq] at h
      have := dec_dig (partA n / 65536) c (by rw [hw]; simp)
      rw [← h.1, dig_45] at this
      cases this
  have hns1 := hns m
  have hns2 := hns n
  clear hns hS hdp
  generalize partW m ++ ([46] ++ (if (partR m).isEmpty then [48] else partR m)) = Tm at *
  generalize partW n ++ ([46] ++ (if (partR n).isEmpty then [48] else partR n)) = Tn at *
  by_cases h1 : m < 0 <;> by_cases h2 : n < 0
  · rw [if_pos h1, if_pos h2] at h
    have := key (List.append_cancel_left h)
    omega
  · rw [if_pos h1, if_neg h2] at h
    exact absurd h (hns2 _)
  · rw [if_neg h1, if_pos h2] at h
    exact absurd h.symm (hns1 _)
  · rw [if_neg h1, if_neg h2] at h
    have := key h
    omega
end Go.Proofs.YtkcdckcckpgliaaDoor
