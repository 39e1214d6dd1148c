/- Sound objects print alike exactly if they are equal: numbers; the tails of rows. -/
import Derived.Test.YtkcdckcckpgliaaDoorInj4
namespace Go.Proofs.YtkcdckcckpgliaaDoor

def InjO (o : PO) : Prop := ∀ (b : PO) (d : Nat) (q q' : List UInt8), sndB d b = true → Stop q → Stop q' → wrL o ++ q = wrL b ++ q' → eqO o b = true ∧ q = q'
def clsB (c : UInt8) : Nat := if c = 110 then 0 else if c = 116 ∨ c = 102 then 1 else if c = 47 then 4 else if c = 40 then 5 else if c = 91 then 6 else if c = 60 then 7 else 2
def clsK (k : Int) : Nat := if k = 0 then 0 else if k = 1 then 1 else if k = 4 then 4 else if k = 5 then 5 else if k = 6 then 6 else if k = 7 ∨ k = 9 then 7 else 2
theorem HeadOK.cls {k : Int} {c : UInt8} (h : HeadOK k c) : clsB c = clsK k := by
  rcases h with ⟨rfl, rfl⟩ | ⟨rfl, rfl | rfl⟩ | ⟨hk, h⟩ | ⟨rfl, rfl⟩ | ⟨rfl, rfl⟩ | ⟨rfl, rfl⟩ | ⟨rfl | rfl, rfl⟩
  · decide
  · decide
  · decide
  · have e : clsK k = 2 := by rcases hk with rfl | rfl | rfl <;> decide
    rw [e]
    have hn : ∀ x : UInt8, isNum x = false → c ≠ x := fun x hx e => by rw [e, hx] at h; cases h
    unfold clsB
    rw [if_neg (hn 110 (by decide)), if_neg (by rintro (e | e); exact hn 116 (by decide) e; exact hn 102 (by decide) e), if_neg (hn 47 (by decide)), if_neg (hn 40 (by decide)), if_neg (hn 91 (by decide)), if_neg (hn 60 (by decide))]
  · decide
  · decide
  · decide
  · decide
  · decide
theorem same_cls {a b : PO} {d d' : Nat} {q q' : List UInt8} (ha : sndB d a = true) (hb : sndB d' b = true) (h : wrL a ++ q = wrL b ++ q') : clsK a.k = clsK b.k := by
  obtain ⟨c, t, h1, h2⟩ := head_nat d a ha
  obtain ⟨c', t', h3, h4⟩ := head_nat d' b hb
  rw [h1, h3] at h
  simp only [List.cons_append, List.cons.injEq] at h
  rw [← h2.cls, ← h4.cls, h.1]

theorem wr_2' {o : PO} (h : o.k = 2) : wrL o = Lib.itoa o.n := by obtain ⟨k, n, t, ks, l, d⟩ := o; obtain rfl : k = 2 := h; rw [wrL]; rfl
theorem wr_3' {o : PO} (h : o.k = 3) : wrL o = realL o.n := by obtain ⟨k, n, t, ks, l, d⟩ := o; obtain rfl : k = 3 := h; rw [wrL]; rfl
theorem wr_8' {o : PO} (h : o.k = 8) : wrL o = Lib.itoa o.n ++ [32, 48, 32, 82] := by obtain ⟨k, n, t, ks, l, d⟩ := o; obtain rfl : k = 8 := h; rw [wrL]; rfl
theorem wr_0' {o : PO} (h : o.k = 0) : wrL o = nullL := by obtain ⟨k, n, t, ks, l, d⟩ := o; obtain rfl : k = 0 := h; rw [wrL]; rfl
theorem wr_1' {o : PO} (h : o.k = 1) : wrL o = boolL (o.n == 1) := by obtain ⟨k, n, t, ks, l, d⟩ := o; obtain rfl : k = 1 := h; rw [wrL]; rfl
theorem wr_4' {o : PO} (h : o.k = 4) : wrL o = nameL o.t.data.toList := by obtain ⟨k, n, t, ks, l, d⟩ := o; obtain rfl : k = 4 := h; rw [wrL]; rfl
theorem wr_5' {o : PO} (h : o.k = 5) : wrL o = textL o.t.data.toList := by obtain ⟨k, n, t, ks, l, d⟩ := o; obtain rfl : k = 5 := h; rw [wrL]; rfl
theorem wr_6' {o : PO} (h : o.k = 6) : wrL o = arrB (wrs o.l) := by obtain ⟨k, n, t, ks, l, d⟩ := o; obtain rfl : k = 6 := h; rw [wrL]; rfl
theorem wr_7' {o : PO} (h : o.k = 7) : wrL o = pairsB o.ks (wrs o.l) [] := by obtain ⟨k, n, t, ks, l, d⟩ := o; obtain rfl : k = 7 := h; rw [wrL]; rfl
theorem wr_9' {o : PO} (h : o.k = 9) : wrL o = streamB o.ks (wrs o.l) o.d := by obtain ⟨k, n, t, ks, l, d⟩ := o; obtain rfl : k = 9 := h; rw [wrL]; rfl

/-- A number that is sound: its kind, its bytes' token, what stands behind the token. -/
theorem num_form {deep : Bool} {f : PO → Bool} {o : PO} {q : List UInt8} (hk : KindOK deep f o) (hc : clsK o.k = 2) (hq : Stop q) :
    bareB o true false false false false = true ∧ ∃ L R, wrL o ++ q = L ++ R ∧ (∀ c, c ∈ L → isNum c = true) ∧ NoHead isNum R ∧
      ((o.k = 2 ∧ L = Lib.itoa o.n ∧ R = q) ∨ (o.k = 3 ∧ fitsB o.n = true ∧ L = realL o.n ∧ R = q) ∨ (o.k = 8 ∧ L = Lib.itoa o.n ∧ R = 32 :: 48 :: 32 :: 82 :: q)) := by
  have h32 : NoHead isNum (32 :: 48 :: 32 :: 82 :: q) := fun c t h => by
    simp only [List.cons.injEq] at h
    rw [← h.1]; decide
  rcases hk with ⟨h, _⟩ | ⟨h, _⟩ | ⟨h, hb, _⟩ | ⟨h, hb, hf⟩ | ⟨h, _⟩ | ⟨h, _⟩ | ⟨h, hb, _⟩ | ⟨h, _⟩ | ⟨h, _⟩ | ⟨h, _⟩
  · rw [h] at hc; exact absurd hc (by decide)
  · rw [h] at hc; exact absurd hc (by decide)
  · exact ⟨hb, _, q, by rw [wr_2' h], fun c hc => (itoa_num _ c hc).1, hq.noNum, .inl ⟨h, rfl, rfl⟩⟩
  · exact ⟨hb, _, q, by rw [wr_3' h], fun c hc => real_num _ c hc, hq.noNum, .inr (.inl ⟨h, hf, rfl, rfl⟩)⟩
  · rw [h] at hc; exact absurd hc (by decide)
  · rw [h] at hc; exact absurd hc (by decide)
  · exact ⟨hb, _, 32 :: 48 :: 32 :: 82 :: q, by rw [wr_8' h, List.append_assoc]; rfl, fun c hc => (itoa_num _ c hc).1, h32, .inr (.inr ⟨h, rfl, rfl⟩)⟩
  · rw [h] at hc; exact absurd hc (by decide)
  · rw [h] at hc; exact absurd hc (by decide)
  · rw [h] at hc; exact absurd hc (by decide)
theorem num_inj {deep deep' : Bool} {f f' : PO → Bool} {a b : PO} {q q' : List UInt8} (ha : KindOK deep f a) (hb : KindOK deep' f' b) (hca : clsK a.k = 2) (hcb : clsK b.k = 2) (hq : Stop q) (hq' : Stop q') (h : wrL a ++ q = wrL b ++ q') : eqO a b = true ∧ q = q' := by
  obtain ⟨b1, L, R, e1, e2, e3, e4⟩ := num_form ha hca hq
  obtain ⟨b2, L', R', e1', e2', e3', e4'⟩ := num_form hb hcb hq'
  rw [e1, e1'] at h
  obtain ⟨hL, hR⟩ := split_tok e2 e2' e3 e3' h
  have fa := bare_facts b1
  have fb := bare_facts b2
  have fin : a.k = b.k → a.n = b.n → q = q' → eqO a b = true ∧ q = q' := fun h1 h2 h3 =>
    ⟨eqO_of h1 h2 (by rw [fa.2.1 rfl, fb.2.1 rfl]) (by rw [fa.2.2.1 rfl, fb.2.2.1 rfl]) (by rw [fa.2.2.2.2 rfl, fb.2.2.2.2 rfl]) (by rw [fa.2.2.2.1 rfl, fb.2.2.2.1 rfl, eqOs]), h3⟩
  have mix : ∀ m n : Int, Lib.itoa m ≠ realL n := fun m n e => (itoa_num m 46 (by rw [e]; exact real_46 n)).2 rfl
  rcases e4 with ⟨k1, l1, r1⟩ | ⟨k1, f1, l1, r1⟩ | ⟨k1, l1, r1⟩ <;> rcases e4' with ⟨k2, l2, r2⟩ | ⟨k2, f2, l2, r2⟩ | ⟨k2, l2, r2⟩ <;> rw [l1, l2] at hL <;> rw [r1, r2] at hR
  · exact fin (k1.trans k2.symm) (itoa_inj _ _ hL) hR
  · exact absurd hL (mix _ _)
  · exact absurd (hR ▸ hq) (fun h => h.no_ref)
  · exact absurd hL.symm (mix _ _)
  · exact fin (k1.trans k2.symm) (real_inj _ _ f1 f2 hL) hR
  · exact absurd hL.symm (mix _ _)
  · exact absurd (hR ▸ hq') (fun h => h.no_ref)
  · exact absurd hL (mix _ _)
  · exact fin (k1.trans k2.symm) (itoa_inj _ _ hL) (by simpa using hR)
/-- What is printed ahead of a good rest is not what stands behind a reference's number. -/
theorem head3 {d : Nat} {x : PO} {t : List UInt8} (hx : sndB d x = true) (ht : Good t) : (wrL x ++ t).take 3 ≠ [48, 32, 82] := by
  intro h
  obtain ⟨u, hu⟩ : ∃ u, wrL x ++ t = 48 :: 32 :: 82 :: u := by
    refine ⟨(wrL x ++ t).drop 3, ?_⟩
    have h1 := List.take_append_drop 3 (wrL x ++ t)
    rw [h] at h1
    exact h1.symm
  obtain ⟨c, r, h1, h2⟩ := head_nat d x hx
  have hc : c = 48 := by rw [h1] at hu; simp only [List.cons_append, List.cons.injEq] at hu; exact hu.1
  have hcl : clsK x.k = 2 := by rw [← h2.cls, hc]; decide
  have hnt : NoHead isNum t := by
    intro c v hv
    rcases ht with ht | ⟨w, ht⟩ | ⟨e, w, ht, _⟩
    · rw [ht] at hv; cases hv
    · rw [ht] at hv; simp only [List.cons.injEq] at hv; rw [← hv.1]; decide
    · rw [ht] at hv; simp only [List.cons.injEq] at hv; rw [← hv.1]; decide
  have hn8 : NoHead isNum (32 :: 48 :: 32 :: 82 :: t) := fun c v hv => by simp only [List.cons.injEq] at hv; rw [← hv.1]; decide
  have hnu : NoHead isNum (32 :: 82 :: u) := fun c v hv => by simp only [List.cons.injEq] at hv; rw [← hv.1]; decide
  have h48 : ∀ c, c ∈ [(48 : UInt8)] → isNum c = true := fun c hc => by rw [List.mem_singleton] at hc; rw [hc]; decide
  obtain ⟨deep, f, hk, -⟩ := kind_nat hx
  rcases hk with ⟨h, _⟩ | ⟨h, _⟩ | ⟨h, hb, _⟩ | ⟨h, hb, hf⟩ | ⟨h, _⟩ | ⟨h, _⟩ | ⟨h, hb, _⟩ | ⟨h, _⟩ | ⟨h, _⟩ | ⟨h, _⟩
  · rw [h] at hcl; exact absurd hcl (by decide)
  · rw [h] at hcl; exact absurd hcl (by decide)
  · rw [wr_2' h] at hu
    obtain ⟨-, e⟩ := split_tok (l' := [48]) (fun c hc => (itoa_num _ c hc).1) h48 hnt hnu hu
    rcases ht with ht | ⟨w, ht⟩ | ⟨e2, w, ht, h82⟩
    · rw [ht] at e; cases e
    · rw [ht] at e; simp at e
    · rw [ht] at e
      simp only [List.cons.injEq, true_and] at e
      exact h82 e.1
  · rw [wr_3' h] at hu
    obtain ⟨e, -⟩ := split_tok (l' := [48]) (fun c hc => real_num _ c hc) h48 hnt hnu hu
    have := real_46 x.n
    rw [e] at this
    revert this; decide
  · rw [h] at hcl; exact absurd hcl (by decide)
  · rw [h] at hcl; exact absurd hcl (by decide)
  · rw [wr_8' h, List.append_assoc] at hu
    obtain ⟨-, e⟩ := split_tok (l' := [48]) (q := 32 :: 48 :: 32 :: 82 :: t) (fun c hc => (itoa_num _ c hc).1) h48 hn8 hnu hu
    simp at e
  · rw [h] at hcl; exact absurd hcl (by decide)
  · rw [h] at hcl; exact absurd hcl (by decide)
  · rw [h] at hcl; exact absurd hcl (by decide)

/-- What stands behind an element of an array. -/
def tailA (l : List PO) (q : List UInt8) : List UInt8 := arrItems false (wrs l) ++ 93 :: q
theorem tailA_nil (q : List UInt8) : tailA [] q = 93 :: q := rfl
theorem tailA_cons (x : PO) (r : List PO) (q : List UInt8) : tailA (x :: r) q = 32 :: (wrL x ++ tailA r q) := by
  simp only [tailA, wrs, arrItems, if_false, Bool.false_eq_true, List.cons_append, List.append_assoc]
def AllSnd (l : List PO) : Prop := ∃ d, ∀ x, x ∈ l → sndB d x = true
theorem AllSnd.tail {x : PO} {r : List PO} (h : AllSnd (x :: r)) : AllSnd r := by
  obtain ⟨d, hd⟩ := h
  exact ⟨d, fun y hy => hd y (by simp [hy])⟩
theorem tailA_good {l : List PO} (hl : AllSnd l) (q : List UInt8) : Good (tailA l q) := by
  cases l with
  | nil => exact .inr (.inl ⟨q, rfl⟩)
  | cons x r =>
    obtain ⟨d, hd⟩ := hl
    obtain ⟨c, t, h1, h2⟩ := head_nat d x (hd x (by simp))
    rw [tailA_cons, h1]
    exact .inr (.inr ⟨c, t ++ tailA r q, rfl, h2.ne82.1⟩)
theorem tailA_stop {l : List PO} (hl : AllSnd l) (q : List UInt8) : Stop (tailA l q) := by
  cases l with
  | nil => exact .inr (.inl ⟨q, rfl⟩)
  | cons x r =>
    rw [tailA_cons]
    obtain ⟨d, hd⟩ := hl
    exact .inr (.inr ⟨_, rfl, head3 (hd x (by simp)) (tailA_good ⟨d, fun y hy => hd y (by simp [hy])⟩ q)⟩)
theorem tailA_inj : ∀ (l l' : List PO) (q q' : List UInt8), AllSnd l → AllSnd l' → (∀ x, x ∈ l → InjO x) → tailA l q = tailA l' q' → eqOs l l' = true ∧ q = q'
  | [], [], q, q', _, _, _, h => ⟨by rw [eqOs], by simpa [tailA_nil] using h⟩
  | [], y :: l', q, q', _, _, _, h => by rw [tailA_nil, tailA_cons] at h; simp at h
  | x :: l, [], q, q', _, _, _, h => by rw [tailA_nil, tailA_cons] at h; simp at h
  | x :: l, y :: l', q, q', h1, h2, hi, h => by
    rw [tailA_cons, tailA_cons] at h
    simp only [List.cons.injEq, true_and] at h
    obtain ⟨d', hd'⟩ := h2
    obtain ⟨e1, e2⟩ := hi x (by simp) y d' _ _ (hd' y (by simp)) (tailA_stop h1.tail q) (tailA_stop ⟨d', fun z hz => hd' z (by simp [hz])⟩ q') h
    obtain ⟨e3, e4⟩ := tailA_inj l l' q q' h1.tail ⟨d', fun z hz => hd' z (by simp [hz])⟩ (fun z hz => hi z (by simp [hz])) e2
    exact ⟨by rw [eqOs, e1, e3]; rfl, e4⟩
theorem arr_inj (l l' : List PO) (q q' : List UInt8) (h1 : AllSnd l) (h2 : AllSnd l') (hi : ∀ x, x ∈ l → InjO x) (h : arrB (wrs l) ++ q = arrB (wrs l') ++ q') : eqOs l l' = true ∧ q = q' := by
  have form : ∀ (l : List PO) (q : List UInt8), arrB (wrs l) ++ q = match l with | [] => 91 :: 93 :: q | x :: r => 91 :: (wrL x ++ tailA r q) := fun l q => by
    cases l with
    | nil => rfl
    | cons x r => simp only [arrB, wrs, arrItems, if_true, List.isEmpty_cons, Bool.false_eq_true, if_false, List.append_nil, List.cons_append, List.append_assoc, List.nil_append, tailA]
  rw [form l q, form l' q'] at h
  have ne : ∀ (y : PO) (r : List PO) (q q' : List UInt8), AllSnd (y :: r) → (91 :: 93 :: q : List UInt8) ≠ 91 :: (wrL y ++ tailA r q') := fun y r q q' ⟨d, hd⟩ h => by
    obtain ⟨c, t, h3, h4⟩ := head_nat d y (hd y (by simp))
    rw [h3] at h
    simp only [List.cons_append, List.cons.injEq, true_and] at h
    exact h4.ne82.2.1 h.1.symm
  cases l with
  | nil => cases l' with
    | nil => exact ⟨by rw [eqOs], by simpa using h⟩
    | cons y r => exact absurd h (ne y r q q' h2)
  | cons x l => cases l' with
    | nil => exact absurd h.symm (ne x l q' q h1)
    | cons y l' =>
      simp only [List.cons.injEq, true_and] at h
      obtain ⟨d', hd'⟩ := h2
      obtain ⟨e1, e2⟩ := hi x (by simp) y d' _ _ (hd' y (by simp)) (tailA_stop h1.tail q) (tailA_stop ⟨d', fun z hz => hd' z (by simp [hz])⟩ q') h
      obtain ⟨e3, e4⟩ := tailA_inj l l' q q' h1.tail ⟨d', fun z hz => hd' z (by simp [hz])⟩ (fun z hz => hi z (by simp [hz])) e2
      exact ⟨by rw [eqOs, e1, e3]; rfl, e4⟩
end Go.Proofs.YtkcdckcckpgliaaDoor
