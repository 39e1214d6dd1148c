/- The plain law: sound objects print alike exactly if they are equal. -/
import Derived.Test.YtkcdckcckpgliaaDoorInj6
import Derived.Test.YtkcdckcckpgliaaDoorLen
import Derived.Test.YtkcdckcckpgliaaDoorRSndK
namespace Go.Proofs.YtkcdckcckpgliaaDoor

def IntO (n : Int) : PO := ⟨2, n, ByteArray.empty, [], [], []⟩
theorem intO_snd (n : Nat) (h : n ≤ 1048576) : sndB 0 (IntO n) = true := by
  have : fitsB (n : Int) = true := by simp [fitsB]; omega
  show (bareB (IntO n) true false false false false && fitsB (n : Int)) = true
  have he : ByteArray.empty.toList = [] := by rw [Lib.toList_data]; rfl
  rw [this]
  simp [bareB, IntO, he]
theorem intO_wr (n : Int) : wrL (IntO n) = Lib.itoa n := wr_2' rfl
theorem num_injO {d : Nat} {a : PO} (ha : sndB d a = true) (hc : clsK a.k = 2) : InjO a := fun b d' q q' hb hq hq' h => by
  obtain ⟨deep, f, hk, -⟩ := kind_nat ha
  obtain ⟨deep', f', hk', -⟩ := kind_nat hb
  exact num_inj hk hk' hc (same_cls ha hb h ▸ hc) hq hq' h
theorem bodyS_stop {d q : List UInt8} (h : Stop (bodyS d q)) : False := by
  rcases h with h | ⟨t, h⟩ | ⟨t, h, _⟩ <;> simp [bodyS] at h
/-- A stream's end is no dictionary's. -/
theorem no_within {ks : List ByteArray} {l : List PO} {d q q' : List UInt8} (hl : AllSnd l) (hd : d.length ≤ 1048576) (hq : Stop q') (h : Within ks l (endD q') (endS d q)) : False := by
  obtain ⟨x, ks2, l2, -, hx, hlen, h2⟩ := within_stream h
  obtain ⟨e, he⟩ := hl
  have hI : InjO (IntO d.length) := num_injO (intO_snd d.length hd) (by show clsK 2 = 2; decide)
  rw [← intO_wr] at h2
  obtain ⟨-, h3⟩ := hI x e _ _ (he x hx) (stop62 _) (tailP_end hlen (endD_end q')).stop h2
  cases ks2 with
  | nil => cases l2 with
    | nil =>
      rw [tailP_nil] at h3
      simp only [endD, List.cons.injEq, true_and] at h3
      exact bodyS_stop (h3 ▸ hq)
    | cons y r => simp at hlen
  | cons k r => cases l2 with
    | nil => simp at hlen
    | cons y r2 =>
      rw [tailP_cons] at h3
      simp [endD, nameL] at h3
theorem endD_ne_endS {q d q' : List UInt8} : endD q ≠ endS d q' := by
  intro h
  simp [endD, endS, nameL] at h
theorem endS_inj {d d' q q' : List UInt8} (h : endS d q = endS d' q') : d = d' ∧ q = q' := by
  unfold endS at h
  simp only [List.cons.injEq, true_and] at h
  have h2 := List.append_cancel_left h
  simp only [List.cons.injEq, true_and] at h2
  have hn : ∀ z, NoHead isNum (endD z) := fun z c t hc => by
    simp only [endD, List.cons.injEq] at hc
    rw [← hc.1]; decide
  obtain ⟨e1, e2⟩ := split_tok (fun c hc => (itoa_num _ c hc).1) (fun c hc => (itoa_num _ c hc).1) (hn _) (hn _) h2
  have e3 := itoa_inj _ _ e1
  simp only [endD, List.cons.injEq, true_and] at e2
  unfold bodyS at e2
  have e4 := List.append_cancel_left e2
  obtain ⟨e5, e6⟩ := List.append_inj e4 (by omega)
  exact ⟨e5, List.append_cancel_left e6⟩

theorem inj_of {deep : Bool} {f : PO → Bool} {d : Nat} {a : PO} (hs : sndB d a = true) (hk : KindOK deep f a) (hel : deep = true → ∀ x, f x = true → InjO x) (hsn : deep = true → ∃ d0, ∀ x, f x = true → sndB d0 x = true) : InjO a := by
  intro b d' q q' hb hq hq' h
  have hc := same_cls hs hb h
  obtain ⟨deep', f', hk', hf'⟩ := kind_nat hb
  have hall' : deep' = true → (∀ x, x ∈ b.l → f' x = true) → AllSnd b.l := fun h1 h2 => by
    obtain ⟨d0, h0⟩ := hf' h1
    exact ⟨d0, fun x hx => by rw [← h0]; exact h2 x hx⟩
  have hall : deep = true → (∀ x, x ∈ a.l → f x = true) → AllSnd a.l := fun h1 h2 => by
    obtain ⟨d0, h0⟩ := hsn h1
    exact ⟨d0, fun x hx => h0 x (h2 x hx)⟩
  rcases hk with ⟨k, hB⟩ | ⟨k, hB, hn⟩ | ⟨k, hB, _⟩ | ⟨k, hB, _⟩ | ⟨k, hB⟩ | ⟨k, hB⟩ | ⟨k, hB, _⟩ | ⟨k, hdp, hB, he⟩ | ⟨k, hdp, hB, hkl, he⟩ | ⟨k, hdp, hB, hkl, hkn, hdl, he⟩
  · rw [k] at hc
    rcases hk' with ⟨k', hB'⟩ | ⟨k', _⟩ | ⟨k', _⟩ | ⟨k', _⟩ | ⟨k', _⟩ | ⟨k', _⟩ | ⟨k', _⟩ | ⟨k', _⟩ | ⟨k', _⟩ | ⟨k', _⟩ <;> try (rw [k'] at hc; exact absurd hc (by decide))
    rw [wr_0' k, wr_0' k'] at h
    have fa := bare_facts hB; have fb := bare_facts hB'
    exact ⟨eqO_of (k.trans k'.symm) (by rw [fa.1 rfl, fb.1 rfl]) (by rw [fa.2.1 rfl, fb.2.1 rfl]) (by rw [fa.2.2.1 rfl, fb.2.2.1 rfl]) (by rw [fa.2.2.2.2 rfl, fb.2.2.2.2 rfl]) (by rw [fa.2.2.2.1 rfl, fb.2.2.2.1 rfl, eqOs]), List.append_cancel_left h⟩
  · rw [k] at hc
    rcases hk' with ⟨k', _⟩ | ⟨k', hB', hn'⟩ | ⟨k', _⟩ | ⟨k', _⟩ | ⟨k', _⟩ | ⟨k', _⟩ | ⟨k', _⟩ | ⟨k', _⟩ | ⟨k', _⟩ | ⟨k', _⟩ <;> try (rw [k'] at hc; exact absurd hc (by decide))
    rw [wr_1' k, wr_1' k'] at h
    have fa := bare_facts hB; have fb := bare_facts hB'
    have hnn : a.n = b.n ∧ q = q' := by
      rcases hn with hn | hn <;> rcases hn' with hn' | hn' <;> rw [hn, hn'] at h
      · exact ⟨by rw [hn, hn'], List.append_cancel_left h⟩
      · simp [boolL] at h
      · simp [boolL] at h
      · exact ⟨by rw [hn, hn'], List.append_cancel_left h⟩
    exact ⟨eqO_of (k.trans k'.symm) hnn.1 (by rw [fa.2.1 rfl, fb.2.1 rfl]) (by rw [fa.2.2.1 rfl, fb.2.2.1 rfl]) (by rw [fa.2.2.2.2 rfl, fb.2.2.2.2 rfl]) (by rw [fa.2.2.2.1 rfl, fb.2.2.2.1 rfl, eqOs]), hnn.2⟩
  · exact num_injO hs (by rw [k]; decide) b d' q q' hb hq hq' h
  · exact num_injO hs (by rw [k]; decide) b d' q q' hb hq hq' h
  · rw [k] at hc
    rcases hk' with ⟨k', _⟩ | ⟨k', _⟩ | ⟨k', _⟩ | ⟨k', _⟩ | ⟨k', hB'⟩ | ⟨k', _⟩ | ⟨k', _⟩ | ⟨k', _⟩ | ⟨k', _⟩ | ⟨k', _⟩ <;> try (rw [k'] at hc; exact absurd hc (by decide))
    rw [wr_4' k, wr_4' k'] at h
    have fa := bare_facts hB; have fb := bare_facts hB'
    obtain ⟨e1, e2⟩ := name_split _ _ _ _ hq.nameEnd hq'.nameEnd h
    exact ⟨eqO_of (k.trans k'.symm) (by rw [fa.1 rfl, fb.1 rfl]) (by rw [e1]) (by rw [fa.2.2.1 rfl, fb.2.2.1 rfl]) (by rw [fa.2.2.2.2 rfl, fb.2.2.2.2 rfl]) (by rw [fa.2.2.2.1 rfl, fb.2.2.2.1 rfl, eqOs]), e2⟩
  · rw [k] at hc
    rcases hk' with ⟨k', _⟩ | ⟨k', _⟩ | ⟨k', _⟩ | ⟨k', _⟩ | ⟨k', _⟩ | ⟨k', hB'⟩ | ⟨k', _⟩ | ⟨k', _⟩ | ⟨k', _⟩ | ⟨k', _⟩ <;> try (rw [k'] at hc; exact absurd hc (by decide))
    rw [wr_5' k, wr_5' k'] at h
    have fa := bare_facts hB; have fb := bare_facts hB'
    obtain ⟨e1, e2⟩ := text_split _ _ _ _ h
    exact ⟨eqO_of (k.trans k'.symm) (by rw [fa.1 rfl, fb.1 rfl]) (by rw [e1]) (by rw [fa.2.2.1 rfl, fb.2.2.1 rfl]) (by rw [fa.2.2.2.2 rfl, fb.2.2.2.2 rfl]) (by rw [fa.2.2.2.1 rfl, fb.2.2.2.1 rfl, eqOs]), e2⟩
  · exact num_injO hs (by rw [k]; decide) b d' q q' hb hq hq' h
  · rw [k] at hc
    rcases hk' with ⟨k', _⟩ | ⟨k', _⟩ | ⟨k', _⟩ | ⟨k', _⟩ | ⟨k', _⟩ | ⟨k', _⟩ | ⟨k', _⟩ | ⟨k', hdp', hB', he'⟩ | ⟨k', _⟩ | ⟨k', _⟩ <;> try (rw [k'] at hc; exact absurd hc (by decide))
    rw [wr_6' k, wr_6' k'] at h
    have fa := bare_facts hB; have fb := bare_facts hB'
    obtain ⟨e1, e2⟩ := arr_inj _ _ _ _ (hall hdp he) (hall' hdp' he') (fun x hx => hel hdp x (he x hx)) h
    exact ⟨eqO_of (k.trans k'.symm) (by rw [fa.1 rfl, fb.1 rfl]) (by rw [fa.2.1 rfl, fb.2.1 rfl]) (by rw [fa.2.2.1 rfl, fb.2.2.1 rfl]) (by rw [fa.2.2.2.2 rfl, fb.2.2.2.2 rfl]) e1, e2⟩
  · rw [k] at hc
    rcases hk' with ⟨k', _⟩ | ⟨k', _⟩ | ⟨k', _⟩ | ⟨k', _⟩ | ⟨k', _⟩ | ⟨k', _⟩ | ⟨k', _⟩ | ⟨k', _⟩ | ⟨k', hdp', hB', hkl', he'⟩ | ⟨k', hdp', hB', hkl', hkn', hdl', he'⟩ <;> try (rw [k'] at hc; exact absurd hc (by decide))
    · rw [dict_form a k, dict_form b k'] at h
      simp only [List.cons.injEq, true_and] at h
      have fa := bare_facts hB; have fb := bare_facts hB'
      rcases tailP_inj _ _ _ _ _ _ hkl hkl' (hall hdp he) (hall' hdp' he') (endD_end q) (endD_end q') (fun x hx => hel hdp x (he x hx)) h with ⟨e1, e2, e3⟩ | e | e
      · exact ⟨eqO_of (k.trans k'.symm) (by rw [fa.1 rfl, fb.1 rfl]) (by rw [fa.2.1 rfl, fb.2.1 rfl]) e1 (by rw [fa.2.2.2.2 rfl, fb.2.2.2.2 rfl]) e2, by simpa [endD] using e3⟩
      · exact (within_dict e).elim
      · exact (within_dict e).elim
    · rw [dict_form a k, stream_form b k'] at h
      simp only [List.cons.injEq, true_and] at h
      rcases tailP_inj _ _ _ _ _ _ hkl hkl' (hall hdp he) (hall' hdp' he') (endD_end q) (endS_end b.d q') (fun x hx => hel hdp x (he x hx)) h with ⟨e1, e2, e3⟩ | e | e
      · exact absurd e3 endD_ne_endS
      · exact (no_within (hall hdp he) hdl' hq e).elim
      · exact (within_dict e).elim
  · rw [k] at hc
    rcases hk' with ⟨k', _⟩ | ⟨k', _⟩ | ⟨k', _⟩ | ⟨k', _⟩ | ⟨k', _⟩ | ⟨k', _⟩ | ⟨k', _⟩ | ⟨k', _⟩ | ⟨k', hdp', hB', hkl', he'⟩ | ⟨k', hdp', hB', hkl', hkn', hdl', he'⟩ <;> try (rw [k'] at hc; exact absurd hc (by decide))
    · rw [stream_form a k, dict_form b k'] at h
      simp only [List.cons.injEq, true_and] at h
      rcases tailP_inj _ _ _ _ _ _ hkl hkl' (hall hdp he) (hall' hdp' he') (endS_end a.d q) (endD_end q') (fun x hx => hel hdp x (he x hx)) h with ⟨e1, e2, e3⟩ | e | e
      · exact absurd e3.symm endD_ne_endS
      · exact (within_dict e).elim
      · exact (no_within (hall' hdp' he') hdl hq' e).elim
    · rw [stream_form a k, stream_form b k'] at h
      simp only [List.cons.injEq, true_and] at h
      have fa := bare_facts hB; have fb := bare_facts hB'
      rcases tailP_inj _ _ _ _ _ _ hkl hkl' (hall hdp he) (hall' hdp' he') (endS_end a.d q) (endS_end b.d q') (fun x hx => hel hdp x (he x hx)) h with ⟨e1, e2, e3⟩ | e | e
      · obtain ⟨e4, e5⟩ := endS_inj e3
        exact ⟨eqO_of (k.trans k'.symm) (by rw [fa.1 rfl, fb.1 rfl]) (by rw [fa.2.1 rfl, fb.2.1 rfl]) e1 e4 e2, e5⟩
      · obtain ⟨x, ks2, l2, m1, -⟩ := within_stream e
        exact (hkn _ m1 rfl).elim
      · obtain ⟨x, ks2, l2, m1, -⟩ := within_stream e
        exact (hkn' _ m1 rfl).elim
theorem inj_all : ∀ (d : Nat) (a : PO), sndB d a = true → InjO a
  | 0, a, h => inj_of h (kind_of h : KindOK false (fun _ => false) a) (fun h => by cases h) (fun h => by cases h)
  | d + 1, a, h => inj_of h (kind_of h : KindOK true (sndB d) a) (fun _ => inj_all d) (fun _ => ⟨d, fun _ h => h⟩)

theorem eqL_iff : ∀ a b : List UInt8, eqL a b = true ↔ a = b
  | [], [] => by simp [eqL]
  | [], _ :: _ => by simp [eqL]
  | _ :: _, [] => by simp [eqL]
  | x :: a, y :: b => by
    rw [eqL, Bool.and_eq_true, eqL_iff a b, beq_iff_eq, List.cons.injEq]
    constructor
    · rintro ⟨h1, h2⟩
      exact ⟨UInt8.toNat.inj (by omega), h2⟩
    · rintro ⟨rfl, h2⟩
      exact ⟨rfl, h2⟩
theorem eqS_eq : ∀ a b : List ByteArray, eqS a b = true → a = b
  | [], [], _ => rfl
  | [], _ :: _, h => by simp [eqS] at h
  | _ :: _, [], h => by simp [eqS] at h
  | x :: a, y :: b, h => by
    rw [eqS, Bool.and_eq_true] at h
    rw [(toList_beq x y).1 h.1, eqS_eq a b h.2]
mutual
theorem eqO_wr : ∀ a b : PO, eqO a b = true → wrL a = wrL b
  | ⟨k, n, t, ks, l, d⟩, ⟨k', n', t', ks', l', d'⟩, h => by
    rw [eqO] at h
    simp only [Bool.and_eq_true] at h
    obtain ⟨⟨⟨⟨⟨⟨h1, h2⟩, h3⟩, h4⟩, h5⟩, -⟩, h7⟩ := h
    obtain rfl := eq_of_beq h1
    obtain rfl := eq_of_beq h2
    obtain rfl := (toList_beq t t').1 h3
    obtain rfl := eqS_eq _ _ h4
    obtain rfl := (eqL_iff d d').1 h5
    have h8 := eqOs_wr l l' h7
    rw [wrL, wrL, h8]
theorem eqOs_wr : ∀ l l' : List PO, eqOs l l' = true → wrs l = wrs l'
  | [], [], _ => rfl
  | [], _ :: _, h => by simp [eqOs] at h
  | _ :: _, [], h => by simp [eqOs] at h
  | x :: l, y :: l', h => by
    rw [eqOs, Bool.and_eq_true] at h
    rw [wrs, wrs, eqO_wr x y h.1, eqOs_wr l l' h.2]
end
theorem apart_law (a b : PO) (ha : sndB 32 a = true) (hb : sndB 32 b = true) : eqL (wrL a) (wrL b) = eqO a b := by
  rw [Bool.eq_iff_iff, eqL_iff]
  constructor
  · intro h
    exact (inj_all 32 a ha b 32 [] [] hb (.inl rfl) (.inl rfl) (by rw [h])).1
  · exact eqO_wr a b
end Go.Proofs.YtkcdckcckpgliaaDoor
