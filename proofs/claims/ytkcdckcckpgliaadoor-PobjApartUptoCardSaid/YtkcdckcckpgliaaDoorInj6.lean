/- Sound objects print alike exactly if they are equal: dictionaries, streams, the whole. -/
import Derived.Test.YtkcdckcckpgliaaDoorInj5
namespace Go.Proofs.YtkcdckcckpgliaaDoor

/-- What stands behind some pairs of a dictionary. -/
def tailP (ks : List ByteArray) (l : List PO) (E : List UInt8) : List UInt8 := pairItems ks (wrs l) ++ E
theorem tailP_nil (E : List UInt8) : tailP [] [] E = E := rfl
theorem tailP_cons (k : ByteArray) (ks : List ByteArray) (x : PO) (l : List PO) (E : List UInt8) : tailP (k :: ks) (x :: l) E = 32 :: (nameL k.data.toList ++ (32 :: (wrL x ++ tailP ks l E))) := by
  simp only [tailP, wrs, pairItems, List.cons_append, List.append_assoc]
/-- What ends the pairs: begins with ' >' or with ' /'. -/
def EndP (E : List UInt8) : Prop := ∃ c t, E = 32 :: c :: t ∧ (c = 62 ∨ c = 47)
theorem EndP.stop {E : List UInt8} (h : EndP E) : Stop E := by
  obtain ⟨c, t, rfl, rfl | rfl⟩ := h
  · exact stop62 t
  · exact stop47 t
theorem tailP_end {ks : List ByteArray} {l : List PO} {E : List UInt8} (hl : ks.length = l.length) (h : EndP E) : EndP (tailP ks l E) := by
  cases ks with
  | nil => cases l with
    | nil => exact h
    | cons x l => simp at hl
  | cons k ks => cases l with
    | nil => simp at hl
    | cons x l =>
      rw [tailP_cons]
      exact ⟨47, _, rfl, .inr rfl⟩
/-- Two rows of pairs: alike, or the one ends within the other. -/
def Within (ks : List ByteArray) (l : List PO) (E : List UInt8) (E' : List UInt8) : Prop := ∃ k x ks2 l2, k ∈ ks ∧ x ∈ l ∧ ks2.length = l2.length ∧ E' = tailP (k :: ks2) (x :: l2) E
theorem tailP_inj : ∀ (ks : List ByteArray) (l : List PO) (ks' : List ByteArray) (l' : List PO) (E E' : List UInt8), ks.length = l.length → ks'.length = l'.length → AllSnd l → AllSnd l' → EndP E → EndP E' → (∀ x, x ∈ l → InjO x) → tailP ks l E = tailP ks' l' E' →
    (ks = ks' ∧ eqOs l l' = true ∧ E = E') ∨ Within ks l E E' ∨ Within ks' l' E' E
  | [], [], [], [], E, E', _, _, _, _, _, _, _, h => .inl ⟨rfl, by rw [eqOs], h⟩
  | [], [], k :: ks', y :: l', E, E', _, h2, _, _, _, _, _, h => .inr (.inr ⟨k, y, ks', l', by simp, by simp, by simpa using h2, h⟩)
  | k :: ks, x :: l, [], [], E, E', h1, _, _, _, _, _, _, h => .inr (.inl ⟨k, x, ks, l, by simp, by simp, by simpa using h1, h.symm⟩)
  | k :: ks, x :: l, k' :: ks', y :: l', E, E', h1, h2, s1, s2, e1, e2, hi, h => by
    rw [tailP_cons, tailP_cons] at h
    simp only [List.cons.injEq, true_and] at h
    obtain ⟨rfl, h3⟩ := name_split k k' _ _ (.inr ⟨32, _, rfl, .inl rfl⟩) (.inr ⟨32, _, rfl, .inl rfl⟩) h
    simp only [List.cons.injEq, true_and] at h3
    have l1 : ks.length = l.length := by simpa using h1
    have l2 : ks'.length = l'.length := by simpa using h2
    have s3 := s2.tail
    obtain ⟨d', hd'⟩ := s2
    obtain ⟨a1, a2⟩ := hi x (by simp) y d' _ _ (hd' y (by simp)) (tailP_end l1 e1).stop (tailP_end l2 e2).stop h3
    rcases tailP_inj ks l ks' l' E E' l1 l2 s1.tail s3 e1 e2 (fun z hz => hi z (by simp [hz])) a2 with ⟨rfl, b1, b2⟩ | ⟨k2, x2, ks2, l2, m1, m2, m3, m4⟩ | ⟨k2, x2, ks2, l2, m1, m2, m3, m4⟩
    · exact .inl ⟨rfl, by rw [eqOs, a1, b1]; rfl, b2⟩
    · exact .inr (.inl ⟨k2, x2, ks2, l2, by simp [m1], by simp [m2], m3, m4⟩)
    · exact .inr (.inr ⟨k2, x2, ks2, l2, by simp [m1], by simp [m2], m3, m4⟩)
  | [], _ :: _, _, _, _, _, h, _, _, _, _, _, _, _ => by simp at h
  | _ :: _, [], _, _, _, _, h, _, _, _, _, _, _, _ => by simp at h
  | [], [], [], _ :: _, _, _, _, h, _, _, _, _, _, _ => by simp at h
  | [], [], _ :: _, [], _, _, _, h, _, _, _, _, _, _ => by simp at h
  | _ :: _, _ :: _, [], _ :: _, _, _, _, h, _, _, _, _, _, _ => by simp at h
  | _ :: _, _ :: _, _ :: _, [], _, _, _, h, _, _, _, _, _, _ => by simp at h

/-- What ends a dictionary; what ends a stream. -/
def endD (q : List UInt8) : List UInt8 := 32 :: 62 :: 62 :: q
def bodyS (d q : List UInt8) : List UInt8 := [10, 115, 116, 114, 101, 97, 109, 10] ++ (d ++ ([10, 101, 110, 100, 115, 116, 114, 101, 97, 109] ++ q))
def endS (d q : List UInt8) : List UInt8 := 32 :: (nameL lengthName.data.toList ++ (32 :: (Lib.itoa d.length ++ endD (bodyS d q))))
theorem dict_form (o : PO) (h : o.k = 7) (q : List UInt8) : wrL o ++ q = 60 :: 60 :: tailP o.ks o.l (endD q) := by
  rw [wr_7' h]
  simp only [pairsB, tailP, endD, List.cons_append, List.append_assoc, List.nil_append]
theorem name_len : nameL lengthName.data.toList = [47, 76, 101, 110, 103, 116, 104] := by decide
theorem stream_form (o : PO) (h : o.k = 9) (q : List UInt8) : wrL o ++ q = 60 :: 60 :: tailP o.ks o.l (endS o.d q) := by
  rw [wr_9' h]
  simp only [streamB, pairsB, tailP, endS, endD, bodyS, name_len, lenL, List.cons_append, List.append_assoc, List.nil_append]
theorem endD_end (q : List UInt8) : EndP (endD q) := ⟨62, _, rfl, .inl rfl⟩
theorem endS_end (d q : List UInt8) : EndP (endS d q) := ⟨47, _, rfl, .inr rfl⟩
theorem within_dict {ks : List ByteArray} {l : List PO} {E q : List UInt8} (h : Within ks l E (endD q)) : False := by
  obtain ⟨k, x, ks2, l2, -, -, -, h⟩ := h
  rw [tailP_cons] at h
  unfold endD nameL at h
  simp at h
/-- A stream's length cannot be a key's value of a dictionary. -/
theorem within_stream {ks : List ByteArray} {l : List PO} {E d q : List UInt8} (h : Within ks l E (endS d q)) : ∃ x ks2 l2, lengthName ∈ ks ∧ x ∈ l ∧ ks2.length = l2.length ∧ Lib.itoa d.length ++ endD (bodyS d q) = wrL x ++ tailP ks2 l2 E := by
  obtain ⟨k, x, ks2, l2, m1, m2, m3, h⟩ := h
  rw [tailP_cons] at h
  unfold endS at h
  simp only [List.cons.injEq, true_and] at h
  obtain ⟨rfl, h3⟩ := name_split _ _ _ _ (.inr ⟨32, _, rfl, .inl rfl⟩) (.inr ⟨32, _, rfl, .inl rfl⟩) h
  simp only [List.cons.injEq, true_and] at h3
  exact ⟨x, ks2, l2, m1, m2, m3, h3⟩
end Go.Proofs.YtkcdckcckpgliaaDoor
