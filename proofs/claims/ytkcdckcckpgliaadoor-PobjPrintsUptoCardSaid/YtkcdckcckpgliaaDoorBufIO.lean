/- bytes.Buffer's writers and Bytes: contracts over a buffer at the head of a block, with a frame by block numbers. -/
import Derived.Test.YtkcdckcckpgliaaDoorBuf
import Derived.Laws.CopyRow
import Derived.RegionTactic
namespace Go.Proofs.YtkcdckcckpgliaaDoor
open Go.RowKit Go.Shelf
variable {T : TypeId} {rest : Array Value} {ok : Nat → Prop} {b : Nat} {bs : List UInt8}

set_option maxHeartbeats 3200000 in
set_option maxRecDepth 100000 in
theorem writeByte_any (c : UInt8) (w : World) (h : BufAt 5 T rest ok b bs w) (hok : ∀ k, w.heap.size ≤ k → ok k) (hlim : bs.length + 1 ≤ 140737488355328) :
    Calls Tryd.prog 33 #[.pointer (some ⟨b, 0, none⟩), .int .u8 c.toNat] w fun e w' => e = .returned .nilIface ∧ BufAt 5 T rest ok b (bs ++ [c]) w' ∧ Fr ok w w' := by
  obtain ⟨A, cc, lr, h1⟩ : ∃ A c lr, Head T rest b (.slice A bs.length c) lr w := by
    rcases h.2 with ⟨rfl, lr, h1⟩ | ⟨g, cap, cur, lr, h1, _⟩
    · exact ⟨_, _, _, h1⟩
    · exact ⟨_, _, _, h1⟩
  have c2 := h1.c2; have f2 := h1.fz 2
  have h' := h.setLast 0
  have hsz : (w.setCell ⟨b, 2, none⟩ (.int .i8 0)).heap.size = w.heap.size := by simp [World.setCell]
  have hok' : ∀ k, (w.setCell ⟨b, 2, none⟩ (.int .i8 0)).heap.size ≤ k → ok k := fun k hk => hok k (by omega)
  have hf0 : Fr ok w (w.setCell ⟨b, 2, none⟩ (.int .i8 0)) := (Fr.refl ok w).setCell (.inr h.1) _
  have hT : ∀ W, BufAt 5 T rest ok b bs W → Calls Tryd.prog 47 #[.pointer (some ⟨b, 0, none⟩), .int .i64 1] W _ := fun W hW => tryGrow_any 1 (by decide) W hW
  have hG : ∀ W, BufAt 5 T rest ok b bs W → (∀ k, W.heap.size ≤ k → ok k) → Lib.NoRoom b 1 W → Calls Tryd.prog 48 #[.pointer (some ⟨b, 0, none⟩), .int .i64 1] W _ := fun W hW hk hn => grow_any 1 (by decide) W hW hk hn hlim
  clear h1
  go_enter Tryd.func33, Tryd.ntmps33
  go_wp2_with (go_at_call 47; refine (hT _ ?_).mono ?_)
  · exact h'
  rintro e W1 (⟨rfl, ⟨g, cap, cur, lr, q1, q2, q3, q4, q5, q6, q7, q8⟩, hgr⟩ | ⟨rfl, rfl, hnr⟩)
  · clear hT hG c2 f2
    have d0 := q1.c0
    have hlt : bs.length < cur.size := by omega
    have dg : W1.cell? ⟨g, bs.length, none⟩ = some cur[bs.length] := by rw [Lib.cell_of_heap q4, Array.getElem?_eq_getElem hlt]
    have fg : W1.frozen? ⟨g, bs.length, none⟩ = false := Lib.frozen_of_heap q4 _
    have q6' := q6
    unfold maxLen at q6'
    have hend := Room.poked c h.1 q1 q2 q3 q4 q5 q6 q7 q8
    have hfr : Fr ok w (W1.setCell ⟨g, bs.length, none⟩ (.int .u8 c.toNat)) := (hf0.trans (Fr.grown hgr h.1)).setCell (.inr q2) _
    clear q1 q4 q7 q8 hgr h' hok' hf0
    have HE := Lib.hid hend
    have HF := Lib.hid hfr
    clear hend hfr
    go_wp2
    go_ret
    exact ⟨rfl, HE.out, HF.out⟩
  · go_wp2_with (go_at_call 48; refine (hG _ ?_ ?_ ?_).mono ?_)
    · exact h'
    · exact hok'
    · exact hnr
    rintro e W1 ⟨rfl, ⟨g, cap, cur, lr, q1, q2, q3, q4, q5, q6, q7, q8⟩, hgr⟩
    clear hT hG c2 f2 hnr
    have d0 := q1.c0
    have hlt : bs.length < cur.size := by omega
    have dg : W1.cell? ⟨g, bs.length, none⟩ = some cur[bs.length] := by rw [Lib.cell_of_heap q4, Array.getElem?_eq_getElem hlt]
    have fg : W1.frozen? ⟨g, bs.length, none⟩ = false := Lib.frozen_of_heap q4 _
    have q6' := q6
    unfold maxLen at q6'
    have hend := Room.poked c h.1 q1 q2 q3 q4 q5 q6 q7 q8
    have hfr : Fr ok w (W1.setCell ⟨g, bs.length, none⟩ (.int .u8 c.toNat)) := (hf0.trans (Fr.grown hgr h.1)).setCell (.inr q2) _
    clear q1 q4 q7 q8 hgr h' hok' hf0
    have HE := Lib.hid hend
    have HF := Lib.hid hfr
    clear hend hfr
    go_wp2
    go_ret
    exact ⟨rfl, HE.out, HF.out⟩

theorem size_data (s : ByteArray) : s.data.toList.length = s.size := by rw [Array.length_toList]; rfl

set_option maxHeartbeats 3200000 in
set_option maxRecDepth 100000 in
theorem writeString_any (s : ByteArray) (w : World) (h : BufAt 5 T rest ok b bs w) (hok : ∀ k, w.heap.size ≤ k → ok k) (hlim : bs.length + s.size ≤ 140737488355328) :
    Calls Tryd.prog 27 #[.pointer (some ⟨b, 0, none⟩), .string s] w fun e w' => e = .returned (.tuple #[.int .i64 s.size, .nilIface]) ∧ BufAt 5 T rest ok b (bs ++ s.data.toList) w' ∧ Fr ok w w' := by
  obtain ⟨A, cc, lr, h1, hA⟩ : ∃ A c lr, Head T rest b (.slice A bs.length c) lr w ∧ bs.length ≤ c ∧ c ≤ maxLen := by
    rcases h.2 with ⟨rfl, lr, h1⟩ | ⟨g, cap, cur, lr, h1, -, -, -, -, h6, h7, -⟩
    · exact ⟨_, _, _, h1, Nat.le_refl _, Nat.zero_le _⟩
    · exact ⟨_, _, _, h1, h6, h7⟩
  have c0 := h1.c0; have c2 := h1.c2; have f2 := h1.fz 2; have f0 := h1.fz 0
  have h' := h.setLast 0
  have hsz : (w.setCell ⟨b, 2, none⟩ (.int .i8 0)).heap.size = w.heap.size := by simp [World.setCell]
  have hok' : ∀ k, (w.setCell ⟨b, 2, none⟩ (.int .i8 0)).heap.size ≤ k → ok k := fun k hk => hok k (by omega)
  have hf0 : Fr ok w (w.setCell ⟨b, 2, none⟩ (.int .i8 0)) := (Fr.refl ok w).setCell (.inr h.1) _
  have H1 := Lib.hid (h1.set2 0)
  clear h1
  by_cases hs0 : s.size = 0
  · have hce : ∀ d dLen dCap W, (Builtin.copy_ #[24, 9] 3 #[.slice d dLen dCap, .string s]).run Tryd.prog W = .ok (goInt 0) W := fun d dLen dCap W => Lib.run_copy_empty_string W 24 9 3 5 d dLen dCap s Tryd.underlying24 (by rw [infoU8s]; rfl) hs0
    have hnil : s.data.toList = [] := List.eq_nil_of_length_eq_zero (by rw [size_data, hs0])
    have hA2 := hA.2
    have hT : ∀ W, Head T rest b (.slice A bs.length cc) 0 W → Calls Tryd.prog 47 #[.pointer (some ⟨b, 0, none⟩), .int .i64 0] W _ := fun W hW => Tryd.Buffer_tryGrow_room b _ bs.length cc 0 W hW.c0 (hW.fz 0) hA.1 hA.2 (Nat.zero_le _)
    unfold maxLen at hA2
    go_enter Tryd.func27, Tryd.ntmps27
    go_wp2_with (go_at_call 47; refine (hT _ ?_).mono ?_)
    · exact H1.out
    rintro e W1 ⟨rfl, hW1⟩
    have e1 : Head T rest b (.slice A bs.length cc) 0 W1 := by rw [hW1]; exact Head.set0 H1.out _
    have d0 := e1.c0
    have hfr : Fr ok w W1 := by rw [hW1]; exact hf0.setCell (.inr h.1) _
    have hend : BufAt 5 T rest ok b bs W1 := by
      rw [hW1]
      refine ⟨h.1, ?_⟩
      rcases h'.2 with ⟨p0, lr', p1⟩ | ⟨g, cap, cur, lr', p1, p2, p3, p4, p5⟩
      · have : (Value.slice A bs.length cc) = .slice none 0 0 := by have := p1.c0.symm.trans (Head.c0 H1.out); exact (Option.some.inj this).symm
        exact .inl ⟨p0, lr', by rw [Nat.add_zero, this]; exact p1.set0 _⟩
      · have : (Value.slice A bs.length cc) = .slice (some ⟨g, 0, none⟩) bs.length cap := by have := p1.c0.symm.trans (Head.c0 H1.out); exact (Option.some.inj this).symm
        exact .inr ⟨g, cap, cur, lr', by rw [Nat.add_zero, this]; exact p1.set0 _, p2, p3, by rw [Below.heap_setCell _ _ _ _ p3]; exact p4, p5⟩
    have HE := Lib.hid hend
    have HF := Lib.hid hfr
    clear hend hfr hW1 e1 h' hf0 hok' c2 f2 c0 f0
    have hA1 := hA.1
    go_wp2
    all_goals (go_ret2; exact ⟨by simp, by simpa using HE.out, HF.out⟩)
  · have hs1 : 0 < s.size := Nat.pos_of_ne_zero hs0
    go_enter Tryd.func27, Tryd.ntmps27
    go_wp2_with (go_at_call 47; refine (tryGrow_any (T := T) (rest := rest) (ok := ok) (bs := bs) s.size hs1 _ ?_).mono ?_)
    · exact h'
    rintro e W1 (⟨rfl, ⟨g, cap, cur, lr, q1, q2, q3, q4, q5, q6, q7, q8⟩, hgr⟩ | ⟨rfl, rfl, hnr⟩)
    · clear c2 f2 c0 f0
      have d0 := q1.c0
      have hne : ¬ cap = bs.length := by omega
      have hcp := Lib.run_copy_row_string (P := Tryd.prog) W1 24 9 3 5 g bs.length s.size (cap - bs.length) s cur 5 Tryd.underlying24 infoU8s q4 (Nat.le_refl _) (by omega)
      have q6' := q6
      unfold maxLen at q6'
      have hend := Room.written (s := s.data.toList) h.1 q1 q2 q3 q4 q5 q6 q7 q8 (size_data s) hs1
      have hfr : Fr ok w (W1.setRow g (cur.toList.take bs.length ++ Lib.byteCells s.data.toList ++ cur.toList.drop (bs.length + s.size)).toArray) := (hf0.trans (Fr.grown hgr h.1)).trans (Fr.grown (grownBy_setRow _ _ _) q2)
      rw [List.append_assoc] at hend hfr
      have HE := Lib.hid hend
      have HF := Lib.hid hfr
      clear hend hfr q1 q4 q7 q8 hgr h' hok' hf0
      go_wp2
      go_ret2
      exact ⟨rfl, HE.out, HF.out⟩
    · go_wp2_with (go_at_call 48; refine (grow_any (T := T) (rest := rest) (ok := ok) (bs := bs) s.size hs1 _ ?_ ?_ ?_ hlim).mono ?_)
      · exact h'
      · exact hok'
      · exact hnr
      rintro e W1 ⟨rfl, ⟨g, cap, cur, lr, q1, q2, q3, q4, q5, q6, q7, q8⟩, hgr⟩
      clear c2 f2 c0 f0 hnr
      have d0 := q1.c0
      have hne : ¬ cap = bs.length := by omega
      have hcp := Lib.run_copy_row_string (P := Tryd.prog) W1 24 9 3 5 g bs.length s.size (cap - bs.length) s cur 5 Tryd.underlying24 infoU8s q4 (Nat.le_refl _) (by omega)
      have q6' := q6
      unfold maxLen at q6'
      have hend := Room.written (s := s.data.toList) h.1 q1 q2 q3 q4 q5 q6 q7 q8 (size_data s) hs1
      have hfr : Fr ok w (W1.setRow g (cur.toList.take bs.length ++ Lib.byteCells s.data.toList ++ cur.toList.drop (bs.length + s.size)).toArray) := (hf0.trans (Fr.grown hgr h.1)).trans (Fr.grown (grownBy_setRow _ _ _) q2)
      rw [List.append_assoc] at hend hfr
      have HE := Lib.hid hend
      have HF := Lib.hid hfr
      clear hend hfr q1 q4 q7 q8 hgr h' hok' hf0
      go_wp2
      go_ret2
      exact ⟨rfl, HE.out, HF.out⟩

set_option maxHeartbeats 3200000 in
set_option maxRecDepth 100000 in
/-- Write: of bytes that lie in another block than the buffer's struct. -/
theorem write_any (s : List UInt8) (a : Addr) (c : Nat) (w : World) (h : BufAt 5 T rest ok b bs w) (hok : ∀ k, w.heap.size ≤ k → ok k) (hab : a.block ≠ b) (hsrc : ∀ j v, (Lib.byteCells s)[j]? = some v → w.cell? (a.add j) = some v) (hs1 : 0 < s.length) (hlim : bs.length + s.length ≤ 140737488355328) :
    Calls Tryd.prog 35 #[.pointer (some ⟨b, 0, none⟩), .slice (some a) s.length c] w fun e w' => e = .returned (.tuple #[.int .i64 s.length, .nilIface]) ∧ BufAt 5 T rest ok b (bs ++ s) w' ∧ Fr ok w w' := by
  obtain ⟨A, cc, lr, h1⟩ : ∃ A c lr, Head T rest b (.slice A bs.length c) lr w := by
    rcases h.2 with ⟨rfl, lr, h1⟩ | ⟨g, cap, cur, lr, h1, _⟩
    · exact ⟨_, _, _, h1⟩
    · exact ⟨_, _, _, h1⟩
  have c2 := h1.c2; have f2 := h1.fz 2
  have h' := h.setLast 0
  have hsz : (w.setCell ⟨b, 2, none⟩ (.int .i8 0)).heap.size = w.heap.size := by simp [World.setCell]
  have hok' : ∀ k, (w.setCell ⟨b, 2, none⟩ (.int .i8 0)).heap.size ≤ k → ok k := fun k hk => hok k (by omega)
  have hf0 : Fr ok w (w.setCell ⟨b, 2, none⟩ (.int .i8 0)) := (Fr.refl ok w).setCell (.inr h.1) _
  have hg0 : w.grownBy (w.setCell ⟨b, 2, none⟩ (.int .i8 0)) (some b) := Lib.grownBy_setCell w b 2 _
  have hbl : (Lib.byteCells s).length = s.length := Lib.byteCells_length _
  clear h1
  go_enter Tryd.func35, Tryd.ntmps35
  go_wp2_with (go_at_call 47; refine (tryGrow_any (T := T) (rest := rest) (ok := ok) (bs := bs) s.length hs1 _ ?_).mono ?_)
  · exact h'
  rintro e W1 (⟨rfl, ⟨g, cap, cur, lr, q1, q2, q3, q4, q5, q6, q7, q8⟩, hgr⟩ | ⟨rfl, rfl, hnr⟩)
  · clear c2 f2
    have d0 := q1.c0
    have hne : ¬ cap = bs.length := by omega
    have hsrc1 : ∀ j v, (Lib.byteCells s)[j]? = some v → W1.cell? (a.add j) = some v := fun j v hj => (Lib.grownBy_trans hg0 hgr).cell (hsrc j v hj) (by rw [Lib.block_add]; exact fun e => hab (Option.some.inj e))
    have hcp := run_copy_row (P := Tryd.prog) W1 24 24 3 5 g bs.length s.length (cap - bs.length) a s.length c cur 5 (Lib.byteCells s) Tryd.underlying24 infoU8s q4 (by rw [hbl]; exact (Nat.min_self _).symm) hsrc1 (by rw [hbl]; omega) (Lib.byteCells_one _)
    rw [hbl] at hcp
    have q6' := q6
    unfold maxLen at q6'
    have hend := Room.written (s := s) h.1 q1 q2 q3 q4 q5 q6 q7 q8 rfl hs1
    have hfr : Fr ok w (W1.setRow g (cur.toList.take bs.length ++ Lib.byteCells s ++ cur.toList.drop (bs.length + s.length)).toArray) := (hf0.trans (Fr.grown hgr h.1)).trans (Fr.grown (grownBy_setRow _ _ _) q2)
    rw [List.append_assoc] at hend hfr
    have HE := Lib.hid hend
    have HF := Lib.hid hfr
    clear hend hfr q1 q4 q7 q8 hgr h' hok' hf0 hsrc1 hsrc hbl
    go_wp2
    go_ret2
    exact ⟨rfl, HE.out, HF.out⟩
  · go_wp2_with (go_at_call 48; refine (grow_any (T := T) (rest := rest) (ok := ok) (bs := bs) s.length hs1 _ ?_ ?_ ?_ hlim).mono ?_)
    · exact h'
    · exact hok'
    · exact hnr
    rintro e W1 ⟨rfl, ⟨g, cap, cur, lr, q1, q2, q3, q4, q5, q6, q7, q8⟩, hgr⟩
    clear c2 f2 hnr
    have d0 := q1.c0
    have hne : ¬ cap = bs.length := by omega
    have hsrc1 : ∀ j v, (Lib.byteCells s)[j]? = some v → W1.cell? (a.add j) = some v := fun j v hj => (Lib.grownBy_trans hg0 hgr).cell (hsrc j v hj) (by rw [Lib.block_add]; exact fun e => hab (Option.some.inj e))
    have hcp := run_copy_row (P := Tryd.prog) W1 24 24 3 5 g bs.length s.length (cap - bs.length) a s.length c cur 5 (Lib.byteCells s) Tryd.underlying24 infoU8s q4 (by rw [hbl]; exact (Nat.min_self _).symm) hsrc1 (by rw [hbl]; omega) (Lib.byteCells_one _)
    rw [hbl] at hcp
    have q6' := q6
    unfold maxLen at q6'
    have hend := Room.written (s := s) h.1 q1 q2 q3 q4 q5 q6 q7 q8 rfl hs1
    have hfr : Fr ok w (W1.setRow g (cur.toList.take bs.length ++ Lib.byteCells s ++ cur.toList.drop (bs.length + s.length)).toArray) := (hf0.trans (Fr.grown hgr h.1)).trans (Fr.grown (grownBy_setRow _ _ _) q2)
    rw [List.append_assoc] at hend hfr
    have HE := Lib.hid hend
    have HF := Lib.hid hfr
    clear hend hfr q1 q4 q7 q8 hgr h' hok' hf0 hsrc1 hsrc hbl
    go_wp2
    go_ret2
    exact ⟨rfl, HE.out, HF.out⟩

/-- A slice of bytes: its cells, wherever they lie. -/
def BytesAt (w : World) (A : Option Addr) (s : List UInt8) : Prop := ∀ j v, (Lib.byteCells s)[j]? = some v → ∃ a, A = some a ∧ w.cell? (a.add j) = some v

set_option maxHeartbeats 1000000 in
set_option maxRecDepth 100000 in
/-- Bytes: the buffer's own row. -/
theorem bytes_any (w : World) (h : BufAt 5 T rest ok b bs w) :
    Calls Tryd.prog 17 #[.pointer (some ⟨b, 0, none⟩)] w fun e w' => ∃ A c, e = .returned (.slice A bs.length c) ∧ bs.length ≤ c ∧ BytesAt w A bs ∧ (∀ a, A = some a → ∃ g, a = ⟨g, 0, none⟩ ∧ ok g ∧ g ≠ b ∧ g < w.heap.size) ∧ (A = none → bs = [] ∧ c = 0) ∧ ∃ n, w' = w.drewN n := by
  obtain ⟨A, c, lr, h1, hlc, hcm, hb, hA, hN⟩ : ∃ A c lr, Head T rest b (.slice A bs.length c) lr w ∧ bs.length ≤ c ∧ c ≤ maxLen ∧ BytesAt w A bs ∧ (∀ a, A = some a → ∃ g, a = ⟨g, 0, none⟩ ∧ ok g ∧ g ≠ b ∧ g < w.heap.size) ∧ (A = none → bs = [] ∧ c = 0) := by
    rcases h.2 with ⟨rfl, lr, h1⟩ | ⟨g, cap, cur, lr, h1, h2, h3, h4, h5, h6, h7, h8, h9⟩
    · exact ⟨none, 0, lr, h1, Nat.le_refl _, Nat.zero_le _, fun j v hj => by simp [Lib.byteCells] at hj, fun a ha => by simp at ha, fun _ => ⟨rfl, rfl⟩⟩
    · refine ⟨some ⟨g, 0, none⟩, cap, lr, h1, h6, h7, fun j v hj => ⟨_, rfl, ?_⟩, fun a ha => ?_, fun h => by simp at h⟩
      · exact Lib.cells_of_row h4 bs.length j v (by rw [h9]; exact hj)
      · obtain rfl := (Option.some.inj ha).symm
        exact ⟨g, rfl, h2, h3, Lib.lt_of_heap h4⟩
  have c0 := h1.c0; have c1 := h1.c1
  have hcm' := hcm
  unfold maxLen at hcm'
  clear h1
  have HB := Lib.hid hb
  have HA := Lib.hid hA
  have HN := Lib.hid hN
  clear hb hA hN
  go_enter Tryd.func17, Tryd.ntmps17
  go_wp2
  go_quiet (fail)
  go_wp2
  go_ret
  exact ⟨A, c, rfl, hlc, HB.out, HA.out, HN.out, _, rfl⟩
end Go.Proofs.YtkcdckcckpgliaaDoor
