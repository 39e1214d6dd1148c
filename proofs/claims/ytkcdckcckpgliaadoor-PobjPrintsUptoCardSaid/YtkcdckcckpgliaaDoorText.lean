/- pobj.text: a string's bytes, behind what a buffer holds. -/
import Derived.Test.YtkcdckcckpgliaaDoorName
namespace Go.Proofs.YtkcdckcckpgliaaDoor
open Go.RowKit Go.Shelf
variable {T : TypeId} {rest : Array Value} {ok : Nat → Prop} {b : Nat} {bs : List UInt8}
set_option maxHeartbeats 3200000 in
set_option maxRecDepth 100000 in
theorem text_calls (s : ByteArray) (w : World) (h : BufAt 5 T rest ok b bs w) (hok : ∀ k, w.heap.size ≤ k → ok k) (hs : s.size ≤ 140737488355328) (hlim : bs.length + 4 * s.size + 2 ≤ 140737488355328) :
    Calls Tryd.prog 32 #[.pointer (some ⟨b, 0, none⟩), .string s] w fun e w' => e = .returned (.tuple #[]) ∧ BufAt 5 T rest ok b (bs ++ textL s.data.toList) w' ∧ Fr ok w w' := by
  have hcv := fun W : World => Lib.run_convert_string_bytes (P := Tryd.prog) W 9 24 5 s Tryd.underlying9 Tryd.underlying24 Tryd.underlying5
  go_enter Tryd.func32, Tryd.ntmps32
  go_wp2_with (go_at_call 33; refine (writeByte_any (T := T) (rest := rest) (ok := ok) (bs := bs) 40 _ ?_ ?_ ?_).mono ?_)
  · exact h
  · exact hok
  · omega
  rintro e W1 ⟨rfl, h1, f1⟩
  have H1 := Lib.hid h1
  have F1 := Lib.hid f1
  clear h1 f1
  go_wp2
  have hsz : (Lib.bytesWorld W1 5 s).heap.size = W1.heap.size + 1 := Lib.bytesWorld_size _ _ _
  obtain ⟨r, hr⟩ : ∃ r, r = W1.heap.size := ⟨_, rfl⟩
  have hb0 : BufAt 5 T rest (but ok r) b (bs ++ [40]) (Lib.bytesWorld W1 5 s) := by
    refine BufAt.below (w := W1) (BufAt.imp H1.out fun k hk ho => ⟨ho, by omega⟩) ?_
    exact bytesWorld_below' _ _ _
  have hc0 : ∀ j, j < s.size → (Lib.bytesWorld W1 5 s).cell? ⟨r, j, none⟩ = some (.int .u8 (s.data.toList.getD j 0).toNat) := fun j hj => by rw [hr]; exact Lib.bytesWorld_cell _ _ _ _ hj
  have h12 : Fr ok W1 (Lib.bytesWorld W1 5 s) := Fr.of_below ok (bytesWorld_below' _ _ _)
  rw [← hr]
  generalize Lib.bytesWorld W1 5 s = W2 at hb0 hc0 hsz h12 ⊢
  have hrl : r < W2.heap.size := by omega
  have HC := Lib.hid hc0
  have HB := Lib.hid hb0
  have HR := Lib.hid hr
  have H12 := Lib.hid h12
  have hok2 : ∀ k, W2.heap.size ≤ k → but ok r k := fun k hk => ⟨hok k (by have := Fr.size F1.out; omega), by omega⟩
  have HO := Lib.hid hok2
  clear hb0 hc0 hsz hr hok2 h12
  go_loopw [5, 11] (fun _ v wr => ∃ k : Nat, k ≤ s.size ∧ v = .int .i64 k ∧ Hid (BufAt 5 T rest (but ok r) b (bs ++ [40] ++ (s.data.toList.take k).flatMap textByte) wr) ∧ Hid (Fr (but ok r) W2 wr)) (fun _ v _ => s.size - (intOf v).toNat)
  case atStart => exact ⟨0, Nat.zero_le _, rfl, by simpa using HB, Fr.refl _ _⟩
  case round =>
    obtain ⟨k, hk, rfl, hB, hF⟩ := hrel
    by_cases hlt : k < s.size
    · have hcell : wr.cell? ⟨r, k, none⟩ = some (.int .u8 (s.data.toList.getD k 0).toNat) := (Fr.cell (p := ⟨r, k, none⟩) (Hid.out hF) hrl (fun h => h.2 rfl)).trans (HC.out k hlt)
      have hkl : k < s.data.toList.length := by rw [size_data]; exact hlt
      have hgd : s.data.toList.getD k 0 = s.data.toList[k] := by rw [List.getD_eq_getElem?_getD, List.getElem?_eq_getElem hkl]; rfl
      have hstep := flat_take textByte s.data.toList k hkl
      have hlen := flat_take_le textByte 4 textByte_le s.data.toList k (by rw [size_data]; omega)
      rw [hgd] at hcell
      generalize s.data.toList[k] = c at hcell hstep
      have HS := Lib.hid hstep
      clear hstep hgd hkl
      have hcl : c.toNat < 256 := c.toNat_lt
      have hand : Go.bits .and .u8 (c.toNat : Int) 7 = (c.toNat : Int) % 8 := u8_and7 (x := (c.toNat : Int)) (by omega) (by omega)
      have hcs : c = 40 ∨ c = 41 ∨ c = 92 ∨ (c.toNat ≠ 40 ∧ c.toNat ≠ 41 ∧ c.toNat ≠ 92) := by
        by_cases h1 : c.toNat = 40
        · exact .inl (UInt8.toNat.inj h1)
        by_cases h2 : c.toNat = 41
        · exact .inr (.inl (UInt8.toNat.inj h2))
        by_cases h3 : c.toNat = 92
        · exact .inr (.inr (.inl (UInt8.toNat.inj h3)))
        exact .inr (.inr (.inr ⟨h1, h2, h3⟩))
      rcases hcs with rfl | rfl | rfl | ⟨n1, n2, n3⟩
      · clear hand
        go_wp2_with fail
        refine (write_any (T := T) (rest := rest) (ok := but ok r) (bs := bs ++ [40] ++ (s.data.toList.take k).flatMap textByte) [92, 40] ⟨wr.heap.size, 0, none⟩ 2 _ ?_ ?_ ?_ ?_ (Nat.succ_pos _) ?_).mono ?_
        · exact BufAt.alloc (Hid.out hB) _
        · intro q hq; exact HO.out q (by have := Fr.size (Hid.out hF); simp at hq; omega)
        · show wr.heap.size ≠ b
          have := BufAt.lt (Hid.out hB); omega
        · intro j v hj
          exact Lib.cells_of_row (heap_alloc_new wr _) 2 j v hj
        · simp only [List.length_append, List.length_cons, List.length_nil]; omega
        rintro e w4 ⟨rfl, h4, f4⟩
        have H4 := Lib.hid h4
        have F4 := Lib.hid f4
        clear h4 f4
        go_wp2
        go_roundw
        case rel => exact ⟨k + 1, by omega, by go_num, (by rw [HS.out, show textByte 40 = [92, 40] from by decide, ← List.append_assoc]; exact H4), Lib.hid (Fr.trans (Fr.alloc (Hid.out hF) _) F4.out)⟩
        case measure => simp [intOf]; omega
      · clear hand
        go_wp2_with fail
        refine (write_any (T := T) (rest := rest) (ok := but ok r) (bs := bs ++ [40] ++ (s.data.toList.take k).flatMap textByte) [92, 41] ⟨wr.heap.size, 0, none⟩ 2 _ ?_ ?_ ?_ ?_ (Nat.succ_pos _) ?_).mono ?_
        · exact BufAt.alloc (Hid.out hB) _
        · intro q hq; exact HO.out q (by have := Fr.size (Hid.out hF); simp at hq; omega)
        · show wr.heap.size ≠ b
          have := BufAt.lt (Hid.out hB); omega
        · intro j v hj
          exact Lib.cells_of_row (heap_alloc_new wr _) 2 j v hj
        · simp only [List.length_append, List.length_cons, List.length_nil]; omega
        rintro e w4 ⟨rfl, h4, f4⟩
        have H4 := Lib.hid h4
        have F4 := Lib.hid f4
        clear h4 f4
        go_wp2
        go_roundw
        case rel => exact ⟨k + 1, by omega, by go_num, (by rw [HS.out, show textByte 41 = [92, 41] from by decide, ← List.append_assoc]; exact H4), Lib.hid (Fr.trans (Fr.alloc (Hid.out hF) _) F4.out)⟩
        case measure => simp [intOf]; omega
      · clear hand
        go_wp2_with fail
        refine (write_any (T := T) (rest := rest) (ok := but ok r) (bs := bs ++ [40] ++ (s.data.toList.take k).flatMap textByte) [92, 92] ⟨wr.heap.size, 0, none⟩ 2 _ ?_ ?_ ?_ ?_ (Nat.succ_pos _) ?_).mono ?_
        · exact BufAt.alloc (Hid.out hB) _
        · intro q hq; exact HO.out q (by have := Fr.size (Hid.out hF); simp at hq; omega)
        · show wr.heap.size ≠ b
          have := BufAt.lt (Hid.out hB); omega
        · intro j v hj
          exact Lib.cells_of_row (heap_alloc_new wr _) 2 j v hj
        · simp only [List.length_append, List.length_cons, List.length_nil]; omega
        rintro e w4 ⟨rfl, h4, f4⟩
        have H4 := Lib.hid h4
        have F4 := Lib.hid f4
        clear h4 f4
        go_wp2
        go_roundw
        case rel => exact ⟨k + 1, by omega, by go_num, (by rw [HS.out, show textByte 92 = [92, 92] from by decide, ← List.append_assoc]; exact H4), Lib.hid (Fr.trans (Fr.alloc (Hid.out hF) _) F4.out)⟩
        case measure => simp [intOf]; omega
      have m1 : ((c.toNat : Int) == 40) = false := beq_eq_false_iff_ne.2 (by omega)
      have m2 : ((c.toNat : Int) == 41) = false := beq_eq_false_iff_ne.2 (by omega)
      have m3 : ((c.toNat : Int) == 92) = false := beq_eq_false_iff_ne.2 (by omega)
      have he : escT c = false := by
        rw [Bool.eq_false_iff]
        simp only [escT, ne_eq, Bool.or_eq_true, decide_eq_true_eq]
        omega
      have HEsc := Lib.hid he
      clear he
      go_wp2_with fail
      rotate_left
      · have h32 : 32 ≤ c.toNat ∧ c.toNat ≤ 126 := by omega
        have HO2 := Lib.hid h32
        refine (writeByte_any (T := T) (rest := rest) (ok := but ok r) (bs := bs ++ [40] ++ (s.data.toList.take k).flatMap textByte) c wr (Hid.out hB) (fun q hq => HO.out q (by have := Fr.size (Hid.out hF); omega)) (by simp only [List.length_append, List.length_cons, List.length_nil]; omega)).mono ?_
        rintro e w4 ⟨rfl, h4, f4⟩
        have H4 := Lib.hid h4
        have F4 := Lib.hid f4
        clear h4 f4
        go_wp2_with fail
        go_roundw
        case rel => exact ⟨k + 1, by omega, by go_num, (by rw [HS.out, textByte_plain c HEsc.out HO2.out.1 HO2.out.2, ← List.append_assoc]; exact H4), Lib.hid (Fr.trans (Hid.out hF) F4.out)⟩
        case measure => simp [intOf]; omega
      all_goals (
        refine (write_any (T := T) (rest := rest) (ok := but ok r) (bs := bs ++ [40] ++ (s.data.toList.take k).flatMap textByte) [92, UInt8.ofNat (48 + c.toNat / 64), UInt8.ofNat (48 + c.toNat / 8 % 8), UInt8.ofNat (48 + c.toNat % 8)] ⟨wr.heap.size, 0, none⟩ 4 _ ?_ ?_ ?_ ?_ (Nat.succ_pos _) ?_).mono ?_
        · exact BufAt.alloc (Hid.out hB) _
        · intro q hq; exact HO.out q (by have := Fr.size (Hid.out hF); simp at hq; omega)
        · show wr.heap.size ≠ b
          have := BufAt.lt (Hid.out hB); omega
        · intro j v hj
          rw [octal_cells] at hj
          exact Lib.cells_of_row (heap_alloc_new wr _) 4 j v hj
        · simp only [List.length_append, List.length_cons, List.length_nil]; omega
        rintro e w4 ⟨rfl, h4, f4⟩
        have H4 := Lib.hid h4
        have F4 := Lib.hid f4
        have hor : c.toNat < 32 ∨ 126 < c.toNat := by omega
        have HO2 := Lib.hid hor
        clear h4 f4 hor
        go_wp2_with fail
        go_roundw
        case rel => exact ⟨k + 1, by omega, by go_num, (by rw [HS.out, textByte_octal c HEsc.out HO2.out, ← List.append_assoc]; exact H4), Lib.hid (Fr.trans (Fr.alloc (Hid.out hF) _) F4.out)⟩
        case measure => simp [intOf]; omega)
    · obtain rfl : k = s.size := by omega
      go_wp2_with fail
      refine (writeByte_any (T := T) (rest := rest) (ok := but ok r) (bs := bs ++ [40] ++ (s.data.toList.take s.size).flatMap textByte) 41 wr (Hid.out hB) (fun q hq => HO.out q (by have := Fr.size (Hid.out hF); omega)) (by
        have := flat_take_le textByte 4 textByte_le s.data.toList s.size (by rw [size_data]; omega)
        simp only [List.length_append, List.length_cons, List.length_nil]; omega)).mono ?_
      rintro e w4 ⟨rfl, h4, f4⟩
      have H4 := Lib.hid h4
      have F4 := Lib.hid f4
      clear h4 f4
      go_wp2_with fail
      go_end0
      refine ⟨rfl, ?_, ?_⟩
      · have h2 := BufAt.imp (ok' := ok) H4.out fun q _ h => h.1
        rw [← size_data, List.take_length, List.append_assoc, List.append_assoc] at h2
        exact h2
      · exact (Fr.trans F1.out H12.out).trans ((Fr.mono (Hid.out hF) fun q _ h => h.1).trans (Fr.mono F4.out fun q _ h => h.1))
end Go.Proofs.YtkcdckcckpgliaaDoor
