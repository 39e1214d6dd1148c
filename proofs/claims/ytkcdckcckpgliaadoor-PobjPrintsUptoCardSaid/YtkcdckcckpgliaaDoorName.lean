/- pobj.name: a name's bytes, behind what a buffer holds. -/
import Derived.Test.YtkcdckcckpgliaaDoorBufIO2
import Derived.Lib.ConvBytes
import Derived.Laws.BitsLemmas
import Derived.Test.YtkcdckcckpgliaaDoorPobjW
import Derived.Deep.LoopGhost
namespace Go.Proofs.YtkcdckcckpgliaaDoor
open Go.RowKit Go.Shelf
theorem bytesWorld_below' (w : World) (e : TypeId) (s : ByteArray) : Below w.heap.size w (Lib.bytesWorld w e s) := ⟨rfl, rfl, rfl, by rw [Lib.bytesWorld_size]; omega, fun j hj => Lib.bytesWorld_at_old _ _ _ j hj⟩
variable {T : TypeId} {rest : Array Value} {ok : Nat → Prop} {b : Nat} {bs : List UInt8}
theorem indexByte_any (s : ByteArray) (c : Int) (w : World) :
    Calls Tryd.prog 52 #[.string s, .int .u8 c] w fun e w' => e = .returned (.int .i64 (Lib.indexByte s.data.toList c.toNat.toUInt8)) ∧ w = w' :=
  (Tryd.strings_IndexByte s c w).mono fun _ _ ⟨h, h1⟩ => ⟨h, h1.symm⟩
set_option maxHeartbeats 3200000 in
set_option maxRecDepth 100000 in
theorem name_calls (s : ByteArray) (w : World) (h : BufAt 5 T rest ok b bs w) (hok : ∀ k, w.heap.size ≤ k → ok k) (hs : s.size ≤ 140737488355328) (hlim : bs.length + 3 * s.size + 1 ≤ 140737488355328) :
    Calls Tryd.prog 31 #[.pointer (some ⟨b, 0, none⟩), .string s] w fun e w' => e = .returned (.tuple #[]) ∧ BufAt 5 T rest ok b (bs ++ nameL s.data.toList) w' ∧ Fr ok w w' := by
  have hcv := fun W : World => Lib.run_convert_string_bytes (P := Tryd.prog) W 9 24 5 s Tryd.underlying9 Tryd.underlying24 Tryd.underlying5
  go_enter Tryd.func31, Tryd.ntmps31
  go_wp2_with (go_at_call 33; refine (writeByte_any (T := T) (rest := rest) (ok := ok) (bs := bs) 47 _ ?_ ?_ ?_).mono ?_)
  · exact h
  · exact hok
  · omega
  rintro e W1 ⟨rfl, h1, f1⟩
  have H1 := Lib.hid h1
  have F1 := Lib.hid f1
  clear h1 f1
  go_wp2
  have hsz : (Lib.bytesWorld W1 5 s).heap.size = W1.heap.size + 1 := Lib.bytesWorld_size _ _ _
  obtain ⟨r, hr⟩ : ∃ r, r = W1.heap.size := ⟨_, rfl⟩
  have hb0 : BufAt 5 T rest (but ok r) b (bs ++ [47]) (Lib.bytesWorld W1 5 s) := by
    refine BufAt.below (w := W1) (BufAt.imp H1.out fun k hk ho => ⟨ho, by omega⟩) ?_
    exact bytesWorld_below' _ _ _
  have hc0 : ∀ j, j < s.size → (Lib.bytesWorld W1 5 s).cell? ⟨r, j, none⟩ = some (.int .u8 (s.data.toList.getD j 0).toNat) := fun j hj => by rw [hr]; exact Lib.bytesWorld_cell _ _ _ _ hj
  have h12 : Fr ok W1 (Lib.bytesWorld W1 5 s) := Fr.of_below ok (bytesWorld_below' _ _ _)
  rw [← hr]
  generalize Lib.bytesWorld W1 5 s = W2 at hb0 hc0 hsz h12 ⊢
  have hrl : r < W2.heap.size := by omega
  have HC := Lib.hid hc0
  have HB := Lib.hid hb0
  have HR := Lib.hid hr
  have H12 := Lib.hid h12
  have hok2 : ∀ k, W2.heap.size ≤ k → but ok r k := fun k hk => ⟨hok k (by have := Fr.size F1.out; omega), by omega⟩
  have HO := Lib.hid hok2
  clear hb0 hc0 hsz hr hok2 h12
  go_loopw [5, 11] (fun _ v wr => ∃ k : Nat, k ≤ s.size ∧ v = .int .i64 k ∧ Hid (BufAt 5 T rest (but ok r) b (bs ++ [47] ++ (s.data.toList.take k).flatMap nameByte) wr) ∧ Hid (Fr (but ok r) W2 wr)) (fun _ v _ => s.size - (intOf v).toNat)
  case atStart => exact ⟨0, Nat.zero_le _, rfl, by simpa using HB, Fr.refl _ _⟩
  case round =>
    obtain ⟨k, hk, rfl, hB, hF⟩ := hrel
    by_cases hlt : k < s.size
    · have hcell : wr.cell? ⟨r, k, none⟩ = some (.int .u8 (s.data.toList.getD k 0).toNat) := (Fr.cell (p := ⟨r, k, none⟩) (Hid.out hF) hrl (fun h => h.2 rfl)).trans (HC.out k hlt)
      have hkl : k < s.data.toList.length := by rw [size_data]; exact hlt
      have hgd : s.data.toList.getD k 0 = s.data.toList[k] := by rw [List.getD_eq_getElem?_getD, List.getElem?_eq_getElem hkl]; rfl
      have hstep := flat_take nameByte s.data.toList k hkl
      have hlen := flat_take_le nameByte 3 nameByte_le s.data.toList k (by rw [size_data]; omega)
      rw [hgd] at hcell
      generalize s.data.toList[k] = c at hcell hstep
      have HS := Lib.hid hstep
      clear hstep hgd hkl
      have hcl : c.toNat < 256 := c.toNat_lt
      have hand : Go.bits .and .u8 (c.toNat : Int) 15 = (c.toNat : Int) % 16 := u8_and15 (x := (c.toNat : Int)) (by omega) (by omega)
      have k1 : (c.toNat : Int) / 16 < 16 := by omega
      have k2 : 0 ≤ (c.toNat : Int) / 16 := by omega
      have k3 : (c.toNat : Int) % 16 < 16 := by omega
      have k4 : 0 ≤ (c.toNat : Int) % 16 := by omega
      go_wp2_with (go_at_call 52; refine (indexByte_any _ _ _).mono ?_; rintro e w' ⟨rfl, rfl⟩)
      rotate_left
      · have he : escN c = false := by
          rw [Bool.eq_false_iff]
          simp only [escN, ne_eq, Bool.or_eq_true, decide_eq_true_eq]
          omega
        refine (writeByte_any (T := T) (rest := rest) (ok := but ok r) (bs := bs ++ [47] ++ (s.data.toList.take k).flatMap nameByte) c wr (Hid.out hB) (fun q hq => HO.out q (by have := Fr.size (Hid.out hF); omega)) (by simp only [List.length_append, List.length_cons, List.length_nil]; omega)).mono ?_
        rintro e w4 ⟨rfl, h4, f4⟩
        have hfin : BufAt 5 T rest (but ok r) b (bs ++ [47] ++ (s.data.toList.take (k + 1)).flatMap nameByte) w4 := by
          rw [HS.out, nameByte, he, ← List.append_assoc]; exact h4
        have HN := Lib.hid hfin
        have HM := Lib.hid (Fr.trans (Hid.out hF) f4)
        clear h4 f4 hfin hcell hand k1 k2 k3 k4 he
        go_wp2
        go_roundw
        case rel => exact ⟨k + 1, by omega, by go_num, HN, HM⟩
        case measure => simp [intOf]; omega
      all_goals (
        have he : escN c = true := by
          simp only [escN, Bool.or_eq_true, decide_eq_true_eq]
          omega
        go_region_with (
          go_at_call 35
          go_loud (refine (write_any (T := T) (rest := rest) (ok := but ok r) (bs := bs ++ [47] ++ (s.data.toList.take k).flatMap nameByte) [35, hexAt (c.toNat / 16) (by omega), hexAt (c.toNat % 16) (by omega)] ⟨wr.heap.size, 0, none⟩ 3 _ ?_ ?_ ?_ ?_ (Nat.succ_pos _) ?_).mono ?_)
          · exact BufAt.drew (BufAt.alloc (Hid.out hB) _)
          · intro q hq; exact HO.out q (by have := Fr.size (Hid.out hF); simp at hq; omega)
          · show wr.heap.size ≠ b
            have := BufAt.lt (Hid.out hB); omega
          · intro j v hj
            exact Lib.cells_of_row (heap_alloc_new wr _) 3 j v hj
          · simp only [List.length_append, List.length_cons, List.length_nil]; omega
          rintro e w4 ⟨rfl, h4, f4⟩
          have H4 := Lib.hid h4
          have F4 := Lib.hid f4
          clear h4 f4 hcell)
        all_goals (
          go_wp2
          go_roundw
          case rel => exact ⟨k + 1, by omega, by go_num, (by rw [HS.out, nameByte_esc c he (by omega) (by omega), ← List.append_assoc]; exact H4), Lib.hid (Fr.trans ((Fr.alloc (Hid.out hF) _).drew) F4.out)⟩
          case measure => simp [intOf]; omega))
    · obtain rfl : k = s.size := by omega
      go_wp2
      go_end0
      refine ⟨rfl, ?_, ?_⟩
      · have h2 := BufAt.imp (ok' := ok) (Hid.out hB) fun q _ h => h.1
        rw [← size_data, List.take_length, List.append_assoc] at h2
        exact h2
      · exact (Fr.trans F1.out H12.out).trans (Fr.mono (Hid.out hF) fun q _ h => h.1)
end Go.Proofs.YtkcdckcckpgliaaDoor
