/- pobj.distinct as the machine runs it. -/
import Derived.Test.YtkcdckcckpgliaaDoorSnd
namespace Go.Proofs.YtkcdckcckpgliaaDoor
open Go.RowKit Go.Shelf

theorem distinct_step : ∀ (pre r : List ByteArray) (k : ByteArray), distinctB pre (k :: r) = (namedB k && !Lib.containsS pre k && distinctB (pre ++ [k]) r) := fun _ _ _ => rfl

set_option maxHeartbeats 3200000 in
set_option maxRecDepth 100000 in
theorem distinct_calls (ks : List ByteArray) (A : Option Addr) (c : Nat) (w : World) (h : StrsAt w A ks) (hc : ks.length ≤ c) (hm : c ≤ 140737488355328) :
    Calls Tryd.prog 42 #[.slice A ks.length c] w fun e w' => e = .returned (.bool (distinctB [] ks)) ∧ w = w' := by
  have HS := Lib.hid h
  clear h
  generalize hr : distinctB [] ks = r
  have HR := Lib.hid hr
  clear hr
  go_enter Tryd.func42, Tryd.ntmps42
  go_wp2_with fail
  go_loop [7] (fun v => ∃ i : Nat, i ≤ ks.length ∧ v = .int .i64 i ∧ Hid (distinctB (ks.take i) (ks.drop i) = r)) (fun v => ks.length - (intOf v).toNat)
  case atStart => exact ⟨0, Nat.zero_le _, rfl, by simpa using HR⟩
  case round =>
    obtain ⟨i, hi, rfl, hD⟩ := hrel
    by_cases hlt : i < ks.length
    · obtain ⟨b, off, hA, hcell⟩ := StrsAt.elem HS.out i hlt
      have hcells : ∀ j, j < ks.length → w.cell? ⟨b, off + j, none⟩ = some (.string (ks.getD j ByteArray.empty)) := by
        intro j hj
        obtain ⟨b', off', hA', hc'⟩ := StrsAt.elem HS.out j hj
        rw [hA] at hA'
        cases hA'
        rw [hc', List.getD_eq_getElem?_getD, List.getElem?_eq_getElem hj]
        rfl
      have HCS := Lib.hid hcells
      subst hA
      have hd : ks.drop i = ks[i] :: ks.drop (i + 1) := List.drop_eq_getElem_cons hlt
      have ht : ks.take (i + 1) = ks.take i ++ [ks[i]] := by rw [List.take_add_one, List.getElem?_eq_getElem hlt]; rfl
      have hst : distinctB (ks.take i) (ks.drop i) = (namedB ks[i] && !Lib.containsS (ks.take i) ks[i] && distinctB (ks.take (i + 1)) (ks.drop (i + 1))) := by rw [hd, distinct_step, ht]
      have HST := Lib.hid hst
      clear hd ht hst hcells
      generalize ks[i] = k at hcell HST
      by_cases hn : namedB k = true
      · have hct : ∀ W, W = w → Calls Tryd.prog 43 #[.slice (some ⟨b, off, none⟩) i c, .string k] W fun e w' => e = .returned (.bool (Lib.containsS (ks.take i) k)) ∧ w = w' := by
          rintro W rfl
          exact (Tryd.slices_Contains_string b off i c ks k W (by omega) (by omega) HCS.out).mono fun _ _ ⟨h1, h2⟩ => ⟨h1, h2.symm⟩
        by_cases hk : Lib.containsS (ks.take i) k = true
        · have hfin : r = false := by rw [← hD.out, HST.out, hn, hk]; rfl
          have HF := Lib.hid hfin
          clear hfin
          go_wp2_with (first | (go_at_call 40; refine (named_calls _ _).mono ?_; rintro e w' ⟨rfl, rfl⟩) | (go_at_call 43; refine (hct _ rfl).mono ?_; rintro e w' ⟨rfl, rfl⟩))
          go_ret
          exact ⟨ret_bool HF.out.symm, rfl⟩
        · have hk' : Lib.containsS (ks.take i) k = false := by simpa using hk
          have hfin : distinctB (ks.take (i + 1)) (ks.drop (i + 1)) = r := by rw [← hD.out, HST.out, hn, hk']; rfl
          have HF := Lib.hid hfin
          clear hfin hk
          go_wp2_with (first | (go_at_call 40; refine (named_calls _ _).mono ?_; rintro e w' ⟨rfl, rfl⟩) | (go_at_call 43; refine (hct _ rfl).mono ?_; rintro e w' ⟨rfl, rfl⟩))
          go_round
          case rel => exact ⟨i + 1, by omega, by go_num, HF⟩
          case measure => simp [intOf]; omega
      · have hn' : namedB k = false := by simpa using hn
        have hfin : r = false := by rw [← hD.out, HST.out, hn']; rfl
        have HF := Lib.hid hfin
        clear hfin hn
        go_wp2_with (go_at_call 40; refine (named_calls _ _).mono ?_; rintro e w' ⟨rfl, rfl⟩)
        go_ret
        exact ⟨ret_bool HF.out.symm, rfl⟩
    · obtain rfl : i = ks.length := by omega
      have hfin : r = true := by rw [← hD.out, List.drop_of_length_le (Nat.le_refl _)]; rfl
      have HF := Lib.hid hfin
      clear hfin
      go_wp2_with fail
      go_ret
      exact ⟨ret_bool HF.out.symm, rfl⟩
end Go.Proofs.YtkcdckcckpgliaaDoor
