/- The reference's strings as bytes: Text. -/
import Derived.Test.YtkcdckcckpgliaaDoorPr2
import Derived.Laws.AppendOwn
namespace Go.Proofs.YtkcdckcckpgliaaDoor
open Go.RowKit Go.Shelf

/-- What a slice of bytes of one's own holds, as a string. -/
theorem owns_string {w : World} {B n : Nat} {v : Value} {l : List UInt8} (h : w.ownsRow B 5 1 v n (Lib.byteCells l)) (hn : n = l.length) (h0 : 0 < n) :
    ∃ g c, v = .slice (some ⟨g, 0, none⟩) l.length c ∧ (convert 24 9 (.slice (some ⟨g, 0, none⟩) l.length c)).run Tryd.prog w = .ok (.string (asStr l)) w := by
  subst hn
  rcases h.2 with ⟨_, h1⟩ | ⟨g, cap, cur, rfl, _, hg, _, _, _, _⟩
  · omega
  refine ⟨g, cap, rfl, run_convert_bytes_back w 24 9 5 _ cap l Tryd.underlying24 Tryd.underlying5 Tryd.underlying9 fun j hj => ?_⟩
  refine h.cells rfl j _ ?_
  simp [Lib.byteCells, hj]
theorem byteCells_app (a b : List UInt8) : Lib.byteCells a ++ Lib.byteCells b = Lib.byteCells (a ++ b) := by simp [Lib.byteCells]
theorem byteCells_one (l : List UInt8) : ∀ u ∈ Lib.byteCells l, u.oneCell' = true := fun u hu => by
  simp only [Lib.byteCells, List.mem_map] at hu
  obtain ⟨x, -, rfl⟩ := hu
  rfl
/-- A slice written out, on top. -/
theorem owns_fresh (w : World) (B : Nat) (hB : B ≤ w.heap.size) (c : UInt8) (x : Int) (hx : x = c.toNat) :
    (w.alloc (.cells #[.int .u8 x] 5)).ownsRow B 5 1 (.slice (some ⟨w.heap.size, 0, none⟩) 1 1) 1 (Lib.byteCells [c]) := by
  subst hx
  exact ⟨rfl, .inr ⟨w.heap.size, 1, _, rfl, hB, heap_alloc_new w _, Nat.le_refl _, by decide, rfl, rfl⟩⟩
theorem oneCells (l : List Value) (h : l.all (fun u => u.oneCell') = true) : ∀ u ∈ l, u.oneCell' = true := fun u hu => List.all_eq_true.1 h u hu
theorem text_cells (w : World) (cs : Array Value) (T : TypeId) (l : List Value) (h : l = cs.toList) : ∀ j u, l[j]? = some u → (w.alloc (.cells cs T)).cell? ((⟨w.heap.size, 0, none⟩ : Addr).add j) = some u := fun j u hu => by
  subst h
  rw [Addr.add_lit, Nat.zero_add, Lib.cell_of_heap (heap_alloc_new w _)]
  simpa using hu

set_option maxHeartbeats 3200000 in
set_option maxRecDepth 100000 in
theorem rText_calls (s : ByteArray) (w : World) (hs : s.size ≤ 17592186044416) :
    Calls Tryd.prog 23 #[.string s] w fun e w' => e = .returned (.string (asStr (textL s.data.toList))) ∧ Below w.heap.size w w' := by
  obtain ⟨i0, hi, hz0, hz1, hz2⟩ := info_parts infoU8b
  have H0 := Lib.hid (owns_fresh w w.heap.size (Nat.le_refl _) 40 40 rfl)
  have HB := Lib.hid (below_alloc w (.cells #[.int .u8 40] 5))
  have HA : Hid (([40] : List UInt8) = 40 :: (s.data.toList.take 0).flatMap textByte) := rfl
  go_enter Tryd.func23, Tryd.ntmps23
  go_wp2_with fail
  go_loopw [3, 4] (fun v i wr => ∃ (k : Nat) (acc : List UInt8), k ≤ s.size ∧ i = .int .i64 k ∧ Hid (wr.ownsRow w.heap.size 5 1 v acc.length (Lib.byteCells acc)) ∧ Hid (acc = 40 :: (s.data.toList.take k).flatMap textByte) ∧ Hid (Below w.heap.size w wr)) (fun _ i _ => s.size - (intOf i).toNat)
  case atStart => exact ⟨0, [40], Nat.zero_le _, rfl, H0, HA, HB⟩
  case round =>
    clear H0 HB HA
    obtain ⟨k, acc, hk, rfl, hown, hacc, hW⟩ := hrel
    have hal : acc.length ≤ 4 * k + 1 := by
      rw [hacc.out, List.length_cons]
      have := flat_take_le textByte 4 textByte_le s.data.toList k (by rw [size_data]; omega)
      omega
    have HC3 : Hid (∀ m, m ≤ 4 → acc.length + m ≤ maxLen) := fun m hm => by unfold maxLen; omega
    have HC4 : Hid (∀ m, m ≤ 4 → (acc.length + m) * 1 ≤ 140737488355328) := fun m hm => by omega
    have HC5 : Hid (∀ X, w.heap.size ≤ (wr.alloc X).heap.size) := fun X => by have := hW.out.size; simp; omega
    by_cases hlt : k < s.size
    · have hkl : k < s.data.toList.length := by rw [size_data]; exact hlt
      have hstep := flat_take textByte s.data.toList k hkl
      obtain ⟨c, hc⟩ : ∃ c, c = s.data.toList[k] := ⟨_, rfl⟩
      rw [← hc] at hstep
      have hb2 : (s[k]'hlt) = c := by rw [hc]; rfl
      have HS := Lib.hid hstep
      clear hstep hc
      have hcl : c.toNat < 256 := c.toNat_lt
      have hcs : c = 40 ∨ c = 41 ∨ c = 92 ∨ (c.toNat ≠ 40 ∧ c.toNat ≠ 41 ∧ c.toNat ≠ 92) := by
        by_cases h1 : c.toNat = 40
        · exact .inl (UInt8.toNat.inj h1)
        by_cases h2 : c.toNat = 41
        · exact .inr (.inl (UInt8.toNat.inj h2))
        by_cases h3 : c.toNat = 92
        · exact .inr (.inr (.inl (UInt8.toNat.inj h3)))
        exact .inr (.inr (.inr ⟨h1, h2, h3⟩))
      rcases hcs with rfl | rfl | rfl | ⟨n1, n2, n3⟩
      · go_wp2_with (at_builtin; refine wpList_append_own _ rfl _ _ 24 rfl w.heap.size 5 i0 (.int .u8 0) 1 1 Tryd.underlying24 hi hz0 hz1 hz2 rfl (by decide) _ _ _ rfl (hown.out.alloc _) ⟨wr.heap.size, 0, none⟩ 2 2 [.int .u8 92, .int .u8 40] rfl rfl (text_cells wr _ _ _ rfl) (oneCells _ rfl) (HC3.out 2 (by decide)) (HC4.out 2 (by decide)) (HC5.out _) ?_)
        intro v' w2 hown' hgrow _
        have hnew : Hid (w2.ownsRow w.heap.size 5 1 v' (acc ++ [92, 40]).length (Lib.byteCells (acc ++ [92, 40]))) := by
          show World.ownsRow _ _ _ _ _ _ _
          rw [← byteCells_app, List.length_append]
          exact hown'
        have hW2 : Hid (Below w.heap.size w w2) := (hW.out.alloc hW.out.size _).grown hgrow (by have := hW.out.size; simp; omega) (fun q hq => (hown.out.lt q hq).1)
        have hacc2 : Hid (acc ++ [92, 40] = 40 :: (s.data.toList.take (k + 1)).flatMap textByte) := by
          show _ = _
          rw [HS.out, hacc.out, show textByte 40 = [92, 40] from by decide]
          rfl
        clear hown' hgrow hown hacc hW
        go_wp2_with fail
        go_roundw
        case rel => exact ⟨k + 1, acc ++ [92, 40], by omega, by go_num, hnew, hacc2, hW2⟩
        case measure => simp [intOf]; omega
      · go_wp2_with (at_builtin; refine wpList_append_own _ rfl _ _ 24 rfl w.heap.size 5 i0 (.int .u8 0) 1 1 Tryd.underlying24 hi hz0 hz1 hz2 rfl (by decide) _ _ _ rfl (hown.out.alloc _) ⟨wr.heap.size, 0, none⟩ 2 2 [.int .u8 92, .int .u8 41] rfl rfl (text_cells wr _ _ _ rfl) (oneCells _ rfl) (HC3.out 2 (by decide)) (HC4.out 2 (by decide)) (HC5.out _) ?_)
        intro v' w2 hown' hgrow _
        have hnew : Hid (w2.ownsRow w.heap.size 5 1 v' (acc ++ [92, 41]).length (Lib.byteCells (acc ++ [92, 41]))) := by
          show World.ownsRow _ _ _ _ _ _ _
          rw [← byteCells_app, List.length_append]
          exact hown'
        have hW2 : Hid (Below w.heap.size w w2) := (hW.out.alloc hW.out.size _).grown hgrow (by have := hW.out.size; simp; omega) (fun q hq => (hown.out.lt q hq).1)
        have hacc2 : Hid (acc ++ [92, 41] = 40 :: (s.data.toList.take (k + 1)).flatMap textByte) := by
          show _ = _
          rw [HS.out, hacc.out, show textByte 41 = [92, 41] from by decide]
          rfl
        clear hown' hgrow hown hacc hW
        go_wp2_with fail
        go_roundw
        case rel => exact ⟨k + 1, acc ++ [92, 41], by omega, by go_num, hnew, hacc2, hW2⟩
        case measure => simp [intOf]; omega
      · go_wp2_with (at_builtin; refine wpList_append_own _ rfl _ _ 24 rfl w.heap.size 5 i0 (.int .u8 0) 1 1 Tryd.underlying24 hi hz0 hz1 hz2 rfl (by decide) _ _ _ rfl (hown.out.alloc _) ⟨wr.heap.size, 0, none⟩ 2 2 [.int .u8 92, .int .u8 92] rfl rfl (text_cells wr _ _ _ rfl) (oneCells _ rfl) (HC3.out 2 (by decide)) (HC4.out 2 (by decide)) (HC5.out _) ?_)
        intro v' w2 hown' hgrow _
        have hnew : Hid (w2.ownsRow w.heap.size 5 1 v' (acc ++ [92, 92]).length (Lib.byteCells (acc ++ [92, 92]))) := by
          show World.ownsRow _ _ _ _ _ _ _
          rw [← byteCells_app, List.length_append]
          exact hown'
        have hW2 : Hid (Below w.heap.size w w2) := (hW.out.alloc hW.out.size _).grown hgrow (by have := hW.out.size; simp; omega) (fun q hq => (hown.out.lt q hq).1)
        have hacc2 : Hid (acc ++ [92, 92] = 40 :: (s.data.toList.take (k + 1)).flatMap textByte) := by
          show _ = _
          rw [HS.out, hacc.out, show textByte 92 = [92, 92] from by decide]
          rfl
        clear hown' hgrow hown hacc hW
        go_wp2_with fail
        go_roundw
        case rel => exact ⟨k + 1, acc ++ [92, 92], by omega, by go_num, hnew, hacc2, hW2⟩
        case measure => simp [intOf]; omega
      have m1 : ((c.toNat : Int) == 40) = false := beq_eq_false_iff_ne.2 (by omega)
      have m2 : ((c.toNat : Int) == 41) = false := beq_eq_false_iff_ne.2 (by omega)
      have m3 : ((c.toNat : Int) == 92) = false := beq_eq_false_iff_ne.2 (by omega)
      have he : escT c = false := by
        rw [Bool.eq_false_iff]
        simp only [escT, ne_eq, Bool.or_eq_true, decide_eq_true_eq]
        omega
      have HEsc := Lib.hid he
      clear he
      by_cases h32 : c.toNat < 32 ∨ 126 < c.toNat
      · have hoc := octal_cells c
        have HO := Lib.hid (textByte_octal c HEsc.out h32)
        obtain ⟨news, hnews⟩ : ∃ news, news = [92, UInt8.ofNat (48 + c.toNat / 64), UInt8.ofNat (48 + c.toNat / 8 % 8), UInt8.ofNat (48 + c.toNat % 8)] := ⟨_, rfl⟩
        have hnl : news.length = 4 := by rw [hnews]; rfl
        rw [← hnews] at hoc HO
        have HOC := Lib.hid hoc
        have HNL := Lib.hid hnl
        clear hoc hnews hnl
        by_cases h33 : c.toNat < 32
        · have hlt32 : (c.toNat : Int) < 32 := by omega
          go_wp2_with (at_builtin; refine wpList_append_own _ rfl _ _ 24 rfl w.heap.size 5 i0 (.int .u8 0) 1 1 Tryd.underlying24 hi hz0 hz1 hz2 rfl (by decide) _ _ _ rfl (hown.out.alloc _) ⟨wr.heap.size, 0, none⟩ 4 4 [.int .u8 92, .int .u8 (48 + (c.toNat : Int) / 64), .int .u8 (48 + (c.toNat : Int) / 8 % 8), .int .u8 (48 + (c.toNat : Int) % 8)] rfl rfl (text_cells wr _ _ _ rfl) (oneCells _ rfl) (HC3.out 4 (by decide)) (HC4.out 4 (by decide)) (HC5.out _) ?_)
          intro v' w2 hown' hgrow _
          have hnew : Hid (w2.ownsRow w.heap.size 5 1 v' (acc ++ news).length (Lib.byteCells (acc ++ news))) := by
            show World.ownsRow _ _ _ _ _ _ _
            rw [← byteCells_app, List.length_append]
            exact HNL.out ▸ HOC.out ▸ hown'
          have hW2 : Hid (Below w.heap.size w w2) := (hW.out.alloc hW.out.size _).grown hgrow (by have := hW.out.size; simp; omega) (fun q hq => (hown.out.lt q hq).1)
          have hacc2 : Hid (acc ++ news = 40 :: (s.data.toList.take (k + 1)).flatMap textByte) := by
            show _ = _
            rw [HS.out, hacc.out, HO.out]
            rfl
          clear hown' hgrow hown hacc hW
          go_wp2_with fail
          go_roundw
          case rel => exact ⟨k + 1, acc ++ news, by omega, by go_num, hnew, hacc2, hW2⟩
          case measure => simp [intOf]; omega
        · have hlt32 : ¬ (c.toNat : Int) < 32 := by omega
          have hlt126 : 126 < (c.toNat : Int) := by omega
          go_wp2_with (at_builtin; refine wpList_append_own _ rfl _ _ 24 rfl w.heap.size 5 i0 (.int .u8 0) 1 1 Tryd.underlying24 hi hz0 hz1 hz2 rfl (by decide) _ _ _ rfl (hown.out.alloc _) ⟨wr.heap.size, 0, none⟩ 4 4 [.int .u8 92, .int .u8 (48 + (c.toNat : Int) / 64), .int .u8 (48 + (c.toNat : Int) / 8 % 8), .int .u8 (48 + (c.toNat : Int) % 8)] rfl rfl (text_cells wr _ _ _ rfl) (oneCells _ rfl) (HC3.out 4 (by decide)) (HC4.out 4 (by decide)) (HC5.out _) ?_)
          intro v' w2 hown' hgrow _
          have hnew : Hid (w2.ownsRow w.heap.size 5 1 v' (acc ++ news).length (Lib.byteCells (acc ++ news))) := by
            show World.ownsRow _ _ _ _ _ _ _
            rw [← byteCells_app, List.length_append]
            exact HNL.out ▸ HOC.out ▸ hown'
          have hW2 : Hid (Below w.heap.size w w2) := (hW.out.alloc hW.out.size _).grown hgrow (by have := hW.out.size; simp; omega) (fun q hq => (hown.out.lt q hq).1)
          have hacc2 : Hid (acc ++ news = 40 :: (s.data.toList.take (k + 1)).flatMap textByte) := by
            show _ = _
            rw [HS.out, hacc.out, HO.out]
            rfl
          clear hown' hgrow hown hacc hW
          go_wp2_with fail
          go_roundw
          case rel => exact ⟨k + 1, acc ++ news, by omega, by go_num, hnew, hacc2, hW2⟩
          case measure => simp [intOf]; omega
      · have hlt32 : ¬ (c.toNat : Int) < 32 := by omega
        have hlt126 : ¬ 126 < (c.toNat : Int) := by omega
        have HP := Lib.hid (textByte_plain c HEsc.out (by omega) (by omega))
        go_wp2_with (at_builtin; refine wpList_append_own _ rfl _ _ 24 rfl w.heap.size 5 i0 (.int .u8 0) 1 1 Tryd.underlying24 hi hz0 hz1 hz2 rfl (by decide) _ _ _ rfl (hown.out.alloc _) ⟨wr.heap.size, 0, none⟩ 1 1 [.int .u8 (c.toNat : Int)] rfl rfl (text_cells wr _ _ _ rfl) (oneCells _ rfl) (HC3.out 1 (by decide)) (HC4.out 1 (by decide)) (HC5.out _) ?_)
        intro v' w2 hown' hgrow _
        have hnew : Hid (w2.ownsRow w.heap.size 5 1 v' (acc ++ [c]).length (Lib.byteCells (acc ++ [c]))) := by
          show World.ownsRow _ _ _ _ _ _ _
          rw [← byteCells_app, List.length_append]
          exact hown'
        have hW2 : Hid (Below w.heap.size w w2) := (hW.out.alloc hW.out.size _).grown hgrow (by have := hW.out.size; simp; omega) (fun q hq => (hown.out.lt q hq).1)
        have hacc2 : Hid (acc ++ [c] = 40 :: (s.data.toList.take (k + 1)).flatMap textByte) := by
          show _ = _
          rw [HS.out, hacc.out, HP.out]
          rfl
        clear hown' hgrow hown hacc hW
        go_wp2_with fail
        go_roundw
        case rel => exact ⟨k + 1, acc ++ [c], by omega, by go_num, hnew, hacc2, hW2⟩
        case measure => simp [intOf]; omega
    · obtain rfl : k = s.size := by omega
      have hF : Hid (acc ++ [41] = textL s.data.toList) := by
        show _ = _
        rw [hacc.out, ← size_data, List.take_length]
        rfl
      go_wp2_with (at_builtin; refine wpList_append_own _ rfl _ _ 24 rfl w.heap.size 5 i0 (.int .u8 0) 1 1 Tryd.underlying24 hi hz0 hz1 hz2 rfl (by decide) _ _ _ rfl (hown.out.alloc _) ⟨wr.heap.size, 0, none⟩ 1 1 [.int .u8 41] rfl rfl (text_cells wr _ _ _ rfl) (oneCells _ rfl) (HC3.out 1 (by decide)) (HC4.out 1 (by decide)) (HC5.out _) ?_)
      intro v' w2 hown' hgrow _
      have hnew : w2.ownsRow w.heap.size 5 1 v' (acc ++ [41]).length (Lib.byteCells (acc ++ [41])) := by
        rw [← byteCells_app, List.length_append]
        exact hown'
      have hW2 : Hid (Below w.heap.size w w2) := (hW.out.alloc hW.out.size _).grown hgrow (by have := hW.out.size; simp; omega) (fun q hq => (hown.out.lt q hq).1)
      obtain ⟨g, c, rfl, hcv⟩ := owns_string hnew rfl (by simp)
      have hl : (acc ++ [41]).length = acc.length + 1 := by simp
      rw [hl] at hcv ⊢
      clear hown' hgrow hown hacc hW hnew hl
      go_wp2_with fail
      go_ret
      exact ⟨ret_str (by rw [hF.out]), hW2.out⟩
end Go.Proofs.YtkcdckcckpgliaaDoor
