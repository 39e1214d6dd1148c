/-
  Lemmas, in their order: The writer's items as the machine writes them. · The stream's beginning as the machine makes it: start. · Which pages are sound: a plain function. · The writer's beginning, and what a sound item bears. · DERIVED: THE SHELF's CONTRACTS AT THIS DUMP, IN PLAIN WORDS (tools/lay-plain.mjs out of 'TryzShelf.lean', which tools/lay-shelf.mjs wrote):  · The stream as the machine makes it: Content. · The fonts put into their order. · Buffer.Bytes with its slice known ahead of the call. · The stream as the machine makes it: Content of a sound page. · Soundness of a page: its sides. · Soundness of a page: no pen. · Soundness of a path: how many points a segment has, what it follows. · Soundness of a path: which points do not fit. · ContainsFunc over rows.
-/
import Derived.Deep.MidRow
import Derived.Laws.Rows
import Derived.Shelf.Sort.Plain
import Derived.Shelf.Slices.In.SortNone
import Derived.Test.YtdkgfgmmmjpkgaaGreatDoorProg
import Derived.OwnWalk
import Derived.Deep.WholeRow
import Derived.Test.YtdkgfgmmmjpkgaaGreatDoorM5

namespace Go.Proofs.YtdkgfgmmmjpkgaaGreatDoor
open Go.RowKit Go.Shelf

theorem colB_le (c : ColP) (big : Bool) : (colB c big).length ≤ 110 := by
  have h1 := lineB_le (colParts c) (if c.sp == 3 then (if big then [82, 71] else [114, 103]) else if c.sp == 4 then (if big then [75] else [107]) else (if big then [71] else [103]))
  have h2 : (colParts c).length ≤ 4 := by rw [colParts, List.length_take]; exact Nat.min_le_right _ _
  have h3 : (if c.sp == 3 then (if big then [82, 71] else [114, 103]) else if c.sp == 4 then (if big then [75] else [107]) else (if big then [71] else [103] : List UInt8)).length ≤ 2 := by
    repeat' split
    all_goals simp
  rw [colB]
  omega
theorem penB_le (o p : PenP) (hp : (0 ≤ p.cap ∧ p.cap ≤ 2) ∧ 0 ≤ p.join ∧ p.join ≤ 2) : (penB o p).length ≤ 25 * p.dash.length + 300 := by
  have h1 := lineB_le [p.wd] [119]
  have h2 := digB_le p.cap 74 hp.1
  have h3 := digB_le p.join 106 hp.2
  have h4 := lineB_le [p.miter] [77]
  have h5 := dashB_le p
  simp only [List.length_cons, List.length_nil] at h1 h4
  rw [penB]
  simp only [List.length_append]
  repeat' split
  all_goals (try simp only [List.length_nil]) <;> omega
theorem boundB_le (st : StP) (new : List ClipP) : (boundB st new).length ≤ clipsLen new + 4 := by
  have h1 := clipsB_le (new.drop (boundN st new))
  have h2 := clipsLen_drop new (boundN st new)
  rw [boundB]
  simp only [List.length_append]
  repeat' split
  all_goals (try simp only [List.length_nil, List.length_cons]) <;> omega

theorem DrAt.box {T : TypeId} {w0 w : World} {ok : Nat → Prop} {b : Nat} {bs : List UInt8} {st : StP} {fs : List Int} (h : DrAt T w0 ok b bs st fs w) (o : Obj) : DrAt T w0 (but ok w.heap.size) b bs st fs (w.alloc o) := by
  obtain ⟨Ad, cd, Ao, co, Ac, cc, vf, hB, hD, hC, hf, hfo⟩ := h
  refine ⟨Ad, cd, Ao, co, Ac, cc, vf, (hB.imp fun q hq ho => ⟨⟨ho.1, by omega⟩, ho.2⟩).alloc o, hD, hC, owns_keep hf fun q hq => Lib.alloc_old _ _ q (hf.lt q hq).2, fun k hk => ⟨hfo k hk, by have := (hf.lt k hk).2; omega⟩⟩
theorem DrAt.unbox {T : TypeId} {w0 w : World} {ok : Nat → Prop} {b r : Nat} {bs : List UInt8} {st : StP} {fs : List Int} (h : DrAt T w0 (but ok r) b bs st fs w) : DrAt T w0 ok b bs st fs w := by
  obtain ⟨Ad, cd, Ao, co, Ac, cc, vf, hB, hD, hC, hf, hfo⟩ := h
  exact ⟨Ad, cd, Ao, co, Ac, cc, vf, hB.imp fun q hq ho => ⟨ho.1.1, ho.2⟩, hD, hC, hf, fun k hk => (hfo k hk).1⟩
/-- What a contract over the buffer alone says of the writer. -/
theorem DrAt.calls {T : TypeId} {w0 w : World} {ok : Nat → Prop} {b : Nat} {bs bs' : List UInt8} {st : StP} {fs : List Int} {f : FuncId} {args : Array Value} (h : DrAt T w0 ok b bs st fs w) (hok : ∀ k, w.heap.size ≤ k → ok k)
    (hc : ∀ rest ok', BufAt 5 T rest ok' b bs w → (∀ k, ok' k → ok k) → (∀ k, w.heap.size ≤ k → ok' k) → Calls Tryz.prog f args w fun e w' => e = .returned (.tuple #[]) ∧ BufAt 5 T rest ok' b bs' w' ∧ Fr ok' w w') :
    Calls Tryz.prog f args w fun e w' => e = .returned (.tuple #[]) ∧ DrAt T w0 ok b bs' st fs w' ∧ Fr ok w w' := by
  obtain ⟨Ad, cd, Ao, co, Ac, cc, vf, hB, hD, hC, hf, hfo⟩ := h
  refine (hc _ _ hB (fun k hk => hk.1) (fun k hk => ⟨hok k hk, fun he => by have := hf.lt k he.symm; omega⟩)).mono fun e w' h' => ⟨h'.1, ⟨Ad, cd, Ao, co, Ac, cc, vf, h'.2.1, hD, hC, ?_, hfo⟩, h'.2.2.mono fun q _ ho => ho.1⟩
  exact owns_keep hf fun q hq => h'.2.2.block q (hf.lt q hq).2 fun ho => ho.2 hq.symm
theorem dpath_calls {T : TypeId} {w0 w : World} {ok : Nat → Prop} {b : Nat} {bs : List UInt8} {st : StP} {fs : List Int} (l : List SegP) (A : Option Addr) (c : Nat) (h : DrAt T w0 ok b bs st fs w) (hok : ∀ k, w.heap.size ≤ k → ok k) (hA : PathAt w0 A l) (h0 : Below w0.heap.size w0 w) (hok0 : ∀ k, ok k → w0.heap.size ≤ k) (hlim : bs.length + 160 * l.length + 1000 ≤ 70368744177664) :
    Calls Tryz.prog 45 #[.pointer (some ⟨b, 0, none⟩), .slice A l.length c] w fun e w' => e = .returned (.tuple #[]) ∧ DrAt T w0 ok b (bs ++ pathB l) st fs w' ∧ Fr ok w w' :=
  h.calls hok fun _ _ hB hi hn => path_calls l A c w0 w hB hn hA h0 (fun k hk => hok0 k (hi k hk)) hlim
theorem dline_calls {T : TypeId} {w0 w : World} {ok : Nat → Prop} {b : Nat} {bs : List UInt8} {st : StP} {fs : List Int} (op : ByteArray) (hop : op.size ≤ 16) (h : DrAt T w0 ok b bs st fs w) (hok : ∀ k, w.heap.size ≤ k → ok k) (hlim : bs.length + 20 ≤ 140737488355328) :
    Calls Tryz.prog 21 #[.pointer (some ⟨b, 0, none⟩), .string op, .slice none 0 0] w fun e w' => e = .returned (.tuple #[]) ∧ DrAt T w0 ok b (bs ++ lineB [] op.data.toList) st fs w' ∧ Fr ok w w' :=
  h.calls hok fun _ _ hB hi hn => line_calls op [] none 0 w hop hB hn (.inl rfl) (fun a ha => by cases ha) hlim

set_option maxHeartbeats 6400000 in
set_option maxRecDepth 100000 in
theorem item_stroke {T : TypeId} {ok : Nat → Prop} {b : Nat} {bs : List UInt8} (it : ItemP) (v : Array Value) (w0 w : World) (st : StP) (fs : List Int) (hv : ItemRd w0 it v) (hsp : it.col.sp = 1 ∨ it.col.sp = 3 ∨ it.col.sp = 4) (hp : (0 ≤ it.pen.cap ∧ it.pen.cap ≤ 2) ∧ 0 ≤ it.pen.join ∧ it.pen.join ≤ 2) (ht : Tab w0) (h : DrAt T w0 ok b bs st fs w) (hok : ∀ k, w.heap.size ≤ k → ok k) (h0 : Below w0.heap.size w0 w) (hok0 : ∀ k, ok k → w0.heap.size ≤ k) (hlim : bs.length + clipsLen it.clips + 160 * it.path.length + 25 * it.pen.dash.length + 3000000 ≤ 70368744177664) (h3 : (it.k == 3) = true) :
    Calls Tryz.prog 19 #[.pointer (some ⟨b, 0, none⟩), .agg v] w fun e w' => e = .returned (.tuple #[]) ∧ DrAt T w0 ok b (bs ++ itemB st it) (itemSt st it) (if it.k == 4 then addFont fs it.font else fs) w' ∧ Fr ok w w' := by
  have hv0 := hv
  obtain ⟨Ap, cp, Ac, cc, Ad, cd, Ab, cb, hve, hp1, hc1, hd1, hb1⟩ := hv
  obtain ⟨X, hX⟩ : ∃ X, X = v := ⟨_, rfl⟩
  rw [← hX] at hve hv0 ⊢
  clear hX
  have HN := Lib.hid (show ∀ W : World, Fr (but ok w.heap.size) (w.alloc (.cells X 50)) W → ∀ q, W.heap.size ≤ q → but ok w.heap.size q from fun W hW q hq => by
    have h1 := hW.size
    simp only [World.size_alloc] at h1
    exact ⟨hok q (by omega), by omega⟩)
  have HK := Lib.hid (show ∀ W : World, Fr (but ok w.heap.size) (w.alloc (.cells X 50)) W → Below w0.heap.size w0 W from fun W hW => keeps (h0.trans ((below_alloc w _).mono h0.size)) hW (fun q hq => hok0 q hq.1))
  have HO := Lib.hid (show ∀ k, but ok w.heap.size k → w0.heap.size ≤ k from fun k hk => hok0 k hk.1)
  have HB := Lib.hid (bound_calls it.clips Ac cc w0 (w.alloc (.cells X 50)) st fs hc1 (h.box _) (HN.out _ (Fr.refl _ _)) (HK.out _ (Fr.refl _ _)) HO.out (by omega))
  have HEND := Lib.hid (show ∀ W, Fr (but ok w.heap.size) (w.alloc (.cells X 50)) W → Fr ok w W from fun W hW => (Fr.alloc (Fr.refl ok w) _).trans (hW.mono fun q _ ho => ho.1))
  have HX0 := Lib.hid (show ∀ W, Fr (but ok w.heap.size) (w.alloc (.cells X 50)) W → W.cell? ⟨w.heap.size, 0, none⟩ = some (.int .i64 it.k) from fun W hW => own_cell hW 0 _ (by rw [hve]; rfl))
  have HX1 := Lib.hid (show ∀ W, Fr (but ok w.heap.size) (w.alloc (.cells X 50)) W → W.cell? ⟨w.heap.size, 1, none⟩ = some (.slice Ap it.path.length cp) from fun W hW => own_cell hW 1 _ (by rw [hve]; rfl))
  have HX2 := Lib.hid (show ∀ W, Fr (but ok w.heap.size) (w.alloc (.cells X 50)) W → W.cell? ⟨w.heap.size, 2, none⟩ = some (.int .i64 it.col.sp) from fun W hW => own_cell hW 2 _ (by rw [hve]; rfl))
  have HX3 := Lib.hid (show ∀ W, Fr (but ok w.heap.size) (w.alloc (.cells X 50)) W → W.cell? ⟨w.heap.size, 3, none⟩ = some (.int .i64 it.col.p0) from fun W hW => own_cell hW 3 _ (by rw [hve]; rfl))
  have HX4 := Lib.hid (show ∀ W, Fr (but ok w.heap.size) (w.alloc (.cells X 50)) W → W.cell? ⟨w.heap.size, 4, none⟩ = some (.int .i64 it.col.p1) from fun W hW => own_cell hW 4 _ (by rw [hve]; rfl))
  have HX5 := Lib.hid (show ∀ W, Fr (but ok w.heap.size) (w.alloc (.cells X 50)) W → W.cell? ⟨w.heap.size, 5, none⟩ = some (.int .i64 it.col.p2) from fun W hW => own_cell hW 5 _ (by rw [hve]; rfl))
  have HX6 := Lib.hid (show ∀ W, Fr (but ok w.heap.size) (w.alloc (.cells X 50)) W → W.cell? ⟨w.heap.size, 6, none⟩ = some (.int .i64 it.col.p3) from fun W hW => own_cell hW 6 _ (by rw [hve]; rfl))
  have HX7 := Lib.hid (show ∀ W, Fr (but ok w.heap.size) (w.alloc (.cells X 50)) W → W.cell? ⟨w.heap.size, 7, none⟩ = some (.slice Ac it.clips.length cc) from fun W hW => own_cell hW 7 _ (by rw [hve]; rfl))
  have HX8 := Lib.hid (show ∀ W, Fr (but ok w.heap.size) (w.alloc (.cells X 50)) W → W.cell? ⟨w.heap.size, 8, none⟩ = some (.int .i64 it.pen.wd) from fun W hW => own_cell hW 8 _ (by rw [hve]; rfl))
  have HX9 := Lib.hid (show ∀ W, Fr (but ok w.heap.size) (w.alloc (.cells X 50)) W → W.cell? ⟨w.heap.size, 9, none⟩ = some (.int .i64 it.pen.cap) from fun W hW => own_cell hW 9 _ (by rw [hve]; rfl))
  have HX10 := Lib.hid (show ∀ W, Fr (but ok w.heap.size) (w.alloc (.cells X 50)) W → W.cell? ⟨w.heap.size, 10, none⟩ = some (.int .i64 it.pen.join) from fun W hW => own_cell hW 10 _ (by rw [hve]; rfl))
  have HX11 := Lib.hid (show ∀ W, Fr (but ok w.heap.size) (w.alloc (.cells X 50)) W → W.cell? ⟨w.heap.size, 11, none⟩ = some (.int .i64 it.pen.miter) from fun W hW => own_cell hW 11 _ (by rw [hve]; rfl))
  have HX12 := Lib.hid (show ∀ W, Fr (but ok w.heap.size) (w.alloc (.cells X 50)) W → W.cell? ⟨w.heap.size, 12, none⟩ = some (.slice Ad it.pen.dash.length cd) from fun W hW => own_cell hW 12 _ (by rw [hve]; rfl))
  have HX13 := Lib.hid (show ∀ W, Fr (but ok w.heap.size) (w.alloc (.cells X 50)) W → W.cell? ⟨w.heap.size, 13, none⟩ = some (.int .i64 it.pen.phase) from fun W hW => own_cell hW 13 _ (by rw [hve]; rfl))
  have HX14 := Lib.hid (show ∀ W, Fr (but ok w.heap.size) (w.alloc (.cells X 50)) W → W.cell? ⟨w.heap.size, 14, none⟩ = some (.int .i64 it.font) from fun W hW => own_cell hW 14 _ (by rw [hve]; rfl))
  have HX15 := Lib.hid (show ∀ W, Fr (but ok w.heap.size) (w.alloc (.cells X 50)) W → W.cell? ⟨w.heap.size, 15, none⟩ = some (.int .i64 it.m0) from fun W hW => own_cell hW 15 _ (by rw [hve]; rfl))
  have HX16 := Lib.hid (show ∀ W, Fr (but ok w.heap.size) (w.alloc (.cells X 50)) W → W.cell? ⟨w.heap.size, 16, none⟩ = some (.int .i64 it.m1) from fun W hW => own_cell hW 16 _ (by rw [hve]; rfl))
  have HX17 := Lib.hid (show ∀ W, Fr (but ok w.heap.size) (w.alloc (.cells X 50)) W → W.cell? ⟨w.heap.size, 17, none⟩ = some (.int .i64 it.m2) from fun W hW => own_cell hW 17 _ (by rw [hve]; rfl))
  have HX18 := Lib.hid (show ∀ W, Fr (but ok w.heap.size) (w.alloc (.cells X 50)) W → W.cell? ⟨w.heap.size, 18, none⟩ = some (.int .i64 it.m3) from fun W hW => own_cell hW 18 _ (by rw [hve]; rfl))
  have HX19 := Lib.hid (show ∀ W, Fr (but ok w.heap.size) (w.alloc (.cells X 50)) W → W.cell? ⟨w.heap.size, 19, none⟩ = some (.int .i64 it.m4) from fun W hW => own_cell hW 19 _ (by rw [hve]; rfl))
  have HX20 := Lib.hid (show ∀ W, Fr (but ok w.heap.size) (w.alloc (.cells X 50)) W → W.cell? ⟨w.heap.size, 20, none⟩ = some (.int .i64 it.m5) from fun W hW => own_cell hW 20 _ (by rw [hve]; rfl))
  have HX21 := Lib.hid (show ∀ W, Fr (but ok w.heap.size) (w.alloc (.cells X 50)) W → W.cell? ⟨w.heap.size, 21, none⟩ = some (.slice Ab it.bytes.length cb) from fun W hW => own_cell hW 21 _ (by rw [hve]; rfl))
  have HXA := Lib.hid (show ∀ W, Fr (but ok w.heap.size) (w.alloc (.cells X 50)) W → W.rangeAt w.heap.size 0 X.toList from fun W hW j v hj => by
    rw [Nat.zero_add]
    exact own_cell hW j v (by rw [← hj]; exact Array.getElem?_toList.symm))
  have HXI := Lib.hid (show (Tryz.prog.info? 50).map (·.size) = some X.toList.length from by rw [show X.toList.length = 22 from by rw [hve]; rfl]; kernel_rfl)
  have HXE := Lib.hid hve
  have HV := Lib.hid hv0
  have HT := Lib.hid ht
  have hbl := boundB_le st it.clips
  have hb1l : (bs ++ boundB st it.clips).length ≤ bs.length + clipsLen it.clips + 4 := by rw [List.length_append]; omega
  have HIB := Lib.hid (show itemB st it = boundB st it.clips ++ paintB (boundSo st it.clips) it from rfl)
  have HIS := Lib.hid (show itemSt st it = ⟨paintSo (boundSo st it.clips) it, boundOuter st it.clips, it.clips⟩ from rfl)
  generalize hy : bs ++ boundB st it.clips = y at *
  have HY := Lib.hid hy
  have hpl := pathB_le it.path
  have hcl := fun g => colB_le it.col g
  have hpb := fun q => penB_le q it.pen hp
  have HPA := Lib.hid hp1
  have HDA := Lib.hid hd1
  clear h hok h0 hok0 ht hve hv0 hy hc1 hp1 hd1 hb1 hbl
  go_enter Tryz.func19, Tryz.ntmps19
  rw [HXE.out]
  go_wp2_with fail
  rw [← HXE.out]
  refine HB.out.mono ?_
  rintro e w1 ⟨rfl, d1, f1⟩
  have D1 := Lib.hid d1
  have F1 := Lib.hid f1
  clear d1 f1 HB
  have hw1 : Hid (w.heap.size < w1.heap.size) := by
    have := F1.out.size
    simp only [World.size_alloc] at this
    show _ < _
    omega
  have y0 := (HX0.out w1 F1.out)
  have y2 := (HX2.out w1 F1.out)
  have y3 := (HX3.out w1 F1.out)
  have y4 := (HX4.out w1 F1.out)
  have y5 := (HX5.out w1 F1.out)
  have y6 := (HX6.out w1 F1.out)
  have h4 : (it.k == 4) = false := by
    have : it.k = 3 := eq_of_beq h3
    rw [this]; rfl
  have HFE := Lib.hid (show (if it.k == 4 then addFont fs it.font else fs) = fs from by rw [h4]; rfl)
  have HEB := Lib.hid (show bs ++ itemB st it = y ++ (if eqCol it.col (boundSo st it.clips).stroke then [] else colB it.col true) ++ penB (boundSo st it.clips).pen it.pen ++ pathB it.path ++ lineB [] [83] from by
    rw [HIB.out, ← HY.out, paintB, h3]
    simp only [if_true, List.append_assoc]
    rfl)
  have HES := Lib.hid (show itemSt st it = ⟨⟨(boundSo st it.clips).fill, it.col, it.pen⟩, boundOuter st it.clips, it.clips⟩ from by rw [HIS.out, paintSo, h3]; rfl)
  have hl1 : (y ++ (if eqCol it.col (boundSo st it.clips).stroke then [] else colB it.col true)).length ≤ y.length + 110 := by
    rw [List.length_append]
    have := hcl true
    split
    · simp
    · omega
  have hl2 := hpb (boundSo st it.clips).pen
  have HS1 := Lib.hid (stroked_calls it.col hsp w0 w1 (boundSt st it.clips) fs D1.out (HN.out _ F1.out) (by omega))
  clear h4 hcl hpb
  go_wp2_with fail
  refine HS1.out.mono ?_
  rintro e w2 ⟨rfl, d2, f2⟩
  have D2 : Hid (DrAt T w0 (but ok w.heap.size) b (y ++ (if eqCol it.col (boundSo st it.clips).stroke then [] else colB it.col true)) ⟨⟨(boundSo st it.clips).fill, it.col, (boundSo st it.clips).pen⟩, boundOuter st it.clips, it.clips⟩ fs w2) := d2
  have F2 := Lib.hid (F1.out.trans f2)
  clear d2 f2
  clear HS1
  have y8 := (HX8.out w2 F2.out)
  have y9 := (HX9.out w2 F2.out)
  have y10 := (HX10.out w2 F2.out)
  have y11 := (HX11.out w2 F2.out)
  have y12 := (HX12.out w2 F2.out)
  have y13 := (HX13.out w2 F2.out)
  have HS2 := Lib.hid (drawn_calls it.pen Ad cd w0 w2 _ fs hp HDA.out HT.out D2.out (HN.out _ F2.out) (HK.out _ F2.out) HO.out (by omega))
  go_wp2_with fail
  refine HS2.out.mono ?_
  rintro e w3 ⟨rfl, d3, f3⟩
  have D3 : Hid (DrAt T w0 (but ok w.heap.size) b (y ++ (if eqCol it.col (boundSo st it.clips).stroke then [] else colB it.col true) ++ penB (boundSo st it.clips).pen it.pen) ⟨⟨(boundSo st it.clips).fill, it.col, it.pen⟩, boundOuter st it.clips, it.clips⟩ fs w3) := d3
  have F3 := Lib.hid (F2.out.trans f3)
  clear d3 f3
  clear HS2
  have y1 := (HX1.out w3 F3.out)
  have HS3 := Lib.hid (dpath_calls it.path Ap cp D3.out (HN.out _ F3.out) HPA.out.1 (HK.out _ F3.out) HO.out (by rw [List.length_append]; omega))
  go_wp2_with fail
  refine HS3.out.mono ?_
  rintro e w4 ⟨rfl, d4, f4⟩
  have D4 : Hid (DrAt T w0 (but ok w.heap.size) b (y ++ (if eqCol it.col (boundSo st it.clips).stroke then [] else colB it.col true) ++ penB (boundSo st it.clips).pen it.pen ++ pathB it.path) ⟨⟨(boundSo st it.clips).fill, it.col, it.pen⟩, boundOuter st it.clips, it.clips⟩ fs w4) := d4
  have F4 := Lib.hid (F3.out.trans f4)
  clear d4 f4
  clear HS3
  have HS4 := Lib.hid (dline_calls ⟨#[83]⟩ (by decide) D4.out (HN.out _ F4.out) (by rw [List.length_append, List.length_append]; omega))
  go_wp2_with fail
  refine HS4.out.mono ?_
  rintro e w5 ⟨rfl, d5, f5⟩
  have D5 : Hid (DrAt T w0 (but ok w.heap.size) b (y ++ (if eqCol it.col (boundSo st it.clips).stroke then [] else colB it.col true) ++ penB (boundSo st it.clips).pen it.pen ++ pathB it.path ++ lineB [] [83]) ⟨⟨(boundSo st it.clips).fill, it.col, it.pen⟩, boundOuter st it.clips, it.clips⟩ fs w5) := d5
  have F5 := Lib.hid (F4.out.trans f5)
  clear d5 f5
  clear HS4
  go_wp2_with fail
  refine bodyPost_ret (results_none rfl _ _ _) rfl ?_
  refine ⟨rfl, ?_, HEND.out _ F5.out⟩
  rw [HEB.out, HES.out]
  first | rw [HFE.out] | skip
  exact D5.out.unbox

set_option maxHeartbeats 6400000 in
set_option maxRecDepth 100000 in
theorem item_text {T : TypeId} {ok : Nat → Prop} {b : Nat} {bs : List UInt8} (it : ItemP) (v : Array Value) (w0 w : World) (st : StP) (fs : List Int) (hv : ItemRd w0 it v) (hsp : it.col.sp = 1 ∨ it.col.sp = 3 ∨ it.col.sp = 4) (hp : (0 ≤ it.pen.cap ∧ it.pen.cap ≤ 2) ∧ 0 ≤ it.pen.join ∧ it.pen.join ≤ 2) (hfont : 0 ≤ it.font ∧ it.font ≤ 13) (hby : it.bytes.length ≤ 65535) (ht : Tab w0) (h : DrAt T w0 ok b bs st fs w) (hok : ∀ k, w.heap.size ≤ k → ok k) (h0 : Below w0.heap.size w0 w) (hok0 : ∀ k, ok k → w0.heap.size ≤ k) (hlim : bs.length + clipsLen it.clips + 160 * it.path.length + 25 * it.pen.dash.length + 3000000 ≤ 70368744177664) (hfl : fs.length ≤ 100000) (h3 : (it.k == 3) = false) (h4 : (it.k == 4) = true) :
    Calls Tryz.prog 19 #[.pointer (some ⟨b, 0, none⟩), .agg v] w fun e w' => e = .returned (.tuple #[]) ∧ DrAt T w0 ok b (bs ++ itemB st it) (itemSt st it) (if it.k == 4 then addFont fs it.font else fs) w' ∧ Fr ok w w' := by
  have hv0 := hv
  obtain ⟨Ap, cp, Ac, cc, Ad, cd, Ab, cb, hve, hp1, hc1, hd1, hb1⟩ := hv
  obtain ⟨X, hX⟩ : ∃ X, X = v := ⟨_, rfl⟩
  rw [← hX] at hve hv0 ⊢
  clear hX
  have HN := Lib.hid (show ∀ W : World, Fr (but ok w.heap.size) (w.alloc (.cells X 50)) W → ∀ q, W.heap.size ≤ q → but ok w.heap.size q from fun W hW q hq => by
    have h1 := hW.size
    simp only [World.size_alloc] at h1
    exact ⟨hok q (by omega), by omega⟩)
  have HK := Lib.hid (show ∀ W : World, Fr (but ok w.heap.size) (w.alloc (.cells X 50)) W → Below w0.heap.size w0 W from fun W hW => keeps (h0.trans ((below_alloc w _).mono h0.size)) hW (fun q hq => hok0 q hq.1))
  have HO := Lib.hid (show ∀ k, but ok w.heap.size k → w0.heap.size ≤ k from fun k hk => hok0 k hk.1)
  have HB := Lib.hid (bound_calls it.clips Ac cc w0 (w.alloc (.cells X 50)) st fs hc1 (h.box _) (HN.out _ (Fr.refl _ _)) (HK.out _ (Fr.refl _ _)) HO.out (by omega))
  have HEND := Lib.hid (show ∀ W, Fr (but ok w.heap.size) (w.alloc (.cells X 50)) W → Fr ok w W from fun W hW => (Fr.alloc (Fr.refl ok w) _).trans (hW.mono fun q _ ho => ho.1))
  have HX0 := Lib.hid (show ∀ W, Fr (but ok w.heap.size) (w.alloc (.cells X 50)) W → W.cell? ⟨w.heap.size, 0, none⟩ = some (.int .i64 it.k) from fun W hW => own_cell hW 0 _ (by rw [hve]; rfl))
  have HX1 := Lib.hid (show ∀ W, Fr (but ok w.heap.size) (w.alloc (.cells X 50)) W → W.cell? ⟨w.heap.size, 1, none⟩ = some (.slice Ap it.path.length cp) from fun W hW => own_cell hW 1 _ (by rw [hve]; rfl))
  have HX2 := Lib.hid (show ∀ W, Fr (but ok w.heap.size) (w.alloc (.cells X 50)) W → W.cell? ⟨w.heap.size, 2, none⟩ = some (.int .i64 it.col.sp) from fun W hW => own_cell hW 2 _ (by rw [hve]; rfl))
  have HX3 := Lib.hid (show ∀ W, Fr (but ok w.heap.size) (w.alloc (.cells X 50)) W → W.cell? ⟨w.heap.size, 3, none⟩ = some (.int .i64 it.col.p0) from fun W hW => own_cell hW 3 _ (by rw [hve]; rfl))
  have HX4 := Lib.hid (show ∀ W, Fr (but ok w.heap.size) (w.alloc (.cells X 50)) W → W.cell? ⟨w.heap.size, 4, none⟩ = some (.int .i64 it.col.p1) from fun W hW => own_cell hW 4 _ (by rw [hve]; rfl))
  have HX5 := Lib.hid (show ∀ W, Fr (but ok w.heap.size) (w.alloc (.cells X 50)) W → W.cell? ⟨w.heap.size, 5, none⟩ = some (.int .i64 it.col.p2) from fun W hW => own_cell hW 5 _ (by rw [hve]; rfl))
  have HX6 := Lib.hid (show ∀ W, Fr (but ok w.heap.size) (w.alloc (.cells X 50)) W → W.cell? ⟨w.heap.size, 6, none⟩ = some (.int .i64 it.col.p3) from fun W hW => own_cell hW 6 _ (by rw [hve]; rfl))
  have HX7 := Lib.hid (show ∀ W, Fr (but ok w.heap.size) (w.alloc (.cells X 50)) W → W.cell? ⟨w.heap.size, 7, none⟩ = some (.slice Ac it.clips.length cc) from fun W hW => own_cell hW 7 _ (by rw [hve]; rfl))
  have HX8 := Lib.hid (show ∀ W, Fr (but ok w.heap.size) (w.alloc (.cells X 50)) W → W.cell? ⟨w.heap.size, 8, none⟩ = some (.int .i64 it.pen.wd) from fun W hW => own_cell hW 8 _ (by rw [hve]; rfl))
  have HX9 := Lib.hid (show ∀ W, Fr (but ok w.heap.size) (w.alloc (.cells X 50)) W → W.cell? ⟨w.heap.size, 9, none⟩ = some (.int .i64 it.pen.cap) from fun W hW => own_cell hW 9 _ (by rw [hve]; rfl))
  have HX10 := Lib.hid (show ∀ W, Fr (but ok w.heap.size) (w.alloc (.cells X 50)) W → W.cell? ⟨w.heap.size, 10, none⟩ = some (.int .i64 it.pen.join) from fun W hW => own_cell hW 10 _ (by rw [hve]; rfl))
  have HX11 := Lib.hid (show ∀ W, Fr (but ok w.heap.size) (w.alloc (.cells X 50)) W → W.cell? ⟨w.heap.size, 11, none⟩ = some (.int .i64 it.pen.miter) from fun W hW => own_cell hW 11 _ (by rw [hve]; rfl))
  have HX12 := Lib.hid (show ∀ W, Fr (but ok w.heap.size) (w.alloc (.cells X 50)) W → W.cell? ⟨w.heap.size, 12, none⟩ = some (.slice Ad it.pen.dash.length cd) from fun W hW => own_cell hW 12 _ (by rw [hve]; rfl))
  have HX13 := Lib.hid (show ∀ W, Fr (but ok w.heap.size) (w.alloc (.cells X 50)) W → W.cell? ⟨w.heap.size, 13, none⟩ = some (.int .i64 it.pen.phase) from fun W hW => own_cell hW 13 _ (by rw [hve]; rfl))
  have HX14 := Lib.hid (show ∀ W, Fr (but ok w.heap.size) (w.alloc (.cells X 50)) W → W.cell? ⟨w.heap.size, 14, none⟩ = some (.int .i64 it.font) from fun W hW => own_cell hW 14 _ (by rw [hve]; rfl))
  have HX15 := Lib.hid (show ∀ W, Fr (but ok w.heap.size) (w.alloc (.cells X 50)) W → W.cell? ⟨w.heap.size, 15, none⟩ = some (.int .i64 it.m0) from fun W hW => own_cell hW 15 _ (by rw [hve]; rfl))
  have HX16 := Lib.hid (show ∀ W, Fr (but ok w.heap.size) (w.alloc (.cells X 50)) W → W.cell? ⟨w.heap.size, 16, none⟩ = some (.int .i64 it.m1) from fun W hW => own_cell hW 16 _ (by rw [hve]; rfl))
  have HX17 := Lib.hid (show ∀ W, Fr (but ok w.heap.size) (w.alloc (.cells X 50)) W → W.cell? ⟨w.heap.size, 17, none⟩ = some (.int .i64 it.m2) from fun W hW => own_cell hW 17 _ (by rw [hve]; rfl))
  have HX18 := Lib.hid (show ∀ W, Fr (but ok w.heap.size) (w.alloc (.cells X 50)) W → W.cell? ⟨w.heap.size, 18, none⟩ = some (.int .i64 it.m3) from fun W hW => own_cell hW 18 _ (by rw [hve]; rfl))
  have HX19 := Lib.hid (show ∀ W, Fr (but ok w.heap.size) (w.alloc (.cells X 50)) W → W.cell? ⟨w.heap.size, 19, none⟩ = some (.int .i64 it.m4) from fun W hW => own_cell hW 19 _ (by rw [hve]; rfl))
  have HX20 := Lib.hid (show ∀ W, Fr (but ok w.heap.size) (w.alloc (.cells X 50)) W → W.cell? ⟨w.heap.size, 20, none⟩ = some (.int .i64 it.m5) from fun W hW => own_cell hW 20 _ (by rw [hve]; rfl))
  have HX21 := Lib.hid (show ∀ W, Fr (but ok w.heap.size) (w.alloc (.cells X 50)) W → W.cell? ⟨w.heap.size, 21, none⟩ = some (.slice Ab it.bytes.length cb) from fun W hW => own_cell hW 21 _ (by rw [hve]; rfl))
  have HXA := Lib.hid (show ∀ W, Fr (but ok w.heap.size) (w.alloc (.cells X 50)) W → W.rangeAt w.heap.size 0 X.toList from fun W hW j v hj => by
    rw [Nat.zero_add]
    exact own_cell hW j v (by rw [← hj]; exact Array.getElem?_toList.symm))
  have HXI := Lib.hid (show (Tryz.prog.info? 50).map (·.size) = some X.toList.length from by rw [show X.toList.length = 22 from by rw [hve]; rfl]; kernel_rfl)
  have HXE := Lib.hid hve
  have HV := Lib.hid hv0
  have HT := Lib.hid ht
  have hbl := boundB_le st it.clips
  have hb1l : (bs ++ boundB st it.clips).length ≤ bs.length + clipsLen it.clips + 4 := by rw [List.length_append]; omega
  have HIB := Lib.hid (show itemB st it = boundB st it.clips ++ paintB (boundSo st it.clips) it from rfl)
  have HIS := Lib.hid (show itemSt st it = ⟨paintSo (boundSo st it.clips) it, boundOuter st it.clips, it.clips⟩ from rfl)
  generalize hy : bs ++ boundB st it.clips = y at *
  have HY := Lib.hid hy
  have hpl := pathB_le it.path
  have hcl := fun g => colB_le it.col g
  have hpb := fun q => penB_le q it.pen hp
  have HPA := Lib.hid hp1
  have HDA := Lib.hid hd1
  clear h hok h0 hok0 ht hve hv0 hy hc1 hp1 hd1 hb1 hbl
  go_enter Tryz.func19, Tryz.ntmps19
  rw [HXE.out]
  go_wp2_with fail
  rw [← HXE.out]
  refine HB.out.mono ?_
  rintro e w1 ⟨rfl, d1, f1⟩
  have D1 := Lib.hid d1
  have F1 := Lib.hid f1
  clear d1 f1 HB
  have hw1 : Hid (w.heap.size < w1.heap.size) := by
    have := F1.out.size
    simp only [World.size_alloc] at this
    show _ < _
    omega
  have y0 := (HX0.out w1 F1.out)
  have y2 := (HX2.out w1 F1.out)
  have y3 := (HX3.out w1 F1.out)
  have y4 := (HX4.out w1 F1.out)
  have y5 := (HX5.out w1 F1.out)
  have y6 := (HX6.out w1 F1.out)
  have HES := Lib.hid (show itemSt st it = ⟨⟨it.col, (boundSo st it.clips).stroke, (boundSo st it.clips).pen⟩, boundOuter st it.clips, it.clips⟩ from by rw [HIS.out, paintSo, h3]; rfl)
  have hl1 : (y ++ (if eqCol it.col (boundSo st it.clips).fill then [] else colB it.col false)).length ≤ y.length + 110 := by
    rw [List.length_append]
    have := hcl false
    split
    · simp
    · omega
  have HS1 := Lib.hid (filled_calls it.col hsp w0 w1 (boundSt st it.clips) fs D1.out (HN.out _ F1.out) (by omega))
  have HEB0 := Lib.hid (show bs ++ itemB st it = y ++ (if eqCol it.col (boundSo st it.clips).fill then [] else colB it.col false) ++ (if it.k == 4 then textItemB it else pathB it.path ++ (if it.k == 1 then [102, 10] else [102, 42, 10])) from by
    rw [HIB.out, ← HY.out, paintB, h3]
    simp only [Bool.false_eq_true, if_false, List.append_assoc])
  clear hcl hpb
  go_wp2_with fail
  refine HS1.out.mono ?_
  rintro e w2 ⟨rfl, d2, f2⟩
  have D2 : Hid (DrAt T w0 (but ok w.heap.size) b (y ++ (if eqCol it.col (boundSo st it.clips).fill then [] else colB it.col false)) ⟨⟨it.col, (boundSo st it.clips).stroke, (boundSo st it.clips).pen⟩, boundOuter st it.clips, it.clips⟩ fs w2) := d2
  have F2 := Lib.hid (F1.out.trans f2)
  clear d2 f2
  clear HS1
  have y0 := (HX0.out w2 F2.out)
  have y1 := (HX1.out w2 F2.out)
  have HFE := Lib.hid (show (if it.k == 4 then addFont fs it.font else fs) = addFont fs it.font from by rw [h4]; rfl)
  have HEB := Lib.hid (show bs ++ itemB st it = y ++ (if eqCol it.col (boundSo st it.clips).fill then [] else colB it.col false) ++ textItemB it from by rw [HEB0.out, h4, if_pos rfl])
  have HS2 := Lib.hid (wtext_calls it X w0 w2 _ fs HV.out hfont hby HT.out D2.out (HN.out _ F2.out) (HK.out _ F2.out) HO.out (by omega) hfl)
  go_wp2_with (refine wpList_load_mid rfl 50 _ rfl w.heap.size 0 rfl X.toList _ (HXA.out w2 F2.out) Tryz.underlying50 rfl HXI.out ?_; simp only [Array.toArray_toList])
  refine HS2.out.mono ?_
  rintro e w3 ⟨rfl, d3, f3⟩
  have D3 : Hid (DrAt T w0 (but ok w.heap.size) b (y ++ (if eqCol it.col (boundSo st it.clips).fill then [] else colB it.col false) ++ textItemB it) ⟨⟨it.col, (boundSo st it.clips).stroke, (boundSo st it.clips).pen⟩, boundOuter st it.clips, it.clips⟩ (addFont fs it.font) w3) := d3
  have F3 := Lib.hid (F2.out.trans f3)
  clear d3 f3
  clear HS2
  go_wp2_with fail
  go_end0
  refine ⟨rfl, ?_, HEND.out _ F3.out⟩
  rw [HEB.out, HES.out]
  first | rw [HFE.out] | skip
  exact D3.out.unbox

set_option maxHeartbeats 6400000 in
set_option maxRecDepth 100000 in
theorem item_fill {T : TypeId} {ok : Nat → Prop} {b : Nat} {bs : List UInt8} (it : ItemP) (v : Array Value) (w0 w : World) (st : StP) (fs : List Int) (hv : ItemRd w0 it v) (hsp : it.col.sp = 1 ∨ it.col.sp = 3 ∨ it.col.sp = 4) (hp : (0 ≤ it.pen.cap ∧ it.pen.cap ≤ 2) ∧ 0 ≤ it.pen.join ∧ it.pen.join ≤ 2) (ht : Tab w0) (h : DrAt T w0 ok b bs st fs w) (hok : ∀ k, w.heap.size ≤ k → ok k) (h0 : Below w0.heap.size w0 w) (hok0 : ∀ k, ok k → w0.heap.size ≤ k) (hlim : bs.length + clipsLen it.clips + 160 * it.path.length + 25 * it.pen.dash.length + 3000000 ≤ 70368744177664) (h3 : (it.k == 3) = false) (h4 : (it.k == 4) = false) (h1 : (it.k == 1) = true) :
    Calls Tryz.prog 19 #[.pointer (some ⟨b, 0, none⟩), .agg v] w fun e w' => e = .returned (.tuple #[]) ∧ DrAt T w0 ok b (bs ++ itemB st it) (itemSt st it) (if it.k == 4 then addFont fs it.font else fs) w' ∧ Fr ok w w' := by
  have hv0 := hv
  obtain ⟨Ap, cp, Ac, cc, Ad, cd, Ab, cb, hve, hp1, hc1, hd1, hb1⟩ := hv
  obtain ⟨X, hX⟩ : ∃ X, X = v := ⟨_, rfl⟩
  rw [← hX] at hve hv0 ⊢
  clear hX
  have HN := Lib.hid (show ∀ W : World, Fr (but ok w.heap.size) (w.alloc (.cells X 50)) W → ∀ q, W.heap.size ≤ q → but ok w.heap.size q from fun W hW q hq => by
    have h1 := hW.size
    simp only [World.size_alloc] at h1
    exact ⟨hok q (by omega), by omega⟩)
  have HK := Lib.hid (show ∀ W : World, Fr (but ok w.heap.size) (w.alloc (.cells X 50)) W → Below w0.heap.size w0 W from fun W hW => keeps (h0.trans ((below_alloc w _).mono h0.size)) hW (fun q hq => hok0 q hq.1))
  have HO := Lib.hid (show ∀ k, but ok w.heap.size k → w0.heap.size ≤ k from fun k hk => hok0 k hk.1)
  have HB := Lib.hid (bound_calls it.clips Ac cc w0 (w.alloc (.cells X 50)) st fs hc1 (h.box _) (HN.out _ (Fr.refl _ _)) (HK.out _ (Fr.refl _ _)) HO.out (by omega))
  have HEND := Lib.hid (show ∀ W, Fr (but ok w.heap.size) (w.alloc (.cells X 50)) W → Fr ok w W from fun W hW => (Fr.alloc (Fr.refl ok w) _).trans (hW.mono fun q _ ho => ho.1))
  have HX0 := Lib.hid (show ∀ W, Fr (but ok w.heap.size) (w.alloc (.cells X 50)) W → W.cell? ⟨w.heap.size, 0, none⟩ = some (.int .i64 it.k) from fun W hW => own_cell hW 0 _ (by rw [hve]; rfl))
  have HX1 := Lib.hid (show ∀ W, Fr (but ok w.heap.size) (w.alloc (.cells X 50)) W → W.cell? ⟨w.heap.size, 1, none⟩ = some (.slice Ap it.path.length cp) from fun W hW => own_cell hW 1 _ (by rw [hve]; rfl))
  have HX2 := Lib.hid (show ∀ W, Fr (but ok w.heap.size) (w.alloc (.cells X 50)) W → W.cell? ⟨w.heap.size, 2, none⟩ = some (.int .i64 it.col.sp) from fun W hW => own_cell hW 2 _ (by rw [hve]; rfl))
  have HX3 := Lib.hid (show ∀ W, Fr (but ok w.heap.size) (w.alloc (.cells X 50)) W → W.cell? ⟨w.heap.size, 3, none⟩ = some (.int .i64 it.col.p0) from fun W hW => own_cell hW 3 _ (by rw [hve]; rfl))
  have HX4 := Lib.hid (show ∀ W, Fr (but ok w.heap.size) (w.alloc (.cells X 50)) W → W.cell? ⟨w.heap.size, 4, none⟩ = some (.int .i64 it.col.p1) from fun W hW => own_cell hW 4 _ (by rw [hve]; rfl))
  have HX5 := Lib.hid (show ∀ W, Fr (but ok w.heap.size) (w.alloc (.cells X 50)) W → W.cell? ⟨w.heap.size, 5, none⟩ = some (.int .i64 it.col.p2) from fun W hW => own_cell hW 5 _ (by rw [hve]; rfl))
  have HX6 := Lib.hid (show ∀ W, Fr (but ok w.heap.size) (w.alloc (.cells X 50)) W → W.cell? ⟨w.heap.size, 6, none⟩ = some (.int .i64 it.col.p3) from fun W hW => own_cell hW 6 _ (by rw [hve]; rfl))
  have HX7 := Lib.hid (show ∀ W, Fr (but ok w.heap.size) (w.alloc (.cells X 50)) W → W.cell? ⟨w.heap.size, 7, none⟩ = some (.slice Ac it.clips.length cc) from fun W hW => own_cell hW 7 _ (by rw [hve]; rfl))
  have HX8 := Lib.hid (show ∀ W, Fr (but ok w.heap.size) (w.alloc (.cells X 50)) W → W.cell? ⟨w.heap.size, 8, none⟩ = some (.int .i64 it.pen.wd) from fun W hW => own_cell hW 8 _ (by rw [hve]; rfl))
  have HX9 := Lib.hid (show ∀ W, Fr (but ok w.heap.size) (w.alloc (.cells X 50)) W → W.cell? ⟨w.heap.size, 9, none⟩ = some (.int .i64 it.pen.cap) from fun W hW => own_cell hW 9 _ (by rw [hve]; rfl))
  have HX10 := Lib.hid (show ∀ W, Fr (but ok w.heap.size) (w.alloc (.cells X 50)) W → W.cell? ⟨w.heap.size, 10, none⟩ = some (.int .i64 it.pen.join) from fun W hW => own_cell hW 10 _ (by rw [hve]; rfl))
  have HX11 := Lib.hid (show ∀ W, Fr (but ok w.heap.size) (w.alloc (.cells X 50)) W → W.cell? ⟨w.heap.size, 11, none⟩ = some (.int .i64 it.pen.miter) from fun W hW => own_cell hW 11 _ (by rw [hve]; rfl))
  have HX12 := Lib.hid (show ∀ W, Fr (but ok w.heap.size) (w.alloc (.cells X 50)) W → W.cell? ⟨w.heap.size, 12, none⟩ = some (.slice Ad it.pen.dash.length cd) from fun W hW => own_cell hW 12 _ (by rw [hve]; rfl))
  have HX13 := Lib.hid (show ∀ W, Fr (but ok w.heap.size) (w.alloc (.cells X 50)) W → W.cell? ⟨w.heap.size, 13, none⟩ = some (.int .i64 it.pen.phase) from fun W hW => own_cell hW 13 _ (by rw [hve]; rfl))
  have HX14 := Lib.hid (show ∀ W, Fr (but ok w.heap.size) (w.alloc (.cells X 50)) W → W.cell? ⟨w.heap.size, 14, none⟩ = some (.int .i64 it.font) from fun W hW => own_cell hW 14 _ (by rw [hve]; rfl))
  have HX15 := Lib.hid (show ∀ W, Fr (but ok w.heap.size) (w.alloc (.cells X 50)) W → W.cell? ⟨w.heap.size, 15, none⟩ = some (.int .i64 it.m0) from fun W hW => own_cell hW 15 _ (by rw [hve]; rfl))
  have HX16 := Lib.hid (show ∀ W, Fr (but ok w.heap.size) (w.alloc (.cells X 50)) W → W.cell? ⟨w.heap.size, 16, none⟩ = some (.int .i64 it.m1) from fun W hW => own_cell hW 16 _ (by rw [hve]; rfl))
  have HX17 := Lib.hid (show ∀ W, Fr (but ok w.heap.size) (w.alloc (.cells X 50)) W → W.cell? ⟨w.heap.size, 17, none⟩ = some (.int .i64 it.m2) from fun W hW => own_cell hW 17 _ (by rw [hve]; rfl))
  have HX18 := Lib.hid (show ∀ W, Fr (but ok w.heap.size) (w.alloc (.cells X 50)) W → W.cell? ⟨w.heap.size, 18, none⟩ = some (.int .i64 it.m3) from fun W hW => own_cell hW 18 _ (by rw [hve]; rfl))
  have HX19 := Lib.hid (show ∀ W, Fr (but ok w.heap.size) (w.alloc (.cells X 50)) W → W.cell? ⟨w.heap.size, 19, none⟩ = some (.int .i64 it.m4) from fun W hW => own_cell hW 19 _ (by rw [hve]; rfl))
  have HX20 := Lib.hid (show ∀ W, Fr (but ok w.heap.size) (w.alloc (.cells X 50)) W → W.cell? ⟨w.heap.size, 20, none⟩ = some (.int .i64 it.m5) from fun W hW => own_cell hW 20 _ (by rw [hve]; rfl))
  have HX21 := Lib.hid (show ∀ W, Fr (but ok w.heap.size) (w.alloc (.cells X 50)) W → W.cell? ⟨w.heap.size, 21, none⟩ = some (.slice Ab it.bytes.length cb) from fun W hW => own_cell hW 21 _ (by rw [hve]; rfl))
  have HXA := Lib.hid (show ∀ W, Fr (but ok w.heap.size) (w.alloc (.cells X 50)) W → W.rangeAt w.heap.size 0 X.toList from fun W hW j v hj => by
    rw [Nat.zero_add]
    exact own_cell hW j v (by rw [← hj]; exact Array.getElem?_toList.symm))
  have HXI := Lib.hid (show (Tryz.prog.info? 50).map (·.size) = some X.toList.length from by rw [show X.toList.length = 22 from by rw [hve]; rfl]; kernel_rfl)
  have HXE := Lib.hid hve
  have HV := Lib.hid hv0
  have HT := Lib.hid ht
  have hbl := boundB_le st it.clips
  have hb1l : (bs ++ boundB st it.clips).length ≤ bs.length + clipsLen it.clips + 4 := by rw [List.length_append]; omega
  have HIB := Lib.hid (show itemB st it = boundB st it.clips ++ paintB (boundSo st it.clips) it from rfl)
  have HIS := Lib.hid (show itemSt st it = ⟨paintSo (boundSo st it.clips) it, boundOuter st it.clips, it.clips⟩ from rfl)
  generalize hy : bs ++ boundB st it.clips = y at *
  have HY := Lib.hid hy
  have hpl := pathB_le it.path
  have hcl := fun g => colB_le it.col g
  have hpb := fun q => penB_le q it.pen hp
  have HPA := Lib.hid hp1
  have HDA := Lib.hid hd1
  clear h hok h0 hok0 ht hve hv0 hy hc1 hp1 hd1 hb1 hbl
  go_enter Tryz.func19, Tryz.ntmps19
  rw [HXE.out]
  go_wp2_with fail
  rw [← HXE.out]
  refine HB.out.mono ?_
  rintro e w1 ⟨rfl, d1, f1⟩
  have D1 := Lib.hid d1
  have F1 := Lib.hid f1
  clear d1 f1 HB
  have hw1 : Hid (w.heap.size < w1.heap.size) := by
    have := F1.out.size
    simp only [World.size_alloc] at this
    show _ < _
    omega
  have y0 := (HX0.out w1 F1.out)
  have y2 := (HX2.out w1 F1.out)
  have y3 := (HX3.out w1 F1.out)
  have y4 := (HX4.out w1 F1.out)
  have y5 := (HX5.out w1 F1.out)
  have y6 := (HX6.out w1 F1.out)
  have HES := Lib.hid (show itemSt st it = ⟨⟨it.col, (boundSo st it.clips).stroke, (boundSo st it.clips).pen⟩, boundOuter st it.clips, it.clips⟩ from by rw [HIS.out, paintSo, h3]; rfl)
  have hl1 : (y ++ (if eqCol it.col (boundSo st it.clips).fill then [] else colB it.col false)).length ≤ y.length + 110 := by
    rw [List.length_append]
    have := hcl false
    split
    · simp
    · omega
  have HS1 := Lib.hid (filled_calls it.col hsp w0 w1 (boundSt st it.clips) fs D1.out (HN.out _ F1.out) (by omega))
  have HEB0 := Lib.hid (show bs ++ itemB st it = y ++ (if eqCol it.col (boundSo st it.clips).fill then [] else colB it.col false) ++ (if it.k == 4 then textItemB it else pathB it.path ++ (if it.k == 1 then [102, 10] else [102, 42, 10])) from by
    rw [HIB.out, ← HY.out, paintB, h3]
    simp only [Bool.false_eq_true, if_false, List.append_assoc])
  clear hcl hpb
  go_wp2_with fail
  refine HS1.out.mono ?_
  rintro e w2 ⟨rfl, d2, f2⟩
  have D2 : Hid (DrAt T w0 (but ok w.heap.size) b (y ++ (if eqCol it.col (boundSo st it.clips).fill then [] else colB it.col false)) ⟨⟨it.col, (boundSo st it.clips).stroke, (boundSo st it.clips).pen⟩, boundOuter st it.clips, it.clips⟩ fs w2) := d2
  have F2 := Lib.hid (F1.out.trans f2)
  clear d2 f2
  clear HS1
  have y0 := (HX0.out w2 F2.out)
  have y1 := (HX1.out w2 F2.out)
  have HFE := Lib.hid (show (if it.k == 4 then addFont fs it.font else fs) = fs from by rw [h4]; rfl)
  have HS2 := Lib.hid (dpath_calls it.path Ap cp D2.out (HN.out _ F2.out) HPA.out.1 (HK.out _ F2.out) HO.out (by omega))
  have HEB := Lib.hid (show bs ++ itemB st it = y ++ (if eqCol it.col (boundSo st it.clips).fill then [] else colB it.col false) ++ pathB it.path ++ lineB [] [102] from by
    rw [HEB0.out, h4, h1]
    simp only [Bool.false_eq_true, if_false, if_true, List.append_assoc]
    rfl)
  go_wp2_with fail
  refine HS2.out.mono ?_
  rintro e w3 ⟨rfl, d3, f3⟩
  have D3 : Hid (DrAt T w0 (but ok w.heap.size) b (y ++ (if eqCol it.col (boundSo st it.clips).fill then [] else colB it.col false) ++ pathB it.path) ⟨⟨it.col, (boundSo st it.clips).stroke, (boundSo st it.clips).pen⟩, boundOuter st it.clips, it.clips⟩ fs w3) := d3
  have F3 := Lib.hid (F2.out.trans f3)
  clear d3 f3
  clear HS2
  have HS3 := Lib.hid (dline_calls ⟨#[102]⟩ (by decide) D3.out (HN.out _ F3.out) (by rw [List.length_append]; omega))
  go_wp2_with fail
  refine HS3.out.mono ?_
  rintro e w4 ⟨rfl, d4, f4⟩
  have D4 : Hid (DrAt T w0 (but ok w.heap.size) b (y ++ (if eqCol it.col (boundSo st it.clips).fill then [] else colB it.col false) ++ pathB it.path ++ lineB [] [102]) ⟨⟨it.col, (boundSo st it.clips).stroke, (boundSo st it.clips).pen⟩, boundOuter st it.clips, it.clips⟩ fs w4) := d4
  have F4 := Lib.hid (F3.out.trans f4)
  clear d4 f4
  clear HS3
  go_wp2_with fail
  go_end0
  refine ⟨rfl, ?_, HEND.out _ F4.out⟩
  rw [HEB.out, HES.out]
  first | rw [HFE.out] | skip
  exact D4.out.unbox

set_option maxHeartbeats 6400000 in
set_option maxRecDepth 100000 in
theorem item_eo {T : TypeId} {ok : Nat → Prop} {b : Nat} {bs : List UInt8} (it : ItemP) (v : Array Value) (w0 w : World) (st : StP) (fs : List Int) (hv : ItemRd w0 it v) (hsp : it.col.sp = 1 ∨ it.col.sp = 3 ∨ it.col.sp = 4) (hp : (0 ≤ it.pen.cap ∧ it.pen.cap ≤ 2) ∧ 0 ≤ it.pen.join ∧ it.pen.join ≤ 2) (ht : Tab w0) (h : DrAt T w0 ok b bs st fs w) (hok : ∀ k, w.heap.size ≤ k → ok k) (h0 : Below w0.heap.size w0 w) (hok0 : ∀ k, ok k → w0.heap.size ≤ k) (hlim : bs.length + clipsLen it.clips + 160 * it.path.length + 25 * it.pen.dash.length + 3000000 ≤ 70368744177664) (h3 : (it.k == 3) = false) (h4 : (it.k == 4) = false) (h1 : (it.k == 1) = false) :
    Calls Tryz.prog 19 #[.pointer (some ⟨b, 0, none⟩), .agg v] w fun e w' => e = .returned (.tuple #[]) ∧ DrAt T w0 ok b (bs ++ itemB st it) (itemSt st it) (if it.k == 4 then addFont fs it.font else fs) w' ∧ Fr ok w w' := by
  have hv0 := hv
  obtain ⟨Ap, cp, Ac, cc, Ad, cd, Ab, cb, hve, hp1, hc1, hd1, hb1⟩ := hv
  obtain ⟨X, hX⟩ : ∃ X, X = v := ⟨_, rfl⟩
  rw [← hX] at hve hv0 ⊢
  clear hX
  have HN := Lib.hid (show ∀ W : World, Fr (but ok w.heap.size) (w.alloc (.cells X 50)) W → ∀ q, W.heap.size ≤ q → but ok w.heap.size q from fun W hW q hq => by
    have h1 := hW.size
    simp only [World.size_alloc] at h1
    exact ⟨hok q (by omega), by omega⟩)
  have HK := Lib.hid (show ∀ W : World, Fr (but ok w.heap.size) (w.alloc (.cells X 50)) W → Below w0.heap.size w0 W from fun W hW => keeps (h0.trans ((below_alloc w _).mono h0.size)) hW (fun q hq => hok0 q hq.1))
  have HO := Lib.hid (show ∀ k, but ok w.heap.size k → w0.heap.size ≤ k from fun k hk => hok0 k hk.1)
  have HB := Lib.hid (bound_calls it.clips Ac cc w0 (w.alloc (.cells X 50)) st fs hc1 (h.box _) (HN.out _ (Fr.refl _ _)) (HK.out _ (Fr.refl _ _)) HO.out (by omega))
  have HEND := Lib.hid (show ∀ W, Fr (but ok w.heap.size) (w.alloc (.cells X 50)) W → Fr ok w W from fun W hW => (Fr.alloc (Fr.refl ok w) _).trans (hW.mono fun q _ ho => ho.1))
  have HX0 := Lib.hid (show ∀ W, Fr (but ok w.heap.size) (w.alloc (.cells X 50)) W → W.cell? ⟨w.heap.size, 0, none⟩ = some (.int .i64 it.k) from fun W hW => own_cell hW 0 _ (by rw [hve]; rfl))
  have HX1 := Lib.hid (show ∀ W, Fr (but ok w.heap.size) (w.alloc (.cells X 50)) W → W.cell? ⟨w.heap.size, 1, none⟩ = some (.slice Ap it.path.length cp) from fun W hW => own_cell hW 1 _ (by rw [hve]; rfl))
  have HX2 := Lib.hid (show ∀ W, Fr (but ok w.heap.size) (w.alloc (.cells X 50)) W → W.cell? ⟨w.heap.size, 2, none⟩ = some (.int .i64 it.col.sp) from fun W hW => own_cell hW 2 _ (by rw [hve]; rfl))
  have HX3 := Lib.hid (show ∀ W, Fr (but ok w.heap.size) (w.alloc (.cells X 50)) W → W.cell? ⟨w.heap.size, 3, none⟩ = some (.int .i64 it.col.p0) from fun W hW => own_cell hW 3 _ (by rw [hve]; rfl))
  have HX4 := Lib.hid (show ∀ W, Fr (but ok w.heap.size) (w.alloc (.cells X 50)) W → W.cell? ⟨w.heap.size, 4, none⟩ = some (.int .i64 it.col.p1) from fun W hW => own_cell hW 4 _ (by rw [hve]; rfl))
  have HX5 := Lib.hid (show ∀ W, Fr (but ok w.heap.size) (w.alloc (.cells X 50)) W → W.cell? ⟨w.heap.size, 5, none⟩ = some (.int .i64 it.col.p2) from fun W hW => own_cell hW 5 _ (by rw [hve]; rfl))
  have HX6 := Lib.hid (show ∀ W, Fr (but ok w.heap.size) (w.alloc (.cells X 50)) W → W.cell? ⟨w.heap.size, 6, none⟩ = some (.int .i64 it.col.p3) from fun W hW => own_cell hW 6 _ (by rw [hve]; rfl))
  have HX7 := Lib.hid (show ∀ W, Fr (but ok w.heap.size) (w.alloc (.cells X 50)) W → W.cell? ⟨w.heap.size, 7, none⟩ = some (.slice Ac it.clips.length cc) from fun W hW => own_cell hW 7 _ (by rw [hve]; rfl))
  have HX8 := Lib.hid (show ∀ W, Fr (but ok w.heap.size) (w.alloc (.cells X 50)) W → W.cell? ⟨w.heap.size, 8, none⟩ = some (.int .i64 it.pen.wd) from fun W hW => own_cell hW 8 _ (by rw [hve]; rfl))
  have HX9 := Lib.hid (show ∀ W, Fr (but ok w.heap.size) (w.alloc (.cells X 50)) W → W.cell? ⟨w.heap.size, 9, none⟩ = some (.int .i64 it.pen.cap) from fun W hW => own_cell hW 9 _ (by rw [hve]; rfl))
  have HX10 := Lib.hid (show ∀ W, Fr (but ok w.heap.size) (w.alloc (.cells X 50)) W → W.cell? ⟨w.heap.size, 10, none⟩ = some (.int .i64 it.pen.join) from fun W hW => own_cell hW 10 _ (by rw [hve]; rfl))
  have HX11 := Lib.hid (show ∀ W, Fr (but ok w.heap.size) (w.alloc (.cells X 50)) W → W.cell? ⟨w.heap.size, 11, none⟩ = some (.int .i64 it.pen.miter) from fun W hW => own_cell hW 11 _ (by rw [hve]; rfl))
  have HX12 := Lib.hid (show ∀ W, Fr (but ok w.heap.size) (w.alloc (.cells X 50)) W → W.cell? ⟨w.heap.size, 12, none⟩ = some (.slice Ad it.pen.dash.length cd) from fun W hW => own_cell hW 12 _ (by rw [hve]; rfl))
  have HX13 := Lib.hid (show ∀ W, Fr (but ok w.heap.size) (w.alloc (.cells X 50)) W → W.cell? ⟨w.heap.size, 13, none⟩ = some (.int .i64 it.pen.phase) from fun W hW => own_cell hW 13 _ (by rw [hve]; rfl))
  have HX14 := Lib.hid (show ∀ W, Fr (but ok w.heap.size) (w.alloc (.cells X 50)) W → W.cell? ⟨w.heap.size, 14, none⟩ = some (.int .i64 it.font) from fun W hW => own_cell hW 14 _ (by rw [hve]; rfl))
  have HX15 := Lib.hid (show ∀ W, Fr (but ok w.heap.size) (w.alloc (.cells X 50)) W → W.cell? ⟨w.heap.size, 15, none⟩ = some (.int .i64 it.m0) from fun W hW => own_cell hW 15 _ (by rw [hve]; rfl))
  have HX16 := Lib.hid (show ∀ W, Fr (but ok w.heap.size) (w.alloc (.cells X 50)) W → W.cell? ⟨w.heap.size, 16, none⟩ = some (.int .i64 it.m1) from fun W hW => own_cell hW 16 _ (by rw [hve]; rfl))
  have HX17 := Lib.hid (show ∀ W, Fr (but ok w.heap.size) (w.alloc (.cells X 50)) W → W.cell? ⟨w.heap.size, 17, none⟩ = some (.int .i64 it.m2) from fun W hW => own_cell hW 17 _ (by rw [hve]; rfl))
  have HX18 := Lib.hid (show ∀ W, Fr (but ok w.heap.size) (w.alloc (.cells X 50)) W → W.cell? ⟨w.heap.size, 18, none⟩ = some (.int .i64 it.m3) from fun W hW => own_cell hW 18 _ (by rw [hve]; rfl))
  have HX19 := Lib.hid (show ∀ W, Fr (but ok w.heap.size) (w.alloc (.cells X 50)) W → W.cell? ⟨w.heap.size, 19, none⟩ = some (.int .i64 it.m4) from fun W hW => own_cell hW 19 _ (by rw [hve]; rfl))
  have HX20 := Lib.hid (show ∀ W, Fr (but ok w.heap.size) (w.alloc (.cells X 50)) W → W.cell? ⟨w.heap.size, 20, none⟩ = some (.int .i64 it.m5) from fun W hW => own_cell hW 20 _ (by rw [hve]; rfl))
  have HX21 := Lib.hid (show ∀ W, Fr (but ok w.heap.size) (w.alloc (.cells X 50)) W → W.cell? ⟨w.heap.size, 21, none⟩ = some (.slice Ab it.bytes.length cb) from fun W hW => own_cell hW 21 _ (by rw [hve]; rfl))
  have HXA := Lib.hid (show ∀ W, Fr (but ok w.heap.size) (w.alloc (.cells X 50)) W → W.rangeAt w.heap.size 0 X.toList from fun W hW j v hj => by
    rw [Nat.zero_add]
    exact own_cell hW j v (by rw [← hj]; exact Array.getElem?_toList.symm))
  have HXI := Lib.hid (show (Tryz.prog.info? 50).map (·.size) = some X.toList.length from by rw [show X.toList.length = 22 from by rw [hve]; rfl]; kernel_rfl)
  have HXE := Lib.hid hve
  have HV := Lib.hid hv0
  have HT := Lib.hid ht
  have hbl := boundB_le st it.clips
  have hb1l : (bs ++ boundB st it.clips).length ≤ bs.length + clipsLen it.clips + 4 := by rw [List.length_append]; omega
  have HIB := Lib.hid (show itemB st it = boundB st it.clips ++ paintB (boundSo st it.clips) it from rfl)
  have HIS := Lib.hid (show itemSt st it = ⟨paintSo (boundSo st it.clips) it, boundOuter st it.clips, it.clips⟩ from rfl)
  generalize hy : bs ++ boundB st it.clips = y at *
  have HY := Lib.hid hy
  have hpl := pathB_le it.path
  have hcl := fun g => colB_le it.col g
  have hpb := fun q => penB_le q it.pen hp
  have HPA := Lib.hid hp1
  have HDA := Lib.hid hd1
  clear h hok h0 hok0 ht hve hv0 hy hc1 hp1 hd1 hb1 hbl
  go_enter Tryz.func19, Tryz.ntmps19
  rw [HXE.out]
  go_wp2_with fail
  rw [← HXE.out]
  refine HB.out.mono ?_
  rintro e w1 ⟨rfl, d1, f1⟩
  have D1 := Lib.hid d1
  have F1 := Lib.hid f1
  clear d1 f1 HB
  have hw1 : Hid (w.heap.size < w1.heap.size) := by
    have := F1.out.size
    simp only [World.size_alloc] at this
    show _ < _
    omega
  have y0 := (HX0.out w1 F1.out)
  have y2 := (HX2.out w1 F1.out)
  have y3 := (HX3.out w1 F1.out)
  have y4 := (HX4.out w1 F1.out)
  have y5 := (HX5.out w1 F1.out)
  have y6 := (HX6.out w1 F1.out)
  have HES := Lib.hid (show itemSt st it = ⟨⟨it.col, (boundSo st it.clips).stroke, (boundSo st it.clips).pen⟩, boundOuter st it.clips, it.clips⟩ from by rw [HIS.out, paintSo, h3]; rfl)
  have hl1 : (y ++ (if eqCol it.col (boundSo st it.clips).fill then [] else colB it.col false)).length ≤ y.length + 110 := by
    rw [List.length_append]
    have := hcl false
    split
    · simp
    · omega
  have HS1 := Lib.hid (filled_calls it.col hsp w0 w1 (boundSt st it.clips) fs D1.out (HN.out _ F1.out) (by omega))
  have HEB0 := Lib.hid (show bs ++ itemB st it = y ++ (if eqCol it.col (boundSo st it.clips).fill then [] else colB it.col false) ++ (if it.k == 4 then textItemB it else pathB it.path ++ (if it.k == 1 then [102, 10] else [102, 42, 10])) from by
    rw [HIB.out, ← HY.out, paintB, h3]
    simp only [Bool.false_eq_true, if_false, List.append_assoc])
  clear hcl hpb
  go_wp2_with fail
  refine HS1.out.mono ?_
  rintro e w2 ⟨rfl, d2, f2⟩
  have D2 : Hid (DrAt T w0 (but ok w.heap.size) b (y ++ (if eqCol it.col (boundSo st it.clips).fill then [] else colB it.col false)) ⟨⟨it.col, (boundSo st it.clips).stroke, (boundSo st it.clips).pen⟩, boundOuter st it.clips, it.clips⟩ fs w2) := d2
  have F2 := Lib.hid (F1.out.trans f2)
  clear d2 f2
  clear HS1
  have y0 := (HX0.out w2 F2.out)
  have y1 := (HX1.out w2 F2.out)
  have HFE := Lib.hid (show (if it.k == 4 then addFont fs it.font else fs) = fs from by rw [h4]; rfl)
  have HS2 := Lib.hid (dpath_calls it.path Ap cp D2.out (HN.out _ F2.out) HPA.out.1 (HK.out _ F2.out) HO.out (by omega))
  have HEB := Lib.hid (show bs ++ itemB st it = y ++ (if eqCol it.col (boundSo st it.clips).fill then [] else colB it.col false) ++ pathB it.path ++ lineB [] [102, 42] from by
    rw [HEB0.out, h4, h1]
    simp only [Bool.false_eq_true, if_false, List.append_assoc]
    rfl)
  go_wp2_with fail
  refine HS2.out.mono ?_
  rintro e w3 ⟨rfl, d3, f3⟩
  have D3 : Hid (DrAt T w0 (but ok w.heap.size) b (y ++ (if eqCol it.col (boundSo st it.clips).fill then [] else colB it.col false) ++ pathB it.path) ⟨⟨it.col, (boundSo st it.clips).stroke, (boundSo st it.clips).pen⟩, boundOuter st it.clips, it.clips⟩ fs w3) := d3
  have F3 := Lib.hid (F2.out.trans f3)
  clear d3 f3
  clear HS2
  have HS3 := Lib.hid (dline_calls ⟨#[102, 42]⟩ (by decide) D3.out (HN.out _ F3.out) (by rw [List.length_append]; omega))
  go_wp2_with fail
  refine HS3.out.mono ?_
  rintro e w4 ⟨rfl, d4, f4⟩
  have D4 : Hid (DrAt T w0 (but ok w.heap.size) b (y ++ (if eqCol it.col (boundSo st it.clips).fill then [] else colB it.col false) ++ pathB it.path ++ lineB [] [102, 42]) ⟨⟨it.col, (boundSo st it.clips).stroke, (boundSo st it.clips).pen⟩, boundOuter st it.clips, it.clips⟩ fs w4) := d4
  have F4 := Lib.hid (F3.out.trans f4)
  clear d4 f4
  clear HS3
  go_wp2_with fail
  go_end0
  refine ⟨rfl, ?_, HEND.out _ F4.out⟩
  rw [HEB.out, HES.out]
  first | rw [HFE.out] | skip
  exact D4.out.unbox

theorem item_calls {T : TypeId} {ok : Nat → Prop} {b : Nat} {bs : List UInt8} (it : ItemP) (v : Array Value) (w0 w : World) (st : StP) (fs : List Int) (hv : ItemRd w0 it v) (hsp : it.col.sp = 1 ∨ it.col.sp = 3 ∨ it.col.sp = 4) (hp : (0 ≤ it.pen.cap ∧ it.pen.cap ≤ 2) ∧ 0 ≤ it.pen.join ∧ it.pen.join ≤ 2) (hfont : 0 ≤ it.font ∧ it.font ≤ 13) (hby : it.bytes.length ≤ 65535) (ht : Tab w0) (h : DrAt T w0 ok b bs st fs w) (hok : ∀ k, w.heap.size ≤ k → ok k) (h0 : Below w0.heap.size w0 w) (hok0 : ∀ k, ok k → w0.heap.size ≤ k) (hlim : bs.length + clipsLen it.clips + 160 * it.path.length + 25 * it.pen.dash.length + 3000000 ≤ 70368744177664) (hfl : fs.length ≤ 100000) :
    Calls Tryz.prog 19 #[.pointer (some ⟨b, 0, none⟩), .agg v] w fun e w' => e = .returned (.tuple #[]) ∧ DrAt T w0 ok b (bs ++ itemB st it) (itemSt st it) (if it.k == 4 then addFont fs it.font else fs) w' ∧ Fr ok w w' := by
  cases h3 : (it.k == 3) with
  | true => exact item_stroke it v w0 w st fs hv hsp hp ht h hok h0 hok0 hlim h3
  | false =>
    cases h4 : (it.k == 4) with
    | true => have := item_text it v w0 w st fs hv hsp hp hfont hby ht h hok h0 hok0 hlim hfl h3 h4; rw [h4] at this; exact this
    | false =>
      cases h1 : (it.k == 1) with
      | true => have := item_fill it v w0 w st fs hv hsp hp ht h hok h0 hok0 hlim h3 h4 h1; rw [h4] at this; exact this
      | false => have := item_eo it v w0 w st fs hv hsp hp ht h hok h0 hok0 hlim h3 h4 h1; rw [h4] at this; exact this
end Go.Proofs.YtdkgfgmmmjpkgaaGreatDoor

namespace Go.Proofs.YtdkgfgmmmjpkgaaGreatDoor
open Go.RowKit Go.Shelf

def so0A : Array Value := #[.int .i64 1, .int .i64 0, .int .i64 0, .int .i64 0, .int .i64 0, .int .i64 1, .int .i64 0, .int .i64 0, .int .i64 0, .int .i64 0, .int .i64 65536, .int .i64 0, .int .i64 0, .int .i64 655360, .slice none 0 0, .int .i64 0]

set_option maxHeartbeats 3200000 in
set_option maxRecDepth 100000 in
theorem start_calls (w : World) : Calls Tryz.prog 18 #[] w fun e w' => e = .returned (.agg so0A) ∧ Below w.heap.size w w' := by
  go_enter Tryz.func18, Tryz.ntmps18
  go_wp2_with fail
  have hb : Below w.heap.size w ((w.alloc (.cells so0A 62)).alloc (.cells #[.int .i64 1, .int .i64 0, .int .i64 0, .int .i64 0, .int .i64 0] 44)) := (below_alloc w _).trans ((below_alloc _ _).mono (by simp))
  refine bodyPost_ret (v := .agg so0A) ?_ rfl ⟨rfl, hb⟩
  refine results_cell_row rfl _ _ w.heap.size 62 so0A (0, 0) _ rfl ?_ Tryz.underlying62 rfl (by kernel_rfl)
  rw [Lib.alloc_old _ _ _ (by simp)]
  exact heap_alloc_new w _
end Go.Proofs.YtdkgfgmmmjpkgaaGreatDoor

namespace Go.Proofs.YtdkgfgmmmjpkgaaGreatDoor
open Go.RowKit

def nPts (k : Int) : Int := if k == 1 || k == 2 then 1 else if k == 3 then 3 else if k == 4 then 0 else -1
def followsB (k last : Int) : Bool := if k == 1 then last != 1 else last != 0 && last != 4
def fit2 (p : Int × Int) : Bool := fitsB p.1 && fitsB p.2
def zero2 (p : Int × Int) : Bool := p.1 == 0 && p.2 == 0
def pts (s : SegP) : List (Int × Int) := [(s.x0, s.y0), (s.x1, s.y1), (s.x2, s.y2)]
def segOk (last : Int) (s : SegP) : Bool := decide (0 ≤ nPts s.k) && followsB s.k last && (pts s).all fit2 && ((pts s).drop (nPts s.k).toNat).all zero2
def segsOk : Int → List SegP → Bool
  | _, [] => true
  | last, s :: r => segOk last s && segsOk s.k r
def pathOk (l : List SegP) : Bool := decide (l.length ≤ 4096) && segsOk 0 l
def partOk (i : Int) (sp n : Int) : Bool := decide (0 ≤ n) && decide (n ≤ 65536) && (decide (i < sp) || n == 0)
def colOk (c : ColP) : Bool := (c.sp == 1 || c.sp == 3 || c.sp == 4) && partOk 0 c.sp c.p0 && partOk 1 c.sp c.p1 && partOk 2 c.sp c.p2 && partOk 3 c.sp c.p3
def clipOk (c : ClipP) : Bool := decide (0 < c.path.length) && pathOk c.path
def clipsOk (l : List ClipP) : Bool := decide (l.length ≤ 16) && l.all clipOk
def dashOk (l : List Int) : Bool := l.all (fun n => decide (0 ≤ n) && fitsB n) && (l.isEmpty || l.any (fun n => decide (0 < n)))
def penOk (p : PenP) : Bool :=
  decide (0 ≤ p.wd) && fitsB p.wd && decide (0 ≤ p.cap) && decide (p.cap ≤ 2) && decide (0 ≤ p.join) && decide (p.join ≤ 2) && decide (65536 ≤ p.miter) && fitsB p.miter && decide (0 ≤ p.phase) && fitsB p.phase && decide (p.dash.length ≤ 11) && dashOk p.dash
def noPen (p : PenP) : Bool := p.wd == 0 && p.cap == 0 && p.join == 0 && p.miter == 0 && p.dash.isEmpty && p.phase == 0
def mat0 (it : ItemP) : Bool := it.m0 == 0 && it.m1 == 0 && it.m2 == 0 && it.m3 == 0 && it.m4 == 0 && it.m5 == 0
def matFit (it : ItemP) : Bool := fitsB it.m0 && fitsB it.m1 && fitsB it.m2 && fitsB it.m3 && fitsB it.m4 && fitsB it.m5
def lettersOk (it : ItemP) : Bool := decide (0 ≤ it.font) && decide (it.font ≤ 13) && decide (1 ≤ it.bytes.length) && decide (it.bytes.length ≤ 65535) && matFit it
def itemOk (it : ItemP) : Bool :=
  colOk it.col && clipsOk it.clips &&
    (if it.k == 4 then lettersOk it && it.path.isEmpty && noPen it.pen
     else it.font == 0 && mat0 it && it.bytes.isEmpty && !it.path.isEmpty && pathOk it.path && (if it.k == 3 then penOk it.pen else (it.k == 1 || it.k == 2) && noPen it.pen))
def sideOk (n : Int) : Bool := decide (65536 ≤ n) && decide (n ≤ 943718400) && n % 65536 == 0
def pageOk (p : PageP) : Bool := sideOk p.w && sideOk p.h && decide (p.items.length ≤ 4096) && p.items.all itemOk
end Go.Proofs.YtdkgfgmmmjpkgaaGreatDoor

namespace Go.Proofs.YtdkgfgmmmjpkgaaGreatDoor
open Go.RowKit Go.Shelf

theorem clipsLen_le (l : List ClipP) (h : ∀ c ∈ l, c.path.length ≤ 4096) : clipsLen l ≤ 655365 * l.length := by
  induction l with
  | nil => simp [clipsLen]
  | cons c r ih =>
    have h1 := ih fun x hx => h x (List.mem_cons_of_mem _ hx)
    have h2 := h c (List.mem_cons_self ..)
    rw [clipsLen, List.length_cons]
    omega
theorem pathOk_len {l : List SegP} (h : pathOk l = true) : l.length ≤ 4096 := by
  rw [pathOk, Bool.and_eq_true] at h
  exact of_decide_eq_true h.1
theorem clipsOk_len {l : List ClipP} (h : clipsOk l = true) : clipsLen l ≤ 11000000 := by
  rw [clipsOk, Bool.and_eq_true] at h
  have h1 := of_decide_eq_true h.1
  have h2 := clipsLen_le l fun c hc => by
    have := List.all_eq_true.1 h.2 c hc
    rw [clipOk, Bool.and_eq_true] at this
    exact pathOk_len this.2
  omega
theorem noPen_facts {p : PenP} (h : noPen p = true) : ((0 ≤ p.cap ∧ p.cap ≤ 2) ∧ 0 ≤ p.join ∧ p.join ≤ 2) ∧ p.dash.length ≤ 11 := by
  simp only [noPen, Bool.and_eq_true, beq_iff_eq, List.isEmpty_iff] at h
  obtain ⟨⟨⟨⟨⟨-, h1⟩, h2⟩, -⟩, h3⟩, -⟩ := h
  rw [h1, h2, h3]
  simp
theorem penOk_facts {p : PenP} (h : penOk p = true) : ((0 ≤ p.cap ∧ p.cap ≤ 2) ∧ 0 ≤ p.join ∧ p.join ≤ 2) ∧ p.dash.length ≤ 11 := by
  simp only [penOk, Bool.and_eq_true, decide_eq_true_eq] at h
  obtain ⟨⟨⟨⟨⟨⟨⟨⟨⟨⟨⟨-, -⟩, h1⟩, h2⟩, h3⟩, h4⟩, -⟩, -⟩, -⟩, -⟩, h5⟩, -⟩ := h
  exact ⟨⟨⟨h1, h2⟩, h3, h4⟩, h5⟩
theorem itemOk_facts {it : ItemP} (h : itemOk it = true) : (it.col.sp = 1 ∨ it.col.sp = 3 ∨ it.col.sp = 4) ∧ ((0 ≤ it.pen.cap ∧ it.pen.cap ≤ 2) ∧ 0 ≤ it.pen.join ∧ it.pen.join ≤ 2) ∧ (0 ≤ it.font ∧ it.font ≤ 13) ∧ it.bytes.length ≤ 65535 ∧ clipsLen it.clips ≤ 11000000 ∧ it.path.length ≤ 4096 ∧ it.pen.dash.length ≤ 11 := by
  simp only [itemOk, Bool.and_eq_true] at h
  obtain ⟨⟨hc, hcl⟩, hr⟩ := h
  have h1 : it.col.sp = 1 ∨ it.col.sp = 3 ∨ it.col.sp = 4 := by
    simp only [colOk, Bool.and_eq_true, Bool.or_eq_true, beq_iff_eq] at hc
    obtain ⟨⟨⟨⟨h1, -⟩, -⟩, -⟩, -⟩ := hc
    rcases h1 with (h1 | h1) | h1
    · exact .inl h1
    · exact .inr (.inl h1)
    · exact .inr (.inr h1)
  have h2 := clipsOk_len hcl
  refine ⟨h1, ?_⟩
  cases h4 : (it.k == 4) with
  | true =>
    rw [h4, if_pos rfl] at hr
    simp only [Bool.and_eq_true, lettersOk, decide_eq_true_eq, List.isEmpty_iff] at hr
    obtain ⟨⟨⟨⟨⟨⟨a1, a2⟩, -⟩, a3⟩, -⟩, a4⟩, a5⟩ := hr
    have h5 := noPen_facts a5
    exact ⟨h5.1, ⟨a1, a2⟩, a3, h2, by rw [a4]; simp, h5.2⟩
  | false =>
    rw [h4, if_neg Bool.false_ne_true] at hr
    simp only [Bool.and_eq_true, beq_iff_eq, List.isEmpty_iff] at hr
    obtain ⟨⟨⟨⟨⟨a1, -⟩, a2⟩, -⟩, a3⟩, a4⟩ := hr
    have h5 : ((0 ≤ it.pen.cap ∧ it.pen.cap ≤ 2) ∧ 0 ≤ it.pen.join ∧ it.pen.join ≤ 2) ∧ it.pen.dash.length ≤ 11 := by
      by_cases h3 : it.k = 3
      · rw [if_pos h3] at a4; exact penOk_facts a4
      · rw [if_neg h3, Bool.and_eq_true] at a4
        exact noPen_facts a4.2
    exact ⟨h5.1, by rw [a1]; decide, by rw [a2]; simp, h2, pathOk_len a3, h5.2⟩
/-- The fonts in the order in which they come up. -/
def stepF (fs : List Int) (it : ItemP) : List Int := if it.k == 4 then addFont fs it.font else fs
theorem stepF_len (fs : List Int) (it : ItemP) : (stepF fs it).length ≤ fs.length + 1 := by
  rw [stepF]
  split
  · rw [addFont]; split <;> simp
  · omega
theorem foldF_len : ∀ (l : List ItemP) (fs : List Int), (l.foldl stepF fs).length ≤ fs.length + l.length
  | [], fs => by simp
  | it :: r, fs => by
    have h1 := foldF_len r (stepF fs it)
    have h2 := stepF_len fs it
    rw [List.foldl_cons, List.length_cons]
    omega
def soZ : SoP := ⟨⟨0, 0, 0, 0, 0⟩, ⟨0, 0, 0, 0, 0⟩, ⟨0, 0, 0, 0, [], 0⟩⟩
/-- The writer's first state as it lies in memory: what is outside is zero until clips open. -/
def st1 : StP := ⟨so0, soZ, []⟩
def writer0 : Array Value := #[.slice none 0 0, .int .i64 0, .int .i8 0] ++ restC st1 none 0 none 0 none 0 (.slice none 0 0)
theorem dr_begin (T : TypeId) (w0 W : World) (ok : Nat → Prop) (hok : ok W.heap.size) : DrAt T w0 ok W.heap.size [] st1 [] (W.alloc (.cells writer0 T)) := by
  refine ⟨none, 0, none, 0, none, 0, .slice none 0 0, ⟨⟨hok, by simp [Value.ownBlock]⟩, .inl ⟨rfl, 0, ?_⟩⟩, ⟨⟨.inl rfl, by decide, by decide⟩, .inl rfl, by decide, by decide⟩, ⟨⟨fun _ => #[], .inl rfl, fun i hi => absurd hi (Nat.not_lt_zero _)⟩, by decide, by decide⟩, ?_, fun k hk => by simp [Value.ownBlock] at hk⟩
  · exact heap_alloc_new W _
  · exact ⟨by simp, .inl ⟨rfl, rfl⟩⟩
/-- Two states that part in what is outside alone, where no clips are open. -/
def SameSt (a b : StP) : Prop := a.so = b.so ∧ a.clips = b.clips ∧ (a.clips = [] ∨ a.outer = b.outer)
theorem SameSt.item {a b : StP} (h : SameSt a b) (it : ItemP) : itemB a it = itemB b it ∧ SameSt (itemSt a it) (itemSt b it) := by
  obtain ⟨so, oa, cl⟩ := a
  obtain ⟨so', ob, cl'⟩ := b
  obtain ⟨h1, h2, h3⟩ := h
  simp only at h1 h2 h3
  subst h1 h2
  rcases h3 with rfl | rfl
  · have hb : ∀ o, badB ⟨so, o, []⟩ it.clips = false := fun o => by simp [badB, eqClips]
    have hn : ∀ o, boundN ⟨so, o, []⟩ it.clips = 0 := fun o => by simp [boundN, hb]
    have hs : ∀ o, boundSo ⟨so, o, []⟩ it.clips = so := fun o => by simp [boundSo, hb]
    have hop : ∀ o, boundOpen ⟨so, o, []⟩ it.clips = decide (0 < it.clips.length) := fun o => by simp [boundOpen, hn]
    refine ⟨?_, ?_, rfl, ?_⟩
    · simp only [itemB, boundB, hb, hn, hs, hop]
    · simp only [itemSt, hs]
    · simp only [itemSt, boundOuter, hop, hs]
      cases hc : it.clips with
      | nil => exact .inl rfl
      | cons x r => exact .inr (by simp)
  · exact ⟨rfl, rfl, rfl, .inr rfl⟩
theorem SameSt.run : ∀ (l : List ItemP) (acc : List UInt8) (a b : StP), SameSt a b → (match runB acc a l, runB acc b l with
    | none, none => True
    | some x, some y => x.1 = y.1 ∧ SameSt x.2 y.2
    | _, _ => False)
  | [], acc, a, b, h => ⟨rfl, h⟩
  | it :: r, acc, a, b, h => by
    obtain ⟨h1, h2⟩ := h.item it
    rw [runB, runB, h1]
    by_cases hb : 1048576 < (acc ++ itemB b it).length
    · rw [if_pos hb, if_pos hb]
      trivial
    · rw [if_neg hb, if_neg hb]
      exact SameSt.run r _ _ _ h2
theorem contentB_st1 (l : List ItemP) : contentB l = (match runB [] st1 l with
    | none => none
    | some (acc, st) => if 1048576 < (acc ++ (if st.clips.isEmpty then [] else [81, 10])).length then none else some (acc ++ (if st.clips.isEmpty then [] else [81, 10]))) := by
  have h := SameSt.run l [] st0 st1 ⟨rfl, rfl, .inl rfl⟩
  rw [contentB]
  cases h0 : runB [] st0 l with
  | none =>
    cases h1 : runB [] st1 l with
    | none => rfl
    | some y => rw [h0, h1] at h; exact h.elim
  | some x =>
    cases h1 : runB [] st1 l with
    | none => rw [h0, h1] at h; exact h.elim
    | some y =>
      rw [h0, h1] at h
      obtain ⟨xa, xs⟩ := x
      obtain ⟨ya, ys⟩ := y
      obtain ⟨e1, -, e2, -⟩ := h
      simp only at e1 e2
      simp only [e1, e2]
end Go.Proofs.YtdkgfgmmmjpkgaaGreatDoor

namespace Go.Proofs
open Go.Shelf
def Tryz.lays189_ren : Go.Shelf.Ren := ⟨fun | 189 => 22 | 125 => 51 | 257 => 50 | 128 => 97 | 129 => 98 | 294 => 88 | 295 => 89 | 296 => 90 | 297 => 91 | 298 => 92 | 299 => 93 | 216 => 94 | 300 => 95 | 301 => 96 | 328 => 128 | 329 => 129 | 330 => 130 | 331 => 131 | 332 => 132 | 215 => 133 | 343 => 156 | n => n, fun | 28 => 28 | 3 => 3 | 46 => 108 | 0 => 0 | 51 => 147 | 53 => 95 | 4 => 4 | 183 => 140 | 182 => 139 | 131 => 133 | 5 => 5 | 9 => 9 | 218 => 172 | 222 => 176 | 228 => 196 | 229 => 197 | n => n, fun | n => n⟩
theorem Tryz.lays189 : Go.Proofs.Lays.n189 Tryz.prog Tryz.lays189_ren := {
  mixed := by kernel_rfl
  f125 := Tryz.func51.trans (congrArg some (by kernel_rfl))
  f128 := Tryz.func97.trans (congrArg some (by kernel_rfl))
  f129 := Tryz.func98.trans (congrArg some (by kernel_rfl))
  f189 := Tryz.func22.trans (congrArg some (by kernel_rfl))
  f215 := Tryz.func133.trans (congrArg some (by kernel_rfl))
  f216 := Tryz.func94.trans (congrArg some (by kernel_rfl))
  f257 := Tryz.func50.trans (congrArg some (by kernel_rfl))
  f294 := Tryz.func88.trans (congrArg some (by kernel_rfl))
  f295 := Tryz.func89.trans (congrArg some (by kernel_rfl))
  f296 := Tryz.func90.trans (congrArg some (by kernel_rfl))
  f297 := Tryz.func91.trans (congrArg some (by kernel_rfl))
  f298 := Tryz.func92.trans (congrArg some (by kernel_rfl))
  f299 := Tryz.func93.trans (congrArg some (by kernel_rfl))
  f300 := Tryz.func95.trans (congrArg some (by kernel_rfl))
  f301 := Tryz.func96.trans (congrArg some (by kernel_rfl))
  f328 := Tryz.func128.trans (congrArg some (by kernel_rfl))
  f329 := Tryz.func129.trans (congrArg some (by kernel_rfl))
  f330 := Tryz.func130.trans (congrArg some (by kernel_rfl))
  f331 := Tryz.func131.trans (congrArg some (by kernel_rfl))
  f332 := Tryz.func132.trans (congrArg some (by kernel_rfl))
  f343 := Tryz.func156.trans (congrArg some (by kernel_rfl))
  t0 := Tryz.underlying0
  a0 := Tryz.isAgg0
  z0 := Tryz.sizeOf0
  v0 := Tryz.zeroValue0
  t3 := Tryz.underlying3
  a3 := Tryz.isAgg3
  z3 := Tryz.sizeOf3
  v3 := Tryz.zeroValue3
  t4 := Tryz.underlying4
  a4 := Tryz.isAgg4
  z4 := Tryz.sizeOf4
  v4 := Tryz.zeroValue4
  t5 := Tryz.underlying5
  a5 := Tryz.isAgg5
  z5 := Tryz.sizeOf5
  v5 := Tryz.zeroValue5
  t9 := Tryz.underlying9
  a9 := Tryz.isAgg9
  z9 := Tryz.sizeOf9
  v9 := Tryz.zeroValue9
  t28 := Tryz.underlying28
  a28 := Tryz.isAgg28
  z28 := Tryz.sizeOf28
  v28 := Tryz.zeroValue28
  t46 := Tryz.underlying108
  a46 := Tryz.isAgg108
  z46 := Tryz.sizeOf108
  v46 := Tryz.zeroValue108
  t51 := Tryz.underlying147
  a51 := Tryz.isAgg147
  z51 := Tryz.sizeOf147
  v51 := Tryz.zeroValue147
  t53 := Tryz.underlying95
  a53 := Tryz.isAgg95
  z53 := Tryz.sizeOf95
  v53 := Tryz.zeroValue95
  t131 := Tryz.underlying133
  a131 := Tryz.isAgg133
  z131 := Tryz.sizeOf133
  v131 := Tryz.zeroValue133
  t182 := Tryz.underlying139
  a182 := Tryz.isAgg139
  z182 := Tryz.sizeOf139
  v182 := Tryz.zeroValue139
  t183 := Tryz.underlying140
  a183 := Tryz.isAgg140
  z183 := Tryz.sizeOf140
  v183 := Tryz.zeroValue140
  t218 := Tryz.underlying172
  a218 := Tryz.isAgg172
  z218 := Tryz.sizeOf172
  v218 := Tryz.zeroValue172
  t222 := Tryz.underlying176
  a222 := Tryz.isAgg176
  z222 := Tryz.sizeOf176
  v222 := Tryz.zeroValue176
  t228 := Tryz.underlying196
  a228 := Tryz.isAgg196
  z228 := Tryz.sizeOf196
  v228 := Tryz.zeroValue196
  t229 := Tryz.underlying197
  a229 := Tryz.isAgg197
  z229 := Tryz.sizeOf197
  v229 := Tryz.zeroValue197 }
open Go.Sort Go.RowKit in
theorem Tryz.slices_Sort_int (blk off cap : Nat) (zs : List Int) (w : World) (hH : Holds (Value.int .i64) w blk off zs.toArray) (hblk : blk < w.heap.size) (hsz : zs.length < 4611686018427387904) :
    Calls Tryz.prog 22 #[.slice (some ⟨blk, off, none⟩) zs.length cap] w fun e w' =>
      e = .returned (.tuple #[]) ∧ ∃ n os, w' = grow (putRow (Value.int .i64) (Sort.ahead w n) blk off (zs.mergeSort fun x y => decide (x ≤ y)).toArray) os := Any.slices_Sort_int Tryz.lays189 blk off cap zs w hH hblk hsz
open Go.RowKit Go.Sort in
/-- .. and plain. (LAID: no walk: one application.) -/
theorem Tryz.slices_Sort_int_none (p : Option Addr) (cap : Nat) (w : World) :
    Calls Tryz.prog 22 #[.slice p 0 cap] w fun e w' => e = .returned (.tuple #[]) ∧ w' = w := Any.slices_Sort_int_none Tryz.lays189 p cap w
end Go.Proofs

namespace Go.Proofs.YtdkgfgmmmjpkgaaGreatDoor
open Go.RowKit Go.Shelf

theorem runB_app : ∀ (a b : List ItemP) (acc : List UInt8) (st : StP), runB acc st (a ++ b) = (runB acc st a).bind fun x => runB x.1 x.2 b
  | [], b, acc, st => rfl
  | it :: r, b, acc, st => by
    rw [List.cons_append, runB, runB]
    split
    · rfl
    · exact runB_app r b _ _
theorem runB_take (l : List ItemP) (k : Nat) (h : k < l.length) {acc : List UInt8} {st : StP} (hk : runB [] st1 (l.take k) = some (acc, st)) :
    runB [] st1 (l.take (k + 1)) = if 1048576 < (acc ++ itemB st l[k]).length then none else some (acc ++ itemB st l[k], itemSt st l[k]) := by
  rw [List.take_add_one, List.getElem?_eq_getElem h, runB_app, hk]
  show runB acc st [l[k]] = _
  rw [runB]
  rfl
theorem runB_none (l : List ItemP) (k : Nat) (hk : runB [] st1 (l.take k) = none) : runB [] st1 l = none := by
  rw [← List.take_append_drop k l, runB_app, hk]
  rfl
theorem runB_len : ∀ (l : List ItemP) (acc : List UInt8) (st : StP) (acc' : List UInt8) (st' : StP), acc.length ≤ 1048576 → runB acc st l = some (acc', st') → acc'.length ≤ 1048576
  | [], acc, st, acc', st', h, e => by
    cases e
    exact h
  | it :: r, acc, st, acc', st', h, e => by
    rw [runB] at e
    split at e
    · cases e
    · exact runB_len r _ _ acc' st' (by omega) e

set_option maxHeartbeats 6400000 in
set_option maxRecDepth 100000 in
theorem content_no (p : PageP) (v : Array Value) (w : World) (hv : PageRd w p v) (hs : ∀ W, Below w.heap.size w W → Calls Tryz.prog 17 #[.agg v] W fun e w' => e = .returned (.bool (pageOk p)) ∧ Below W.heap.size W w') (hno : pageOk p = false) :
    Calls Tryz.prog 10 #[.agg v] w fun e w' => e = .returned (.tuple #[.slice none 0 0, .slice none 0 0, .int .i64 22]) ∧ Below w.heap.size w w' := by
  obtain ⟨A, c, rfl, hI, hl, hc⟩ := hv
  rw [hno] at hs
  have HS := Lib.hid (fun X => hs (w.alloc X) (below_alloc w X))
  clear hs hno hI
  go_enter Tryz.func10, Tryz.ntmps10
  go_wp2_with fail
  refine (HS.out _).mono ?_
  rintro e w1 ⟨rfl, b1⟩
  have B1 := Lib.hid b1
  clear b1
  go_wp2_with fail
  go_ret3
  refine ⟨rfl, ?_⟩
  exact (below_alloc w _).trans (B1.out.mono (by simp))
end Go.Proofs.YtdkgfgmmmjpkgaaGreatDoor

namespace Go.Proofs.YtdkgfgmmmjpkgaaGreatDoor
open Go.RowKit Go.Shelf

theorem fsort_calls (W : World) (B : Nat) (vf : Value) (fs : List Int) (hl : fs.length ≤ 100000) (h : W.ownsRow B 3 1 vf fs.length (fs.map (Value.int .i64))) :
    Calls Tryz.prog 22 #[vf] W fun e w' => e = .returned (.tuple #[]) ∧ ∃ Af cf, vf = .slice Af fs.length cf ∧ Fr (fun k => some k = vf.ownBlock) W w' ∧ IntsAt w' Af (fs.mergeSort fun x y => decide (x ≤ y)) := by
  have hsl : (fs.mergeSort fun x y => decide (x ≤ y)).length = fs.length := List.length_mergeSort ..
  rcases h.2 with ⟨rfl, h0⟩ | ⟨g, cap, cur, rfl, hb, hg, h1, h2, h3, h4⟩
  · obtain rfl := List.eq_nil_of_length_eq_zero h0
    exact (Tryz.slices_Sort_int_none none 0 W).mono fun e w' h' => ⟨h'.1, none, 0, rfl, by rw [h'.2]; exact Fr.refl _ _, .inl (by simp)⟩
  · have hg2 : g < W.heap.size := Lib.lt_of_heap hg
    have hH : Go.Sort.Holds (Value.int .i64) W g 0 fs.toArray := fun j hj => by
      have hj' : j < fs.length := by simpa using hj
      refine ⟨?_, by simp [World.frozen?, hg]⟩
      have := h.cells rfl j (.int .i64 (fs.getD j 0)) (by simp [List.getD_eq_getElem?_getD, hj'])
      rw [Lib.addr_add] at this
      rw [this]
      simp [List.getD_eq_getElem?_getD, hj', getElem!_pos]
    refine (Tryz.slices_Sort_int g 0 cap fs W hH hg2 (by omega)).mono ?_
    rintro e w' ⟨rfl, n, os, rfl⟩
    refine ⟨rfl, some ⟨g, 0, none⟩, cap, rfl, ⟨rfl, rfl, rfl, ?_, ?_⟩, ?_⟩
    · simp [Go.Sort.grow]
    · intro k hk hne
      have hkg : k ≠ g := fun he => hne (by rw [he]; rfl)
      simp [Go.Sort.grow, Go.Sort.putRow, Go.Sort.mapBlock, Go.Sort.ahead, Array.getElem?_append, hk]
      rw [Array.getElem_modify, if_neg hkg.symm]
    · refine ints_cells _ g 0 _ fun i hi => ?_
      have hP := Go.Sort.holds_putRow (Value.int .i64) (Go.Sort.ahead W n) g 0 fs.toArray (fs.mergeSort fun x y => decide (x ≤ y)).toArray (Go.Sort.holds_ahead _ _ _ _ _ _ hH) (by simp [hsl])
      have h5 := (hP i (by simpa using hi)).1
      have h6 : (fs.mergeSort fun x y => decide (x ≤ y)).toArray[i]! = (fs.mergeSort fun x y => decide (x ≤ y))[i] := by
        rw [getElem!_pos _ i (by simpa using hi)]
        rfl
      rw [h6] at h5
      rw [← h5]
      refine World.cell?_of_block (w := Go.Sort.putRow (Value.int .i64) (Go.Sort.ahead W n) g 0 (fs.mergeSort fun x y => decide (x ≤ y)).toArray) ?_
      show (Go.Sort.grow _ os).heap[g]? = _
      have h7 : g < (Go.Sort.putRow (Value.int .i64) (Go.Sort.ahead W n) g 0 (fs.mergeSort fun x y => decide (x ≤ y)).toArray).heap.size := by simpa using hg2
      rw [Go.Sort.grow]
      exact Array.getElem?_append_left h7
end Go.Proofs.YtdkgfgmmmjpkgaaGreatDoor

namespace Go.Proofs.YtdkgfgmmmjpkgaaGreatDoor
open Go.RowKit Go.Shelf

theorem bytes_head {T : TypeId} {rest : Array Value} {b : Nat} {A : Option Addr} {n c : Nat} {lr : Int} (W : World) (h1 : Head T rest b (.slice A n c) lr W) :
    Calls Tryz.prog 23 #[.pointer (some ⟨b, 0, none⟩)] W fun e w' => e = .returned (.slice A n c) ∧ ∃ m, w' = W.drewN m := by
  have c0 := h1.c0; have c1 := h1.c1
  clear h1
  go_enter Tryz.func23, Tryz.ntmps23
  go_wp2
  go_quiet (fail)
  go_wp2
  go_ret
  exact ⟨rfl, _, rfl⟩
/-- A slice that holds bytes. -/
def BSl (w : World) (A : Option Addr) (c : Nat) (bs : List UInt8) : Prop := BytesAt w A bs ∧ bs.length ≤ c ∧ c ≤ maxLen ∧ ((A = none ∧ bs = [] ∧ c = 0) ∨ ∃ g, A = some ⟨g, 0, none⟩)
theorem BSl.keep {w w' : World} {A : Option Addr} {c : Nat} {bs : List UInt8} (h : BSl w A c bs) (hb : Below w.heap.size w w') : BSl w' A c bs := ⟨h.1.keep hb, h.2⟩
theorem bytes_fix {T : TypeId} {rest : Array Value} {ok : Nat → Prop} {b : Nat} {bs : List UInt8} (w : World) (h : BufAt 5 T rest ok b bs w) :
    ∃ A c, BSl w A c bs ∧ ∀ n, Calls Tryz.prog 23 #[.pointer (some ⟨b, 0, none⟩)] (w.drewN n) fun e w' => e = .returned (.slice A bs.length c) ∧ ∃ m, w' = (w.drewN n).drewN m := by
  rcases h.2 with ⟨rfl, lr, h1⟩ | ⟨g, cap, cur, lr, h1, h2, h3, h4, h5, h6, h7, h8, h9⟩
  · exact ⟨none, 0, ⟨fun j v hj => by simp [Lib.byteCells] at hj, Nat.le_refl _, Nat.zero_le _, .inl ⟨rfl, rfl, rfl⟩⟩, fun n => bytes_head (w.drewN n) h1⟩
  · exact ⟨some ⟨g, 0, none⟩, cap, ⟨fun j v hj => ⟨_, rfl, Lib.cells_of_row h4 bs.length j v (by rw [h9]; exact hj)⟩, h6, h7, .inr ⟨g, rfl⟩⟩, fun n => bytes_head (w.drewN n) h1⟩
end Go.Proofs.YtdkgfgmmmjpkgaaGreatDoor

namespace Go.Proofs.YtdkgfgmmmjpkgaaGreatDoor
open Go.RowKit Go.Shelf

theorem writer0_eq : writer0 = #[Value.slice none 0 0, .int .i64 0, .int .i8 0, .int .i64 1, .int .i64 0, .int .i64 0, .int .i64 0, .int .i64 0, .int .i64 1, .int .i64 0, .int .i64 0, .int .i64 0, .int .i64 0, .int .i64 65536, .int .i64 0, .int .i64 0, .int .i64 655360, .slice none 0 0, .int .i64 0, .int .i64 0, .int .i64 0, .int .i64 0, .int .i64 0, .int .i64 0, .int .i64 0, .int .i64 0, .int .i64 0, .int .i64 0, .int .i64 0, .int .i64 0, .int .i64 0, .int .i64 0, .int .i64 0, .slice none 0 0, .int .i64 0, .slice none 0 0, .slice none 0 0] := by
  simp [writer0, restC, soC, colC, penC, st1, so0, soZ, black, pen0]
theorem wpList_store_new {P : Program} {ops : Array Oper} {rest : List Oper} {op : Oper} {a : Act} {W : World} {Q : Exit → Act → World → Prop} (hgd : op.guard = none) (ty : TypeId) (x y : Operand) (ho : op.op = .store ty x y)
    (c c' : Array Value) (hx : a.eval x = .pointer (some ⟨W.heap.size, 0, none⟩)) (hy : a.eval y = .agg c') (hi : (P.info? ty).map (·.size) = some c'.size) (hs : c.size = c'.size) (h1 : c'.all (·.oneCell') = true)
    (h : wpList P ops Q rest (a.put op.dst undef) (W.alloc (.cells c' ty))) : wpList P ops Q (op :: rest) a (W.alloc (.cells c ty)) :=
  wpList_plain hgd fun _ hK => by
    unfold Oper.wp execOp
    simp only [ho, hx, hy, Instr.storeAt, Instr.sureAddr, Sem.run_bind, Sem.run_pure, Result.andThen_ok, run_storeVar_new W ty c c' hi hs h1]
    exact hK _ _ h

theorem DrAt.alloc {T : TypeId} {w0 w : World} {ok : Nat → Prop} {b : Nat} {bs : List UInt8} {st : StP} {fs : List Int} (h : DrAt T w0 ok b bs st fs w) (o : Obj) : DrAt T w0 ok b bs st fs (w.alloc o) := (h.box o).unbox
theorem DrAt.drewN {T : TypeId} {w0 w : World} {ok : Nat → Prop} {b : Nat} {bs : List UInt8} {st : StP} {fs : List Int} (h : DrAt T w0 ok b bs st fs w) (n : Nat) : DrAt T w0 ok b bs st fs (w.drewN n) := by
  obtain ⟨Ad, cd, Ao, co, Ac, cc, vf, hB, hD, hC, hf, hfo⟩ := h
  exact ⟨Ad, cd, Ao, co, Ac, cc, vf, hB.below (below_drewN (Below.refl _ _) n), hD, hC, owns_drewN hf n, hfo⟩
theorem dlen_calls {T : TypeId} {w0 w : World} {ok : Nat → Prop} {b : Nat} {bs : List UInt8} {st : StP} {fs : List Int} (h : DrAt T w0 ok b bs st fs w) :
    Calls Tryz.prog 20 #[.pointer (some ⟨b, 0, none⟩)] w fun e w' => e = .returned (.int .i64 bs.length) ∧ ∃ n, w' = w.drewN n := by
  obtain ⟨Ad, cd, Ao, co, Ac, cc, vf, hB, hD, hC, hf, hfo⟩ := h
  exact len_any w hB
/-- What Content answers, by its bytes (or none) and the fonts. -/
def ContRes (cb : Option (List UInt8)) (fs : List Int) (e : Ending) (w' : World) : Prop :=
  match cb with
  | none => e = .returned (.tuple #[.slice none 0 0, .slice none 0 0, .int .i64 25])
  | some bs => ∃ A c Af cf, e = .returned (.tuple #[.slice A bs.length c, .slice Af fs.length cf, .int .i64 0]) ∧ BSl w' A c bs ∧ IntsAt w' Af (fs.mergeSort fun x y => decide (x ≤ y))
theorem take_fold (l : List ItemP) (k : Nat) (h : k < l.length) : (l.take (k + 1)).foldl stepF [] = stepF ((l.take k).foldl stepF []) l[k] := by
  rw [List.take_add_one, List.getElem?_eq_getElem h, List.foldl_append]
  rfl

set_option maxHeartbeats 6400000 in
set_option maxRecDepth 100000 in
theorem content_yes (p : PageP) (v : Array Value) (w : World) (hv : PageRd w p v) (ht : Tab w) (hs : ∀ W, Below w.heap.size w W → Calls Tryz.prog 17 #[.agg v] W fun e w' => e = .returned (.bool (pageOk p)) ∧ Below W.heap.size W w') (hyes : pageOk p = true) :
    Calls Tryz.prog 10 #[.agg v] w fun e w' => Below w.heap.size w w' ∧ ContRes (contentB p.items) (p.items.foldl stepF []) e w' := by
  obtain ⟨A, c, rfl, hI, hl, hc⟩ := hv
  have hok : (∀ it ∈ p.items, itemOk it = true) ∧ p.items.length ≤ 4096 := by
    simp only [pageOk, Bool.and_eq_true, decide_eq_true_eq] at hyes
    exact ⟨List.all_eq_true.1 hyes.2, hyes.1.2⟩
  obtain ⟨hit, hlen⟩ := hok
  rw [hyes] at hs
  have HS := Lib.hid (fun X => hs (w.alloc X) (below_alloc w X))
  have HIT := Lib.hid hit
  have HI := Lib.hid hI
  have HT := Lib.hid ht
  have HCB := Lib.hid (show contentB p.items = (match runB [] st1 p.items with
    | none => none
    | some (acc, st) => if 1048576 < (acc ++ (if st.clips.isEmpty then [] else [81, 10])).length then none else some (acc ++ (if st.clips.isEmpty then [] else [81, 10]))) from contentB_st1 _)
  generalize contentB p.items = cb at *
  generalize p.items = l at *
  clear hs hyes hI hit ht
  go_enter Tryz.func10, Tryz.ntmps10
  go_wp2_with fail
  refine (HS.out _).mono ?_
  rintro e w1 ⟨rfl, b1⟩
  have B1 := Lib.hid ((below_alloc w _).trans (b1.mono (by simp)))
  have y2 : w1.cell? ⟨w.heap.size, 2, none⟩ = some (.slice A l.length c) := by
    rw [b1.cell (by simp), Lib.cell_of_heap (heap_alloc_new w _)]
    rfl
  clear b1
  go_wp2_with fail
  refine (start_calls w1).mono ?_
  rintro e w2 ⟨rfl, b2⟩
  have B2 := Lib.hid (B1.out.trans (b2.mono B1.out.size))
  have z2 : w2.cell? ⟨w.heap.size, 2, none⟩ = some (.slice A l.length c) := by
    rw [b2.cell (World.block_lt_of_cell? w1 _ y2), y2]
  have hlt2 := World.block_lt_of_cell? w2 _ z2
  simp only at hlt2
  clear b2 y2
  have D0 : Hid (DrAt 69 w (fun k => w.heap.size ≤ k) w2.heap.size [] st1 [] (w2.alloc (.cells writer0 69))) := dr_begin 69 w w2 (fun k => w.heap.size ≤ k) (Nat.le_of_lt hlt2)
  have B3 := Lib.hid (B2.out.trans ((below_alloc w2 (.cells writer0 69)).mono B2.out.size))
  rw [writer0_eq] at D0 B3
  unfold so0A
  go_wp2_with fail
  go_loopw [7, 17] (fun _ v wr => ∃ (k : Nat) (acc : List UInt8) (st : StP), k ≤ l.length ∧ v = .int .i64 k ∧ Hid (runB [] st1 (l.take k) = some (acc, st)) ∧ Hid (DrAt 69 w (fun k => w.heap.size ≤ k) w2.heap.size acc st ((l.take k).foldl stepF []) wr) ∧ Hid (Below w.heap.size w wr)) (fun _ v _ => l.length - (intOf v).toNat)
  case atStart => exact ⟨0, [], st1, Nat.zero_le _, rfl, rfl, D0, B3⟩
  case round =>
    clear D0 B3
    obtain ⟨k, acc, st, hk, rfl, hrun, hD, hB⟩ := hrel
    have hal := runB_len _ _ _ _ _ (by simp) hrun.out
    have hfl : ((l.take k).foldl stepF []).length ≤ 4096 := by
      have := foldF_len (l.take k) []
      rw [List.length_take] at this
      simp only [List.length_nil] at this
      omega
    by_cases hlt : k < l.length
    · obtain ⟨ab, aoff, X, rfl, hX, hcells⟩ := HI.out.elem k hlt
      have hfa := itemOk_facts (HIT.out _ (List.getElem_mem hlt))
      have hrt := runB_take l k hlt hrun.out
      have hft := take_fold l k hlt
      have HRG := Lib.hid (show wr.rangeAt ab (aoff + k * 22) X.toList from fun j u hj => by
        have h1 := hcells j u (by rw [← hj]; exact Array.getElem?_toList.symm)
        exact (hB.out.cell (World.block_lt_of_cell? w _ h1)).trans h1)
      have hX0 := hX
      obtain ⟨Ap, cp, Ac, cc, Ad, cd, Ab, cb', hve, -, -, -, -⟩ := hX0
      have HXE := Lib.hid hve
      have HXI := Lib.hid (show (Tryz.prog.info? 50).map (·.size) = some X.toList.length from by rw [show X.toList.length = 22 from by rw [hve]; rfl]; kernel_rfl)
      generalize l[k] = it at *
      generalize (l.take k).foldl stepF [] = fs at *
      have HIC := Lib.hid (item_calls it X w (wr.alloc (.cells X 50)) st fs hX hfa.1 hfa.2.1 hfa.2.2.1 hfa.2.2.2.1 HT.out (hD.out.alloc _) (fun q hq => by have := hB.out.size; simp only [World.size_alloc] at hq; omega) (hB.out.trans ((below_alloc wr _).mono hB.out.size)) (fun q hq => hq) (by have := hfa.2.2.2.2; omega) (by omega))
      have HR2 := Lib.hid (show (wr.alloc (.cells X 50)).rangeAt wr.heap.size 0 X.toList from fun j u hj => by
        rw [Nat.zero_add, Lib.cell_of_heap (heap_alloc_new wr _), ← hj]
        exact Array.getElem?_toList.symm)
      have HXS := Lib.hid (show X.size = 22 from by rw [hve]; rfl)
      have HX1 := Lib.hid (show X.all (·.oneCell') = true from by rw [hve]; simp [Value.oneCell'])
      have HXJ := Lib.hid (show (Tryz.prog.info? 50).map (·.size) = some X.size from by rw [HXS.out]; kernel_rfl)
      have HRT := Lib.hid hrt
      have HFT := Lib.hid hft
      clear hcells hX hve hfa hrt hft
      go_wp2_with (first
        | (refine wpList_load_mid rfl 50 _ rfl ab (aoff + k * 22) rfl X.toList _ HRG.out Tryz.underlying50 rfl HXI.out ?_; simp only [Array.toArray_toList])
        | (refine wpList_store_new rfl 50 _ _ rfl _ X rfl rfl HXJ.out HXS.out.symm HX1.out ?_)
        | (refine wpList_load_mid rfl 50 _ rfl wr.heap.size 0 rfl X.toList _ HR2.out Tryz.underlying50 rfl HXI.out ?_; simp only [Array.toArray_toList]))
      refine HIC.out.mono ?_
      rintro e w4 ⟨rfl, d4, f4⟩
      have D4 := Lib.hid d4
      have hB4 : Hid (w.heap.size ≤ (wr.alloc (.cells X 50)).heap.size) := Nat.le_trans hB.out.size (by simp)
      have F4 := Lib.hid f4
      clear d4 f4
      go_wp2_with fail
      generalize acc ++ itemB st it = nx at *
      have HLN := Lib.hid (dlen_calls D4.out)
      have HCN := Lib.hid (show 1048576 < nx.length → cb = none from fun hb => by
        rw [HCB.out, runB_none l (k + 1) (by rw [HRT.out, if_pos hb])])
      refine HLN.out.mono ?_
      rintro e w5 ⟨rfl, n5, rfl⟩
      by_cases hbig : 1048576 < nx.length
      · have q1 : decide ((1048576 : Int) < (nx.length : Int)) = true := decide_eq_true (by omega)
        have HC0 := Lib.hid (HCN.out hbig)
        go_wp2_with fail
        go_ret3
        exact ⟨(hB.out.trans ((below_alloc wr _).mono hB.out.size)).trans (below_drewN (F4.out.below hB4.out) n5), by rw [HC0.out]; rfl⟩
      · have q1 : decide ((1048576 : Int) < (nx.length : Int)) = false := decide_eq_false (by omega)
        have HR5 : Hid (runB [] st1 (l.take (k + 1)) = some (nx, itemSt st it)) := by
          show _ = _
          rw [HRT.out, if_neg hbig]
        have D5 : Hid (DrAt 69 w (fun k => w.heap.size ≤ k) w2.heap.size nx (itemSt st it) ((l.take (k + 1)).foldl stepF []) (w4.drewN n5)) := by
          show DrAt _ _ _ _ _ _ _ _
          rw [HFT.out]
          exact D4.out.drewN n5
        have B5 := Lib.hid ((hB.out.trans ((below_alloc wr _).mono hB.out.size)).trans (below_drewN (F4.out.below hB4.out) n5))
        go_wp2_with fail
        go_roundw
        case rel => exact ⟨k + 1, _, _, by omega, by go_num, HR5, D5, B5⟩
        case measure => simp [intOf]; omega
    · obtain rfl : k = l.length := by omega
      rw [List.take_length] at hrun hD
      have hcb : Hid (cb = if 1048576 < (acc ++ (if st.clips.isEmpty then [] else [81, 10])).length then none else some (acc ++ (if st.clips.isEmpty then [] else [81, 10]))) := by
        show _ = _
        rw [HCB.out, hrun.out]
      have hr35 : ∃ Ac cc, wr.cell? ⟨w2.heap.size, 35, none⟩ = some (.slice Ac st.clips.length cc) := by
        obtain ⟨Ad, cd, Ao, co, Ac, cc, vf, hBf, -⟩ := hD.out
        exact ⟨Ac, cc, hBf.rest_cell 32 (.slice Ac st.clips.length cc) rfl⟩
      obtain ⟨Ac, cc, r35⟩ := hr35
      have HQL := Lib.hid (dline_calls ⟨#[81]⟩ (by decide) hD.out (fun q hq => by have := hB.out.size; omega) (by omega))
      obtain ⟨qs, hqs⟩ : ∃ qs : List UInt8, qs = if st.clips.isEmpty then [] else [81, 10] := ⟨_, rfl⟩
      rw [← hqs] at hcb
      have hql : qs.length ≤ 2 := by rw [hqs]; split <;> simp
      have HQS := Lib.hid hqs
      clear HCB hrun hfl hqs
      go_upto_if 35 with fail
      go_cut [] (fun wx => Hid (DrAt 69 w (fun k => w.heap.size ≤ k) w2.heap.size (acc ++ qs) st (l.foldl stepF []) wx) ∧ Hid (Below w.heap.size w wx))
      case first =>
        by_cases q1 : 0 < st.clips.length
        · have HQE : Hid (qs = [81, 10]) := by
            show _ = _
            rw [HQS.out, if_neg]
            intro h
            rw [List.isEmpty_iff.1 h] at q1
            exact Nat.lt_irrefl _ q1
          go_wp2_with fail
          refine HQL.out.mono ?_
          rintro e w6 ⟨rfl, d6, f6⟩
          have D6 : Hid (DrAt 69 w (fun k => w.heap.size ≤ k) w2.heap.size (acc ++ qs) st (l.foldl stepF []) w6) := by
            show DrAt _ _ _ _ _ _ _ _
            rw [HQE.out]
            exact d6
          have B6 := Lib.hid (hB.out.trans (f6.below hB.out.size))
          clear d6 f6
          go_wp2_with fail
          go_meet
          exact ⟨D6, B6⟩
        · have HQE : Hid (qs = []) := by
            show _ = _
            rw [HQS.out, if_pos (List.isEmpty_iff.2 (List.eq_nil_of_length_eq_zero (by omega)))]
          have D6 : Hid (DrAt 69 w (fun k => w.heap.size ≤ k) w2.heap.size (acc ++ qs) st (l.foldl stepF []) wr) := by
            show DrAt _ _ _ _ _ _ _ _
            rw [HQE.out, List.append_nil]
            exact hD.out
          go_wp2_with fail
          go_meet
          exact ⟨D6, hB⟩
      case rest =>
        clear hD hB HQL r35 HQS
        obtain ⟨D6, B6⟩ := hcut
        generalize wc = w6 at *
        generalize acc ++ qs = nx at *
        have HLN := Lib.hid (dlen_calls D6.out)
        go_wp2_with fail
        refine HLN.out.mono ?_
        rintro e w7 ⟨rfl, n7, rfl⟩
        by_cases hbig : 1048576 < nx.length
        · have q1 : decide ((1048576 : Int) < (nx.length : Int)) = true := decide_eq_true (by omega)
          have HC0 := Lib.hid (show cb = none from by rw [hcb.out, if_pos hbig])
          go_wp2_with fail
          go_ret3
          exact ⟨below_drewN B6.out n7, by rw [HC0.out]; rfl⟩
        · have q1 : decide ((1048576 : Int) < (nx.length : Int)) = false := decide_eq_false (by omega)
          have HC0 := Lib.hid (show cb = some nx from by rw [hcb.out, if_neg hbig])
          obtain ⟨Ad, cd, Ao, co, Ac, cc, vf, hBf, -, -, hf, hfo⟩ := D6.out.drewN n7
          have B7 := Lib.hid (below_drewN B6.out n7)
          have r36 := hBf.rest_cell 33 vf rfl
          simp only [Nat.reduceAdd] at r36
          have hfl : (l.foldl stepF []).length ≤ 4096 := by
            have := foldF_len l []
            simp only [List.length_nil] at this
            omega
          have HSO := Lib.hid (fsort_calls (w6.drewN n7) w.heap.size vf _ (by omega) hf)
          have HBF := Lib.hid hBf
          have HFO := Lib.hid hfo
          clear D6 HLN hBf hf hfo hcb
          go_wp2_with fail
          refine HSO.out.mono ?_
          rintro e w8 ⟨rfl, Af, cf, rfl, f8, i8⟩
          have hB8 := HBF.out.move (w' := w8) fun q hq ho => f8.block q hq fun he => ho.2 he
          have s36 := hB8.rest_cell 33 _ rfl
          simp only [Nat.reduceAdd] at s36
          obtain ⟨Ab, cb8, hby, hcall⟩ := bytes_fix w8 hB8
          have HCALL := Lib.hid hcall
          have HBY := Lib.hid hby
          have HI8 := Lib.hid i8
          have B8 := Lib.hid (keeps (B7.out) f8 (fun q hq => by have := HFO.out q hq.symm; exact this))
          clear hB8 hby hcall i8 f8 r36 HSO
          go_wp2_with fail
          go_quiet ((go_at_call 23; exact Calls.quiet_of (HCALL.out _)))
          go_wp2_with fail
          go_ret3
          exact ⟨below_drewN B8.out _, by rw [HC0.out]; exact ⟨Ab, cb8, Af, cf, rfl, HBY.out, HI8.out⟩⟩
end Go.Proofs.YtdkgfgmmmjpkgaaGreatDoor

namespace Go.Proofs.YtdkgfgmmmjpkgaaGreatDoor
open Go.RowKit Go.Shelf

theorem sideOk_eq (n : Int) : sideOk n = (decide (65536 ≤ n) && (decide (n ≤ 943718400) && (n.tmod 65536 == 0))) := by
  rw [sideOk, Bool.and_assoc]
  by_cases h : 65536 ≤ n
  · rw [Int.tmod_eq_emod_of_nonneg (by omega)]
  · simp [h]
set_option maxHeartbeats 800000 in
set_option maxRecDepth 100000 in
theorem side_calls (n : Int) (w : World) : Calls Tryz.prog 38 #[.int .i64 n] w fun e w' => e = .returned (.bool (sideOk n)) ∧ w = w' := by
  have HQ := Lib.hid (sideOk_eq n)
  cases h1 : decide (65536 ≤ n) with
  | false =>
    have HE := Lib.hid (show sideOk n = false from by rw [HQ.out, h1]; rfl)
    go_enter Tryz.func38, Tryz.ntmps38
    go_wp2_with fail
    go_ret
    exact ⟨by rw [HE.out]; rfl, rfl⟩
  | true =>
    cases h2 : decide (n ≤ 943718400) with
    | false =>
      have HE := Lib.hid (show sideOk n = false from by rw [HQ.out, h1, h2]; rfl)
      go_enter Tryz.func38, Tryz.ntmps38
      go_wp2_with fail
      go_ret
      exact ⟨by rw [HE.out]; rfl, rfl⟩
    | true =>
      cases h3 : (n.tmod 65536 == 0) with
      | false =>
        have HE := Lib.hid (show sideOk n = false from by rw [HQ.out, h1, h2, h3]; rfl)
        go_enter Tryz.func38, Tryz.ntmps38
        go_wp2_with fail
        all_goals (
          go_ret
          exact ⟨by rw [HE.out]; rfl, rfl⟩)
      | true =>
        have HE := Lib.hid (show sideOk n = true from by rw [HQ.out, h1, h2, h3]; rfl)
        go_enter Tryz.func38, Tryz.ntmps38
        go_wp2_with fail
        all_goals (
          go_ret
          exact ⟨by rw [HE.out]; rfl, rfl⟩)
end Go.Proofs.YtdkgfgmmmjpkgaaGreatDoor

namespace Go.Proofs.YtdkgfgmmmjpkgaaGreatDoor
open Go.RowKit Go.Shelf

theorem noPen_eq (p0 p1 p2 p3 p5 : Int) (d : List Int) : noPen ⟨p0, p1, p2, p3, d, p5⟩ = ((p0 == 0) && ((p1 == 0) && ((p2 == 0) && ((p3 == 0) && (((d.length : Int) == 0) && (p5 == 0)))))) := by
  have h : d.isEmpty = ((d.length : Int) == 0) := by cases d <;> simp <;> omega
  rw [noPen]
  simp only [h, Bool.and_assoc]
set_option maxHeartbeats 1600000 in
set_option maxRecDepth 100000 in
theorem none_calls (p : PenP) (A : Option Addr) (c : Nat) (w : World) : Calls Tryz.prog 72 #[.agg (penA p A c)] w fun e w' => e = .returned (.bool (noPen p)) ∧ Below w.heap.size w w' := by
  obtain ⟨p0, p1, p2, p3, d, p5⟩ := p
  have HQ := Lib.hid (noPen_eq p0 p1 p2 p3 p5 d)
  unfold penA
  simp only
  cases h0 : (p0 == 0) with
  | false =>
    have HE := Lib.hid (show noPen ⟨p0, p1, p2, p3, d, p5⟩ = false from by rw [HQ.out, h0]; rfl)
    go_enter Tryz.func72, Tryz.ntmps72
    go_wp2_with fail
    go_ret
    exact ⟨by rw [HE.out]; rfl, below_alloc w _⟩
  | true =>
    cases h1 : (p1 == 0) with
    | false =>
      have HE := Lib.hid (show noPen ⟨p0, p1, p2, p3, d, p5⟩ = false from by rw [HQ.out, h0, h1]; rfl)
      go_enter Tryz.func72, Tryz.ntmps72
      go_wp2_with fail
      go_ret
      exact ⟨by rw [HE.out]; rfl, below_alloc w _⟩
    | true =>
      cases h2 : (p2 == 0) with
      | false =>
        have HE := Lib.hid (show noPen ⟨p0, p1, p2, p3, d, p5⟩ = false from by rw [HQ.out, h0, h1, h2]; rfl)
        go_enter Tryz.func72, Tryz.ntmps72
        go_wp2_with fail
        go_ret
        exact ⟨by rw [HE.out]; rfl, below_alloc w _⟩
      | true =>
        cases h3 : (p3 == 0) with
        | false =>
          have HE := Lib.hid (show noPen ⟨p0, p1, p2, p3, d, p5⟩ = false from by rw [HQ.out, h0, h1, h2, h3]; rfl)
          go_enter Tryz.func72, Tryz.ntmps72
          go_wp2_with fail
          go_ret
          exact ⟨by rw [HE.out]; rfl, below_alloc w _⟩
        | true =>
          cases h4 : ((d.length : Int) == 0) with
          | false =>
            have HE := Lib.hid (show noPen ⟨p0, p1, p2, p3, d, p5⟩ = false from by rw [HQ.out, h0, h1, h2, h3, h4]; rfl)
            go_enter Tryz.func72, Tryz.ntmps72
            go_wp2_with fail
            go_ret
            exact ⟨by rw [HE.out]; rfl, below_alloc w _⟩
          | true =>
            cases h5 : (p5 == 0) with
            | false =>
              have HE := Lib.hid (show noPen ⟨p0, p1, p2, p3, d, p5⟩ = false from by rw [HQ.out, h0, h1, h2, h3, h4, h5]; rfl)
              go_enter Tryz.func72, Tryz.ntmps72
              go_wp2_with fail
              go_ret
              exact ⟨by rw [HE.out]; rfl, below_alloc w _⟩
            | true =>
              have HE := Lib.hid (show noPen ⟨p0, p1, p2, p3, d, p5⟩ = true from by rw [HQ.out, h0, h1, h2, h3, h4, h5]; rfl)
              go_enter Tryz.func72, Tryz.ntmps72
              go_wp2_with fail
              go_ret
              exact ⟨by rw [HE.out]; rfl, below_alloc w _⟩
end Go.Proofs.YtdkgfgmmmjpkgaaGreatDoor

namespace Go.Proofs.YtdkgfgmmmjpkgaaGreatDoor
open Go.RowKit Go.Shelf

set_option maxHeartbeats 800000 in
set_option maxRecDepth 100000 in
theorem points_calls (k : Int) (w : World) : Calls Tryz.prog 112 #[.int .i64 k] w fun e w' => e = .returned (.int .i64 (nPts k)) ∧ w = w' := by
  have HQ := Lib.hid (show nPts k = if k == 1 || k == 2 then 1 else if k == 3 then 3 else if k == 4 then 0 else -1 from rfl)
  cases h1 : (k == 1) with
  | true =>
    have HE := Lib.hid (show nPts k = 1 from by rw [HQ.out, h1]; rfl)
    go_enter Tryz.func112, Tryz.ntmps112
    go_wp2_with fail
    go_ret
    exact ⟨by rw [HE.out]; rfl, rfl⟩
  | false =>
    cases h2 : (k == 2) with
    | true =>
      have HE := Lib.hid (show nPts k = 1 from by rw [HQ.out, h1, h2]; rfl)
      go_enter Tryz.func112, Tryz.ntmps112
      go_wp2_with fail
      go_ret
      exact ⟨by rw [HE.out]; rfl, rfl⟩
    | false =>
      cases h3 : (k == 3) with
      | true =>
        have HE := Lib.hid (show nPts k = 3 from by rw [HQ.out, h1, h2, h3]; rfl)
        go_enter Tryz.func112, Tryz.ntmps112
        go_wp2_with fail
        go_ret
        exact ⟨by rw [HE.out]; rfl, rfl⟩
      | false =>
        cases h4 : (k == 4) with
        | true =>
          have HE := Lib.hid (show nPts k = 0 from by rw [HQ.out, h1, h2, h3, h4]; rfl)
          go_enter Tryz.func112, Tryz.ntmps112
          go_wp2_with fail
          go_ret
          exact ⟨by rw [HE.out]; rfl, rfl⟩
        | false =>
          have HE := Lib.hid (show nPts k = -1 from by rw [HQ.out, h1, h2, h3, h4]; rfl)
          go_enter Tryz.func112, Tryz.ntmps112
          go_wp2_with fail
          go_ret
          exact ⟨by rw [HE.out]; rfl, rfl⟩
set_option maxHeartbeats 800000 in
set_option maxRecDepth 100000 in
theorem follows_calls (k last : Int) (w : World) : Calls Tryz.prog 113 #[.int .i64 k, .int .i64 last] w fun e w' => e = .returned (.bool (followsB k last)) ∧ w = w' := by
  have HQ := Lib.hid (show followsB k last = if k == 1 then last != 1 else last != 0 && last != 4 from rfl)
  cases h1 : (k == 1) with
  | true =>
    have HE := Lib.hid (show followsB k last = (last != 1) from by rw [HQ.out, h1]; rfl)
    go_enter Tryz.func113, Tryz.ntmps113
    go_wp2_with fail
    go_ret
    exact ⟨by rw [HE.out]; rfl, rfl⟩
  | false =>
    cases h2 : (last != 0) with
    | false =>
      have HE := Lib.hid (show followsB k last = false from by rw [HQ.out, h1, h2]; rfl)
      go_enter Tryz.func113, Tryz.ntmps113
      go_wp2_with fail
      go_ret
      exact ⟨by rw [HE.out]; rfl, rfl⟩
    | true =>
      have HE := Lib.hid (show followsB k last = (last != 4) from by rw [HQ.out, h1, h2]; rfl)
      go_enter Tryz.func113, Tryz.ntmps113
      go_wp2_with fail
      go_ret
      exact ⟨by rw [HE.out]; rfl, rfl⟩
end Go.Proofs.YtdkgfgmmmjpkgaaGreatDoor

namespace Go.Proofs.YtdkgfgmmmjpkgaaGreatDoor
open Go.RowKit Go.Shelf

set_option maxHeartbeats 800000 in
set_option maxRecDepth 100000 in
theorem nofit_calls (x y : Int) (w : World) : Calls Tryz.prog 145 #[.agg #[.int .i64 x, .int .i64 y]] w fun e w' => e = .returned (.bool (!fit2 (x, y))) ∧ Below w.heap.size w w' := by
  have HQ := Lib.hid (show fit2 (x, y) = (fitsB x && fitsB y) from rfl)
  have HX := Lib.hid (fun W => (Fits_calls x W).mono (fun e w' (h : e = .returned (.bool (fitsB x)) ∧ W = w') => (⟨h.1, h.2.symm⟩ : e = .returned (.bool (fitsB x)) ∧ w' = W)))
  have HY := Lib.hid (fun W => (Fits_calls y W).mono (fun e w' (h : e = .returned (.bool (fitsB y)) ∧ W = w') => (⟨h.1, h.2.symm⟩ : e = .returned (.bool (fitsB y)) ∧ w' = W)))
  generalize fitsB x = qx at *
  generalize fitsB y = qy at *
  go_enter Tryz.func145, Tryz.ntmps145
  cases qx with
  | false =>
    have HE := Lib.hid (show (!fit2 (x, y)) = true from by rw [HQ.out]; rfl)
    go_wp2_with (go_at_call 111; refine (HX.out _).mono ?_; rintro e w2 ⟨rfl, rfl⟩)
    go_ret
    exact ⟨by rw [HE.out]; rfl, below_alloc w _⟩
  | true =>
    have HE := Lib.hid (show (!fit2 (x, y)) = !qy from by rw [HQ.out]; rfl)
    go_wp2_with (go_at_call 111; first | (refine (HX.out _).mono ?_; rintro e w2 ⟨rfl, rfl⟩) | (refine (HY.out _).mono ?_; rintro e w2 ⟨rfl, rfl⟩))
    go_ret
    exact ⟨by rw [HE.out]; rfl, below_alloc w _⟩
end Go.Proofs.YtdkgfgmmmjpkgaaGreatDoor

namespace Go.Proofs.YtdkgfgmmmjpkgaaGreatDoor
open Go.RowKit Go.Shelf

set_option maxHeartbeats 1600000 in
set_option maxRecDepth 100000 in
theorem idx_fits (bad : Nat → Bool) (n c : Nat) (A : Option Addr) (cs : Nat → Array Value) (caps : Array Value) (w : World) (hs : ∀ i, i < n → (cs i).size = 2) (hrow : RowAt w A n 2 cs) (hlc : n ≤ c) (hcm : c ≤ 9223372036854775807)
    (hc : ∀ i, i < n → ∀ W, Below w.heap.size w W → Calls Tryz.prog 145 (#[.agg (cs i)] ++ caps) W fun e w' => e = .returned (.bool (bad i)) ∧ Below W.heap.size W w') :
    Calls Tryz.prog 146 #[.slice A n c, .func (.func 145) #[] caps] w fun e w' => ∃ q : Int, e = .returned (.int .i64 q) ∧ Hid (decide (0 ≤ q) = (List.range n).any bad) ∧ Below w.heap.size w w' := by
  have HS := Lib.hid hs
  have HROW := Lib.hid hrow
  have HC := Lib.hid hc
  clear hs hrow hc
  go_enter Tryz.func146, Tryz.ntmps146
  go_wp2_with fail
  go_loopw [5, 8] (fun _ v wr => ∃ i : Nat, i ≤ n ∧ v = .int .i64 i ∧ Hid (∀ j, j < i → bad j = false) ∧ Hid (Below w.heap.size w wr)) (fun _ v _ => n - (intOf v).toNat)
  case atStart => exact ⟨0, Nat.zero_le _, rfl, fun j hj => absurd hj (Nat.not_lt_zero _), Below.refl _ _⟩
  case round =>
    obtain ⟨i, hi, rfl, hD, hB⟩ := hrel
    by_cases hlt : i < n
    · obtain ⟨b, off, hA, hcell⟩ := RowAt.elem (RowAt.keep HROW.out hB.out) i hlt
      subst hA
      have HRG := Lib.hid (show wr.rangeAt b (off + i * 2) (cs i).toList from fun j u hj => hcell j u (by rw [← hj]; exact Array.getElem?_toList.symm))
      have HXI := Lib.hid (show (Tryz.prog.info? 54).map (·.size) = some (cs i).toList.length from by rw [Array.length_toList, HS.out i hlt]; kernel_rfl)
      have HCC := Lib.hid (HC.out i hlt wr hB.out)
      clear hcell
      generalize cs i = X at *
      go_wp2_with (refine wpList_load_mid rfl 54 _ rfl b (off + i * 2) rfl X.toList _ HRG.out Tryz.underlying54 rfl HXI.out ?_; simp only [Array.toArray_toList])
      refine HCC.out.mono ?_
      rintro e w1 ⟨rfl, h1⟩
      have H1 := Lib.hid (hB.out.trans (h1.mono hB.out.size))
      clear h1
      generalize hb : bad i = bb
      have HBB := Lib.hid hb
      clear hb
      cases bb
      · have hn : Hid (∀ j, j < i + 1 → bad j = false) := fun j hj => by
          by_cases hji : j = i
          · rw [hji]; exact HBB.out
          · exact hD.out j (by omega)
        go_wp2_with fail
        go_roundw
        case rel => exact ⟨i + 1, by omega, by go_num, hn, H1⟩
        case measure => simp [intOf]; omega
      · have hn : Hid ((List.range n).any bad = true) := List.any_eq_true.2 ⟨i, List.mem_range.2 hlt, HBB.out⟩
        go_wp2_with fail
        go_ret
        exact ⟨_, rfl, (show decide (0 ≤ (i : Int)) = _ by rw [hn.out]; simp), H1.out⟩
    · obtain rfl : i = n := by omega
      have hn : Hid ((List.range i).any bad = false) := List.any_eq_false.2 fun j hj => by rw [hD.out j (List.mem_range.1 hj)]; simp
      go_wp2_with fail
      go_ret
      exact ⟨_, rfl, (show decide (0 ≤ (-1 : Int)) = _ by rw [hn.out]; rfl), hB.out⟩
set_option maxHeartbeats 1600000 in
set_option maxRecDepth 100000 in
theorem any_fits (bad : Nat → Bool) (n c : Nat) (A : Option Addr) (cs : Nat → Array Value) (caps : Array Value) (w : World) (hs : ∀ i, i < n → (cs i).size = 2) (hrow : RowAt w A n 2 cs) (hlc : n ≤ c) (hcm : c ≤ 9223372036854775807)
    (hc : ∀ i, i < n → ∀ W, Below w.heap.size w W → Calls Tryz.prog 145 (#[.agg (cs i)] ++ caps) W fun e w' => e = .returned (.bool (bad i)) ∧ Below W.heap.size W w') :
    Calls Tryz.prog 115 #[.slice A n c, .func (.func 145) #[] caps] w fun e w' => e = .returned (.bool ((List.range n).any bad)) ∧ Below w.heap.size w w' := by
  have hI := idx_fits bad n c A cs caps w hs hrow hlc hcm hc
  clear hs hrow hc
  go_enter Tryz.func115, Tryz.ntmps115
  go_wp2_with fail
  refine hI.mono ?_
  rintro e w1 ⟨q, rfl, hq, h1⟩
  have H1 := Lib.hid h1
  clear h1
  have HQ := Lib.hid hq.out
  clear hq hI
  go_wp2_with fail
  go_ret
  exact ⟨ret_bool HQ.out, H1.out⟩
end Go.Proofs.YtdkgfgmmmjpkgaaGreatDoor
