/-
  Lemmas, in their order: Soundness: a page. · draw.Content of any page: one answer; the law's answers. · The law's light as the machine runs it. · What holds of a page as a content stream: its first items' bytes stand ahead; a repeated item is written without clips, colour and pen. · A world for the rows' witnesses: the settled one, with the listed variables as their initialisers lay them; what a row's laid list tells of  · What an argument's reading tells: rows, structs, arrays; a page. · The reading of a page that a law is called with.
-/
import Derived.Test.YtdkgfgmmmjpkgaaGreatDoorCards
import Derived.Test.YtdkgfgmmmjpkgaaGreatDoorTie
import Derived.WalkKit
import Derived.ProofKit
import Derived.OpenShut
import Derived.ShutString
import Derived.Deep.DeepHandedRow
import Derived.Deep.DeepWitnessRowRef
import Derived.Lib.LaidTab
import Derived.ChangeBears2
import Derived.Carry
import Derived.DataReads
import Derived.Test.YtdkgfgmmmjpkgaaGreatDoorM7

namespace Go.Proofs.YtdkgfgmmmjpkgaaGreatDoor
open Go.RowKit Go.Shelf

set_option maxHeartbeats 1600000 in
set_option maxRecDepth 100000 in
theorem itembad_calls (it : ItemP) (v : Array Value) (w : World) (hv : ItemRd w it v) (hF : FTab w) : Calls Tryz.prog 40 #[.agg v] w fun e w' => e = .returned (.bool (!itemOk it)) ∧ Below w.heap.size w w' := by
  have hv0 := hv
  obtain ⟨Ap, cp, Ac, cc, Ad, cd, Ab, cb, hve, ⟨hp1, hp2, hp3⟩, ⟨hc1, hc2, hc3⟩, ⟨hd1, hd2, hd3⟩, ⟨hb1, hb2, hb3⟩⟩ := hv
  obtain ⟨X, hX⟩ : ∃ X, X = v := ⟨_, rfl⟩
  rw [← hX] at hve hv0 ⊢
  clear hX
  have HCE := Lib.hid (show ∀ W, Below (w.heap.size + 1) (w.alloc (.cells X 50)) W → ∀ j v, X[j]? = some v → W.cell? ⟨w.heap.size, j, none⟩ = some v from fun W hW j v hj => by
    rw [hW.cell (by simp), Lib.cell_of_heap (heap_alloc_new w _)]
    exact hj)
  have HBW := Lib.hid (show ∀ W, Below (w.heap.size + 1) (w.alloc (.cells X 50)) W → Below w.heap.size w W from fun W hW => (below_alloc w _).trans (hW.mono (by omega)))
  have HB0 := Lib.hid (Below.refl (w.heap.size + 1) (w.alloc (.cells X 50)))
  have HXA := Lib.hid (show ∀ W, Below (w.heap.size + 1) (w.alloc (.cells X 50)) W → W.rangeAt w.heap.size 0 X.toList from fun W hW j v hj => by
    rw [Nat.zero_add]
    exact HCE.out W hW j v (by rw [← hj]; exact Array.getElem?_toList.symm))
  have HXI := Lib.hid (show (Tryz.prog.info? 50).map (·.size) = some X.toList.length from by rw [show X.toList.length = 22 from by rw [hve]; rfl]; kernel_rfl)
  have HXA2 := Lib.hid (HXA.out _ HB0.out)
  have HIO := Lib.hid (item_ok_calls it X (w.alloc (.cells X 50)) (hv0.keep (HBW.out _ HB0.out)) (hF.keep (HBW.out _ HB0.out)))
  have HXE := Lib.hid hve
  clear hv0 hve hp1 hc1 hd1 hb1 hF
  generalize itemOk it = Q at *
  rw [HXE.out] at HXA2 HXI
  go_enter Tryz.func40, Tryz.ntmps40
  rw [HXE.out]
  go_wp2_with (refine wpList_load_mid rfl 50 _ rfl w.heap.size 0 rfl _ _ HXA2.out Tryz.underlying50 rfl HXI.out ?_)
  rw [← HXE.out]
  refine HIO.out.mono ?_
  rintro e w1 ⟨rfl, b1⟩
  have HB1 := Lib.hid (HB0.out.trans (b1.mono (by simp)))
  clear b1 HIO
  go_wp2_with fail
  go_ret
  exact ⟨rfl, HBW.out _ HB1.out⟩

set_option maxHeartbeats 1600000 in
set_option maxRecDepth 100000 in
theorem idx_items (bad : Nat → Bool) (n c : Nat) (A : Option Addr) (cs : Nat → Array Value) (caps : Array Value) (w : World) (hs : ∀ i, i < n → (cs i).size = 22) (hrow : RowAt w A n 22 cs) (hlc : n ≤ c) (hcm : c ≤ 9223372036854775807)
    (hc : ∀ i, i < n → ∀ W, Below w.heap.size w W → Calls Tryz.prog 40 (#[.agg (cs i)] ++ caps) W fun e w' => e = .returned (.bool (bad i)) ∧ Below W.heap.size W w') :
    Calls Tryz.prog 68 #[.slice A n c, .func (.func 40) #[] caps] w fun e w' => ∃ q : Int, e = .returned (.int .i64 q) ∧ Hid (decide (0 ≤ q) = (List.range n).any bad) ∧ Below w.heap.size w w' := by
  have HS := Lib.hid hs
  have HROW := Lib.hid hrow
  have HC := Lib.hid hc
  clear hs hrow hc
  go_enter Tryz.func68, Tryz.ntmps68
  go_wp2_with fail
  go_loopw [5, 8] (fun _ v wr => ∃ i : Nat, i ≤ n ∧ v = .int .i64 i ∧ Hid (∀ j, j < i → bad j = false) ∧ Hid (Below w.heap.size w wr)) (fun _ v _ => n - (intOf v).toNat)
  case atStart => exact ⟨0, Nat.zero_le _, rfl, fun j hj => absurd hj (Nat.not_lt_zero _), Below.refl _ _⟩
  case round =>
    obtain ⟨i, hi, rfl, hD, hB⟩ := hrel
    by_cases hlt : i < n
    · obtain ⟨b, off, hA, hcell⟩ := RowAt.elem (RowAt.keep HROW.out hB.out) i hlt
      subst hA
      have HRG := Lib.hid (show wr.rangeAt b (off + i * 22) (cs i).toList from fun j u hj => hcell j u (by rw [← hj]; exact Array.getElem?_toList.symm))
      have HXI := Lib.hid (show (Tryz.prog.info? 50).map (·.size) = some (cs i).toList.length from by rw [Array.length_toList, HS.out i hlt]; kernel_rfl)
      have HCC := Lib.hid (HC.out i hlt wr hB.out)
      clear hcell
      generalize cs i = X at *
      go_wp2_with (refine wpList_load_mid rfl 50 _ rfl b (off + i * 22) rfl X.toList _ HRG.out Tryz.underlying50 rfl HXI.out ?_; simp only [Array.toArray_toList])
      refine HCC.out.mono ?_
      rintro e w1 ⟨rfl, h1⟩
      have H1 := Lib.hid (hB.out.trans (h1.mono hB.out.size))
      clear h1
      generalize hb : bad i = bb
      have HBB := Lib.hid hb
      clear hb
      cases bb
      · have hn : Hid (∀ j, j < i + 1 → bad j = false) := fun j hj => by
          by_cases hji : j = i
          · rw [hji]; exact HBB.out
          · exact hD.out j (by omega)
        go_wp2_with fail
        go_roundw
        case rel => exact ⟨i + 1, by omega, by go_num, hn, H1⟩
        case measure => simp [intOf]; omega
      · have hn : Hid ((List.range n).any bad = true) := List.any_eq_true.2 ⟨i, List.mem_range.2 hlt, HBB.out⟩
        go_wp2_with fail
        go_ret
        exact ⟨_, rfl, (show decide (0 ≤ (i : Int)) = _ by rw [hn.out]; simp), H1.out⟩
    · obtain rfl : i = n := by omega
      have hn : Hid ((List.range i).any bad = false) := List.any_eq_false.2 fun j hj => by rw [hD.out j (List.mem_range.1 hj)]; simp
      go_wp2_with fail
      go_ret
      exact ⟨_, rfl, (show decide (0 ≤ (-1 : Int)) = _ by rw [hn.out]; rfl), hB.out⟩
set_option maxHeartbeats 1600000 in
set_option maxRecDepth 100000 in
theorem any_items (bad : Nat → Bool) (n c : Nat) (A : Option Addr) (cs : Nat → Array Value) (caps : Array Value) (w : World) (hs : ∀ i, i < n → (cs i).size = 22) (hrow : RowAt w A n 22 cs) (hlc : n ≤ c) (hcm : c ≤ 9223372036854775807)
    (hc : ∀ i, i < n → ∀ W, Below w.heap.size w W → Calls Tryz.prog 40 (#[.agg (cs i)] ++ caps) W fun e w' => e = .returned (.bool (bad i)) ∧ Below W.heap.size W w') :
    Calls Tryz.prog 39 #[.slice A n c, .func (.func 40) #[] caps] w fun e w' => e = .returned (.bool ((List.range n).any bad)) ∧ Below w.heap.size w w' := by
  have hI := idx_items bad n c A cs caps w hs hrow hlc hcm hc
  clear hs hrow hc
  go_enter Tryz.func39, Tryz.ntmps39
  go_wp2_with fail
  refine hI.mono ?_
  rintro e w1 ⟨q, rfl, hq, h1⟩
  have H1 := Lib.hid h1
  clear h1
  have HQ := Lib.hid hq.out
  clear hq hI
  go_wp2_with fail
  go_ret
  exact ⟨ret_bool HQ.out, H1.out⟩

instance : Inhabited ItemP := ⟨⟨0, [], ⟨0, 0, 0, 0, 0⟩, [], ⟨0, 0, 0, 0, [], 0⟩, 0, 0, 0, 0, 0, 0, 0, []⟩⟩
theorem pageOk_eq (p : PageP) : pageOk p = (sideOk p.w && (sideOk p.h && (decide (p.items.length ≤ 4096) && !(p.items.any fun it => !itemOk it)))) := by
  rw [pageOk, List.all_eq_not_any_not]
  simp only [Bool.and_assoc]
set_option maxHeartbeats 1600000 in
set_option maxRecDepth 100000 in
theorem sound_calls (p : PageP) (v : Array Value) (w : World) (hv : PageRd w p v) (hF : FTab w) : Calls Tryz.prog 17 #[.agg v] w fun e w' => e = .returned (.bool (pageOk p)) ∧ Below w.heap.size w w' := by
  obtain ⟨A, c, rfl, hI, hlc, hcm⟩ := hv
  unfold maxLen at hcm
  have HQ := Lib.hid (pageOk_eq p)
  have HA : Hid (∀ W, Below w.heap.size w W → Calls Tryz.prog 39 #[.slice A p.items.length c, .func (.func 40) #[] #[]] W fun e w' => e = .returned (.bool (p.items.any fun it => !itemOk it)) ∧ Below W.heap.size W w') := fun W hW => by
    obtain ⟨cs, hrow, hcs⟩ := hI.keep hW
    rw [← any_range p.items default]
    refine any_items _ _ c A cs #[] W (fun i hi => by obtain ⟨Ap, cp, Ac, cc, Ad, cd, Ab, cb, hv, -⟩ := hcs i hi; rw [hv]; rfl) hrow hlc hcm fun i hi W' hW' => ?_
    have := itembad_calls p.items[i] (cs i) W' ((hcs i hi).keep hW') ((hF.keep hW).keep hW')
    rw [List.getD_eq_getElem?_getD, List.getElem?_eq_getElem hi]
    exact this
  have HS1 := Lib.hid (fun W => side_calls p.w W)
  have HS2 := Lib.hid (fun W => side_calls p.h W)
  have HA2 := Lib.hid (HA.out _ (below_alloc w (.cells #[.int .i64 p.w, .int .i64 p.h, .slice A p.items.length c] 24)))
  clear hI hF HA
  generalize pageOk p = Q at *
  generalize (p.items.any fun it => !itemOk it) = qa at *
  generalize sideOk p.w = q1 at *
  generalize sideOk p.h = q2 at *
  generalize p.items.length = n at *
  go_enter Tryz.func17, Tryz.ntmps17
  go_wp2_with fail
  refine (HS1.out _).mono ?_
  rintro e w1 ⟨rfl, rfl⟩
  cases q1 with
  | false =>
    have HE := Lib.hid (show Q = false from by rw [HQ.out]; rfl)
    go_wp2_with fail
    go_ret
    exact ⟨ret_bool HE.out.symm, below_alloc w _⟩
  | true =>
    go_wp2_with fail
    refine (HS2.out _).mono ?_
    rintro e w2 ⟨rfl, rfl⟩
    cases q2 with
    | false =>
      have HE := Lib.hid (show Q = false from by rw [HQ.out]; rfl)
      go_wp2_with fail
      go_ret
      exact ⟨ret_bool HE.out.symm, below_alloc w _⟩
    | true =>
      cases h0 : decide ((n : Int) ≤ 4096) with
      | false =>
        have HE := Lib.hid (show Q = false from by rw [HQ.out, decide_eq_false (show ¬ n ≤ 4096 from by have := of_decide_eq_false h0; omega)]; rfl)
        go_wp2_with fail
        go_ret
        exact ⟨ret_bool HE.out.symm, below_alloc w _⟩
      | true =>
        have HE := Lib.hid (show Q = !qa from by rw [HQ.out, decide_eq_true (show n ≤ 4096 from by have := of_decide_eq_true h0; omega)]; rfl)
        go_wp2_with fail
        refine HA2.out.mono ?_
        rintro e w3 ⟨rfl, b3⟩
        have B3 := Lib.hid ((below_alloc w _).trans (b3.mono (by simp)))
        clear b3 HA2
        go_wp2_with fail
        go_ret
        exact ⟨ret_bool HE.out.symm, B3.out⟩
end Go.Proofs.YtdkgfgmmmjpkgaaGreatDoor

namespace Go.Proofs.YtdkgfgmmmjpkgaaGreatDoor
open Go.RowKit Go.Shelf

def sortF (fs : List Int) : List Int := fs.mergeSort fun x y => decide (x ≤ y)
/-- What draw.Content answers: an error's number, bytes, fonts. -/
def ansB (p : PageP) : Int × List UInt8 × List Int :=
  if pageOk p then (match contentB p.items with
    | none => (25, [], [])
    | some bs => (0, bs, sortF (p.items.foldl stepF []))) else (22, [], [])
def Cont (r : Int × List UInt8 × List Int) (w : World) (e : Ending) (w' : World) : Prop :=
  ∃ A c Af cf, e = .returned (.tuple #[.slice A r.2.1.length c, .slice Af r.2.2.length cf, .int .i64 r.1]) ∧ Hid (BSl w' A c r.2.1) ∧ Hid (IntsAt w' Af r.2.2) ∧ Hid (Below w.heap.size w w')
theorem bsl_nil (w : World) : BSl w none 0 [] := ⟨fun j v hj => by simp [Lib.byteCells] at hj, Nat.le_refl _, Nat.zero_le _, .inl ⟨rfl, rfl, rfl⟩⟩
theorem content_calls (p : PageP) (v : Array Value) (w : World) (hv : PageRd w p v) (ht : Tab w) (hF : FTab w) :
    Calls Tryz.prog 10 #[.agg v] w (Cont (ansB p) w) := by
  have hs : ∀ W, Below w.heap.size w W → Calls Tryz.prog 17 #[.agg v] W fun e w' => e = .returned (.bool (pageOk p)) ∧ Below W.heap.size W w' := fun W hW => sound_calls p v W (hv.keep hW) (hF.keep hW)
  cases hp : pageOk p with
  | false =>
    refine (content_no p v w hv hs hp).mono ?_
    rintro e w' ⟨rfl, hb⟩
    rw [ansB, hp]
    exact ⟨none, 0, none, 0, rfl, bsl_nil w', .inl rfl, hb⟩
  | true =>
    refine (content_yes p v w hv ht hs hp).mono ?_
    rintro e w' ⟨hb, hr⟩
    rw [ansB, hp, if_pos rfl]
    cases hc : contentB p.items with
    | none =>
      rw [hc] at hr
      obtain rfl := (hr : e = _)
      exact ⟨none, 0, none, 0, rfl, bsl_nil w', .inl rfl, hb⟩
    | some bs =>
      rw [hc] at hr
      obtain ⟨A, c, Af, cf, rfl, h1, h2⟩ := (hr : ∃ A c Af cf, _)
      refine ⟨A, c, Af, cf, ?_, h1, h2, hb⟩
      show Ending.returned (.tuple #[.slice A bs.length c, .slice Af (List.foldl stepF [] p.items).length cf, .int .i64 0]) = .returned (.tuple #[.slice A bs.length c, .slice Af (sortF _).length cf, .int .i64 0])
      rw [sortF, List.length_mergeSort]

/-- The page of the law's first question. -/
def pageA : PageP := ⟨65536, 65536, [⟨1, [⟨1, 0, 0, 0, 0, 0, 0⟩], ⟨1, 0, 0, 0, 0⟩, [], ⟨0, 0, 0, 0, [], 0⟩, 0, 0, 0, 0, 0, 0, 0, []⟩]⟩
theorem ans_A : ansB pageA = (0, [48, 32, 48, 32, 109, 10, 102, 10], []) := by
  have h1 : pageOk pageA = true := by decide +kernel
  have h2 : contentB pageA.items = some [48, 32, 48, 32, 109, 10, 102, 10] := by decide +kernel
  have h3 : pageA.items.foldl stepF [] = [] := rfl
  rw [ansB, h1, h2, h3]
  simp [sortF]
def itemAC (r : Nat) : Array Value := #[.int .i64 1, .slice (some ⟨r, 0, none⟩) 1 1, .int .i64 1, .int .i64 0, .int .i64 0, .int .i64 0, .int .i64 0, .slice none 0 0, .int .i64 0, .int .i64 0, .int .i64 0, .int .i64 0, .slice none 0 0, .int .i64 0, .int .i64 0, .int .i64 0, .int .i64 0, .int .i64 0, .int .i64 0, .int .i64 0, .int .i64 0, .slice none 0 0]
theorem rd_A (W : World) (r q : Nat) (h1 : ∀ j v, (segC ⟨1, 0, 0, 0, 0, 0, 0⟩)[j]? = some v → W.cell? ⟨r, j, none⟩ = some v) (h2 : ∀ j v, (itemAC r)[j]? = some v → W.cell? ⟨q, j, none⟩ = some v) :
    PageRd W pageA #[.int .i64 65536, .int .i64 65536, .slice (some ⟨q, 0, none⟩) 1 1] := by
  refine ⟨some ⟨q, 0, none⟩, 1, rfl, ⟨fun _ => itemAC r, .inr ⟨q, 0, rfl, fun i hi j v hj => ?_⟩, fun i hi => ?_⟩, Nat.le_refl _, by decide⟩
  · obtain rfl : i = 0 := by
      have : pageA.items.length = 1 := rfl
      omega
    simp only [Nat.zero_mul, Nat.zero_add]
    exact h2 j v hj
  · obtain rfl : i = 0 := by
      have : pageA.items.length = 1 := rfl
      omega
    refine ⟨some ⟨r, 0, none⟩, 1, none, 0, none, 0, none, 0, rfl, ⟨.inr ⟨r, 0, rfl, fun i hi j v hj => ?_⟩, Nat.le_refl _, by decide⟩, ⟨⟨fun _ => #[], .inl rfl, fun i hi => absurd hi (Nat.not_lt_zero _)⟩, Nat.le_refl _, by decide⟩, ⟨.inl rfl, Nat.le_refl _, by decide⟩, ⟨fun j v hj => by simp [Lib.byteCells, pageA] at hj, Nat.le_refl _, by decide⟩⟩
    obtain rfl : i = 0 := by
      have : (pageA.items[0]).path.length = 1 := rfl
      omega
    simp only [Nat.zero_mul, Nat.zero_add]
    exact h1 j v hj

set_option maxHeartbeats 1600000 in
set_option maxRecDepth 100000 in
theorem answersD_calls (w : World) (ht : Tab w) (hF : FTab w) : Calls Tryz.prog 8 #[] w fun e w' => e = .returned (.bool true) ∧ Below w.heap.size w w' := by
  have hB : Below w.heap.size w ((w.alloc (.cells (segC ⟨1, 0, 0, 0, 0, 0, 0⟩) 57)).alloc (.cells (itemAC w.heap.size) 50)) := (below_alloc w _).trans ((below_alloc _ _).mono (by simp))
  have HC := Lib.hid (content_calls pageA _ ((w.alloc (.cells (segC ⟨1, 0, 0, 0, 0, 0, 0⟩) 57)).alloc (.cells (itemAC w.heap.size) 50)) (rd_A _ w.heap.size (w.heap.size + 1) (fun j v hj => by
      rw [(below_alloc _ _).cell (by simp), Lib.cell_of_heap (heap_alloc_new w _)]
      exact hj) (fun j v hj => by
      have := Lib.cell_of_heap (j := j) (heap_alloc_new (w.alloc (.cells (segC ⟨1, 0, 0, 0, 0, 0, 0⟩) 57)) (.cells (itemAC w.heap.size) 50))
      rw [World.size_alloc] at this
      rw [this]
      exact hj)) (ht.keep hB) (hF.keep hB))
  have HB := Lib.hid hB
  clear ht hF hB
  rw [ans_A] at HC
  unfold segC itemAC at HC HB
  simp only at HC HB
  go_enter Tryz.func8, Tryz.ntmps8
  go_wp2_with fail
  refine HC.out.mono ?_
  rintro e w1 ⟨A, c, Af, cf, rfl, h1, h2, h3⟩
  have hcv : (convert 27 9 (.slice A 8 c)).run Tryz.prog w1 = .ok (.string ⟨#[48, 32, 48, 32, 109, 10, 102, 10]⟩) w1 := convert_bytes w1 A c _ h1.out.1
  have B1 := Lib.hid (HB.out.trans (h3.out.mono HB.out.size))
  clear h1 h2 h3 HC HB
  go_wp2_with fail
  go_ret
  exact ⟨rfl, B1.out⟩

end Go.Proofs.YtdkgfgmmmjpkgaaGreatDoor

namespace Go.Proofs.YtdkgfgmmmjpkgaaGreatDoor
open Go.RowKit Go.Shelf

def itemLight (it : ItemP) : Bool := !decide (500 < it.path.length) && (!decide (3000 < it.bytes.length) && (!decide (20 < it.clips.length) && (!decide (50 < it.pen.dash.length) && it.clips.all fun c => !decide (100 < c.path.length))))
def lightB (p : PageP) : Bool := !decide (100 < p.items.length) && p.items.all itemLight
theorem all_drop {α : Type} (l : List α) (f : α → Bool) (i : Nat) (h : i < l.length) : (l.drop i).all f = (f l[i] && (l.drop (i + 1)).all f) := by
  rw [List.drop_eq_getElem_cons h, List.all_cons]

set_option maxHeartbeats 6400000 in
set_option maxRecDepth 100000 in
theorem light_calls (p : PageP) (v : Array Value) (w : World) (hv : PageRd w p v) : Calls Tryz.prog 9 #[.agg v] w fun e w' => e = .returned (.bool (lightB p)) ∧ Below w.heap.size w w' := by
  obtain ⟨A, c, rfl, hI, hlc, hcm⟩ := hv
  obtain ⟨pw, ph, l⟩ := p
  simp only at hI hlc ⊢
  unfold maxLen at hcm
  have HQ := Lib.hid (show lightB ⟨pw, ph, l⟩ = (!decide (100 < l.length) && (l.drop 0).all itemLight) from rfl)
  have HI := Lib.hid hI
  generalize lightB ⟨pw, ph, l⟩ = Q at *
  clear hI
  have HBW := Lib.hid (show ∀ W, Below (w.heap.size + 1) (w.alloc (.cells #[.int .i64 pw, .int .i64 ph, .slice A l.length c] 24)) W → Below w.heap.size w W from fun W hW => (below_alloc w _).trans (hW.mono (by omega)))
  have HC2 := Lib.hid (show ∀ W, Below (w.heap.size + 1) (w.alloc (.cells #[.int .i64 pw, .int .i64 ph, .slice A l.length c] 24)) W → W.cell? ⟨w.heap.size, 2, none⟩ = some (.slice A l.length c) from fun W hW => by
    rw [hW.cell (by simp), Lib.cell_of_heap (heap_alloc_new w _)]
    rfl)
  have HB0 := Lib.hid (Below.refl (w.heap.size + 1) (w.alloc (.cells #[.int .i64 pw, .int .i64 ph, .slice A l.length c] 24)))
  by_cases hbig : 100 < l.length
  · have q1 : decide ((100 : Int) < (l.length : Int)) = true := decide_eq_true (by omega)
    have HE := Lib.hid (show Q = false from by rw [HQ.out, decide_eq_true hbig]; rfl)
    clear hbig
    go_enter Tryz.func9, Tryz.ntmps9
    go_wp2_with fail
    go_ret
    exact ⟨ret_bool HE.out.symm, below_alloc w _⟩
  have q1 : decide ((100 : Int) < (l.length : Int)) = false := decide_eq_false (by omega)
  have HE0 : Hid (Q = (l.drop 0).all itemLight) := by
    show _ = _
    rw [HQ.out, decide_eq_false hbig]
    rfl
  clear HQ
  go_enter Tryz.func9, Tryz.ntmps9
  go_wp2_with fail
  clear q1
  go_loopw [3, 4, 5] (fun v3 _ _ wr => ∃ i : Nat, i ≤ l.length ∧ v3 = .int .i64 i ∧ Hid (Q = (l.drop i).all itemLight) ∧ Hid (Below (w.heap.size + 1) (w.alloc (.cells #[.int .i64 pw, .int .i64 ph, .slice A l.length c] 24)) wr)) (fun v _ _ _ => l.length - (intOf v).toNat)
  case atStart => exact ⟨0, Nat.zero_le _, rfl, HE0, HB0⟩
  case round =>
    clear HE0 HB0
    obtain ⟨i, hi, rfl, hE, hB⟩ := hrel
    have y2 := HC2.out wr hB.out
    by_cases hlt : i < l.length
    · obtain ⟨b, off, X, rfl, hX, hcells⟩ := (HI.out.keep (HBW.out _ hB.out)).elem i hlt
      have hst := all_drop l itemLight i hlt
      generalize l[i] = it at *
      have HRG := Lib.hid (show wr.rangeAt b (off + i * 22) X.toList from fun j u hj => hcells j u (by rw [← hj]; exact Array.getElem?_toList.symm))
      obtain ⟨Ap, cp, Ac, cc, Ad, cd, Ab, cb, hve, -, ⟨hcl, hcl2, hcl3⟩, -, -⟩ := hX
      have HXI := Lib.hid (show (Tryz.prog.info? 50).map (·.size) = some X.toList.length from by rw [show X.toList.length = 22 from by rw [hve]; rfl]; kernel_rfl)
      have HXS := Lib.hid (show X.size = 22 from by rw [hve]; rfl)
      have HX1 := Lib.hid (show X.all (·.oneCell') = true from by rw [hve]; simp [Value.oneCell'])
      have HXJ := Lib.hid (show (Tryz.prog.info? 50).map (·.size) = some X.size from by rw [HXS.out]; kernel_rfl)
      have HCE := Lib.hid (show ∀ j v, X[j]? = some v → (wr.alloc (.cells X 50)).cell? ⟨wr.heap.size, j, none⟩ = some v from fun j v hj => by
        rw [Lib.cell_of_heap (heap_alloc_new wr _)]
        exact hj)
      have y1 := HCE.out 1 (.slice Ap it.path.length cp) (by rw [hve]; rfl)
      have y7 := HCE.out 7 (.slice Ac it.clips.length cc) (by rw [hve]; rfl)
      have y12 := HCE.out 12 (.slice Ad it.pen.dash.length cd) (by rw [hve]; rfl)
      have y21 := HCE.out 21 (.slice Ab it.bytes.length cb) (by rw [hve]; rfl)
      have HCL := Lib.hid (hcl.keep (below_alloc wr (.cells X 50)))
      have hB2 := Lib.hid (hB.out.trans ((below_alloc wr (.cells X 50)).mono (by have := hB.out.size; simp only [World.size_alloc] at this; omega)))
      have hst2 : Q = (itemLight it && (l.drop (i + 1)).all itemLight) := by rw [hE.out, hst]
      have HST := Lib.hid hst2
      have HIL := Lib.hid (show itemLight it = (!decide (500 < it.path.length) && (!decide (3000 < it.bytes.length) && (!decide (20 < it.clips.length) && (!decide (50 < it.pen.dash.length) && it.clips.all fun c => !decide (100 < c.path.length))))) from rfl)
      clear hcells hve hcl hst hst2
      unfold maxLen at hcl3
      by_cases g1 : 500 < it.path.length
      · have t1 : decide ((500 : Int) < (it.path.length : Int)) = true := decide_eq_true (by omega)
        have HE := Lib.hid (show Q = false from by rw [HST.out, HIL.out, decide_eq_true g1]; rfl)
        clear g1
        go_wp2_with (first
          | (refine wpList_load_mid rfl 50 _ rfl b (off + i * 22) rfl X.toList _ HRG.out Tryz.underlying50 rfl HXI.out ?_; simp only [Array.toArray_toList])
          | (refine wpList_store_new rfl 50 _ _ rfl _ X rfl rfl HXJ.out HXS.out.symm HX1.out ?_))
        go_ret
        exact ⟨ret_bool HE.out.symm, HBW.out _ hB2.out⟩
      have t1 : decide ((500 : Int) < (it.path.length : Int)) = false := decide_eq_false (by omega)
      by_cases g2 : 3000 < it.bytes.length
      · have t2 : decide ((3000 : Int) < (it.bytes.length : Int)) = true := decide_eq_true (by omega)
        have HE := Lib.hid (show Q = false from by rw [HST.out, HIL.out, decide_eq_false g1, decide_eq_true g2]; rfl)
        clear g1 g2
        go_wp2_with (first
          | (refine wpList_load_mid rfl 50 _ rfl b (off + i * 22) rfl X.toList _ HRG.out Tryz.underlying50 rfl HXI.out ?_; simp only [Array.toArray_toList])
          | (refine wpList_store_new rfl 50 _ _ rfl _ X rfl rfl HXJ.out HXS.out.symm HX1.out ?_))
        go_ret
        exact ⟨ret_bool HE.out.symm, HBW.out _ hB2.out⟩
      have t2 : decide ((3000 : Int) < (it.bytes.length : Int)) = false := decide_eq_false (by omega)
      by_cases g3 : 20 < it.clips.length
      · have t3 : decide ((20 : Int) < (it.clips.length : Int)) = true := decide_eq_true (by omega)
        have HE := Lib.hid (show Q = false from by rw [HST.out, HIL.out, decide_eq_false g1, decide_eq_false g2, decide_eq_true g3]; rfl)
        clear g1 g2 g3
        go_wp2_with (first
          | (refine wpList_load_mid rfl 50 _ rfl b (off + i * 22) rfl X.toList _ HRG.out Tryz.underlying50 rfl HXI.out ?_; simp only [Array.toArray_toList])
          | (refine wpList_store_new rfl 50 _ _ rfl _ X rfl rfl HXJ.out HXS.out.symm HX1.out ?_))
        go_ret
        exact ⟨ret_bool HE.out.symm, HBW.out _ hB2.out⟩
      have t3 : decide ((20 : Int) < (it.clips.length : Int)) = false := decide_eq_false (by omega)
      by_cases g4 : 50 < it.pen.dash.length
      · have t4 : decide ((50 : Int) < (it.pen.dash.length : Int)) = true := decide_eq_true (by omega)
        have HE := Lib.hid (show Q = false from by rw [HST.out, HIL.out, decide_eq_false g1, decide_eq_false g2, decide_eq_false g3, decide_eq_true g4]; rfl)
        clear g1 g2 g3 g4
        go_wp2_with (first
          | (refine wpList_load_mid rfl 50 _ rfl b (off + i * 22) rfl X.toList _ HRG.out Tryz.underlying50 rfl HXI.out ?_; simp only [Array.toArray_toList])
          | (refine wpList_store_new rfl 50 _ _ rfl _ X rfl rfl HXJ.out HXS.out.symm HX1.out ?_))
        go_ret
        exact ⟨ret_bool HE.out.symm, HBW.out _ hB2.out⟩
      have t4 : decide ((50 : Int) < (it.pen.dash.length : Int)) = false := decide_eq_false (by omega)
      have HIL2 : Hid (Q = ((it.clips.drop 0).all (fun c => !decide (100 < c.path.length)) && (l.drop (i + 1)).all itemLight)) := by
        show _ = _
        rw [HST.out, HIL.out, decide_eq_false g1, decide_eq_false g2, decide_eq_false g3, decide_eq_false g4]
        rfl
      clear g1 g2 g4 HST HIL
      have hg3 : it.clips.length ≤ 20 := by omega
      clear g3
      go_wp2_with (first
        | (refine wpList_load_mid rfl 50 _ rfl b (off + i * 22) rfl X.toList _ HRG.out Tryz.underlying50 rfl HXI.out ?_; simp only [Array.toArray_toList])
        | (refine wpList_store_new rfl 50 _ _ rfl _ X rfl rfl HXJ.out HXS.out.symm HX1.out ?_))
      clear t1 t2 t3 t4 y1 y12 y21 y2
      go_loop [5] (fun v => ∃ k : Nat, k ≤ it.clips.length ∧ v = .int .i64 k ∧ Hid (Q = ((it.clips.drop k).all (fun c => !decide (100 < c.path.length)) && (l.drop (i + 1)).all itemLight))) (fun v => it.clips.length - (intOf v).toNat)
      case atStart => exact ⟨0, Nat.zero_le _, rfl, HIL2⟩
      case round =>
        clear HIL2
        obtain ⟨k, hk, rfl, hK⟩ := hrel
        by_cases hkl : k < it.clips.length
        · obtain ⟨b2, off2, Ap2, cap2, rfl, z0, z1, -, -, -⟩ := HCL.out.elem k hkl
          have hst := all_drop it.clips (fun c => !decide (100 < c.path.length)) k hkl
          generalize it.clips[k] = cl at *
          have HST := Lib.hid hst
          clear hst z1
          by_cases g : 100 < cl.path.length
          · have t1 : decide ((100 : Int) < (cl.path.length : Int)) = true := decide_eq_true (by omega)
            have HE := Lib.hid (show Q = false from by rw [hK.out, HST.out, decide_eq_true g]; rfl)
            clear g
            go_wp2_with fail
            go_ret
            exact ⟨ret_bool HE.out.symm, HBW.out _ hB2.out⟩
          · have t1 : decide ((100 : Int) < (cl.path.length : Int)) = false := decide_eq_false (by omega)
            have HN : Hid (Q = ((it.clips.drop (k + 1)).all (fun c => !decide (100 < c.path.length)) && (l.drop (i + 1)).all itemLight)) := by
              show _ = _
              rw [hK.out, HST.out, decide_eq_false g]
              rfl
            clear g
            go_wp2_with fail
            go_round
            case rel => exact ⟨k + 1, by omega, by go_num, HN⟩
            case measure => simp [intOf]; omega
        · obtain rfl : k = it.clips.length := by omega
          have HN : Hid (Q = (l.drop (i + 1)).all itemLight) := by
            show _ = _
            rw [hK.out, List.drop_of_length_le (Nat.le_refl _)]
            rfl
          go_wp2_with fail
          go_roundw
          case rel => exact ⟨i + 1, by omega, by go_num, HN, hB2⟩
          case measure => simp [intOf]; omega
    · obtain rfl : i = l.length := by omega
      have HE := Lib.hid (show Q = true from by rw [hE.out, List.drop_of_length_le (Nat.le_refl _)]; rfl)
      go_wp2_with fail
      go_ret
      exact ⟨ret_bool HE.out.symm, HBW.out _ hB.out⟩
end Go.Proofs.YtdkgfgmmmjpkgaaGreatDoor

namespace Go.Proofs.YtdkgfgmmmjpkgaaGreatDoor
open Go.RowKit

theorem runB_split : ∀ (xs ys : List ItemP) (acc : List UInt8) (st : StP), runB acc st (xs ++ ys) = (runB acc st xs).bind fun r => runB r.1 r.2 ys
  | [], ys, acc, st => by simp [runB]
  | x :: xs, ys, acc, st => by
    simp only [List.cons_append, runB]
    split
    · rfl
    · exact runB_split xs ys _ _
theorem runB_pre : ∀ (xs : List ItemP) (acc : List UInt8) (st : StP) (r : List UInt8 × StP), runB acc st xs = some r → ∃ t, r.1 = acc ++ t
  | [], acc, st, r, h => by
    simp only [runB, Option.some.injEq] at h
    exact ⟨[], by rw [← h]; simp⟩
  | x :: xs, acc, st, r, h => by
    simp only [runB] at h
    split at h
    · simp at h
    · obtain ⟨t, ht⟩ := runB_pre xs _ _ r h
      exact ⟨itemB st x ++ t, by rw [ht, List.append_assoc]⟩
def lastClips (c : List ClipP) (xs : List ItemP) : List ClipP := match xs.getLast? with | none => c | some it => it.clips
theorem runB_clips : ∀ (xs : List ItemP) (acc : List UInt8) (st : StP) (r : List UInt8 × StP), runB acc st xs = some r → r.2.clips = lastClips st.clips xs
  | [], acc, st, r, h => by
    simp only [runB, Option.some.injEq] at h
    rw [← h]; rfl
  | x :: xs, acc, st, r, h => by
    simp only [runB] at h
    split at h
    · simp at h
    · rw [runB_clips xs _ _ r h]
      cases xs with
      | nil => rfl
      | cons y ys => rfl

/-- The end of a stream: a Q, if clips are open. -/
def endB (st : StP) : List UInt8 := if st.clips.isEmpty then [] else [81, 10]
theorem contentB_some (items : List ItemP) (b : List UInt8) (h : contentB items = some b) : ∃ r, runB [] st0 items = some r ∧ b = r.1 ++ endB r.2 := by
  unfold contentB at h
  cases hr : runB [] st0 items with
  | none => rw [hr] at h; simp at h
  | some r =>
    rw [hr] at h
    obtain ⟨acc, st⟩ := r
    have h2 : (if 1048576 < (acc ++ endB st).length then none else some (acc ++ endB st)) = some b := h
    by_cases hc : 1048576 < (acc ++ endB st).length
    · rw [if_pos hc] at h2; simp at h2
    · rw [if_neg hc] at h2
      exact ⟨(acc, st), rfl, (Option.some.inj h2).symm⟩
/-- THE FIRST ITEMS' BYTES STAND AHEAD. -/
theorem ahead_law (items : List ItemP) (k : Nat) (a b : List UInt8) (ha : contentB (items.take k) = some a) (hb : contentB items = some b) :
    ∃ acc, a = acc ++ (if (lastClips [] (items.take k)).isEmpty then [] else [81, 10]) ∧ acc.length ≤ b.length ∧ b.take acc.length = acc := by
  obtain ⟨ra, h1, h2⟩ := contentB_some _ _ ha
  obtain ⟨rb, h3, h4⟩ := contentB_some _ _ hb
  refine ⟨ra.1, ?_, ?_⟩
  · rw [h2, endB, runB_clips _ _ _ _ h1]; rfl
  · have h5 : runB [] st0 (items.take k ++ items.drop k) = some rb := by rw [List.take_append_drop]; exact h3
    rw [runB_split, h1, Option.bind_some] at h5
    obtain ⟨t, ht⟩ := runB_pre _ _ _ _ h5
    rw [h4, ht]
    exact ⟨by simp only [List.length_append]; omega, by rw [List.append_assoc, List.take_left]⟩

theorem eqInts_self : ∀ l : List Int, eqInts l l = true
  | [] => rfl
  | x :: r => by rw [eqInts, eqInts_self r]; simp
theorem eqPath_self : ∀ l : List SegP, eqPath l l = true
  | [] => rfl
  | x :: r => by rw [eqPath, eqPath_self r]; simp [eqSeg]
theorem eqClips_self : ∀ l : List ClipP, eqClips l l = true
  | [] => rfl
  | x :: r => by rw [eqClips, eqClips_self r]; simp [eqClip, eqPath_self]
theorem eqCol_self (c : ColP) : eqCol c c = true := by simp [eqCol]
theorem penB_self (p : PenP) : penB p p = [] := by simp [penB, eqInts_self]
/-- What an item is by itself: without clips, colour and pen. -/
def bareB' (it : ItemP) : List UInt8 :=
  if it.k == 3 then pathB it.path ++ [83, 10] else if it.k == 4 then textItemB it else pathB it.path ++ (if it.k == 1 then [102, 10] else [102, 42, 10])
theorem item_again (st : StP) (it : ItemP) : itemB (itemSt st it) it = bareB' it ∧ itemSt (itemSt st it) it = itemSt st it := by
  have hbad : badB (itemSt st it) it.clips = false := by
    simp [badB, itemSt, eqClips_self]
  have hso : boundSo (itemSt st it) it.clips = paintSo (boundSo st it.clips) it := by rw [boundSo, hbad]; rfl
  have hop : boundOpen (itemSt st it) it.clips = false := by
    rw [boundOpen, boundN, hbad]
    show (it.clips.length == 0 && decide (0 < it.clips.length)) = false
    cases it.clips <;> simp
  have hout : boundOuter (itemSt st it) it.clips = boundOuter st it.clips := by rw [boundOuter, hop]; rfl
  constructor
  · rw [itemB, hso, boundB, hbad, hop, boundN, hbad]
    show [] ++ ([] ++ (it.clips.drop it.clips.length).flatMap clipB) ++ _ = _
    rw [List.drop_of_length_le (Nat.le_refl _)]
    simp only [List.flatMap_nil, List.nil_append]
    unfold paintB paintSo bareB'
    by_cases h3 : it.k == 3
    · simp only [h3, if_true, eqCol_self, penB_self, List.nil_append]
    · simp only [h3, if_false, eqCol_self, if_true, List.nil_append, Bool.false_eq_true]
  · rw [itemSt, hso, hout]
    congr 1
    show _ = paintSo _ _
    unfold paintSo
    by_cases h3 : it.k == 3
    · simp only [h3, if_true]
    · simp only [h3, if_false, Bool.false_eq_true]
/-- The item without clips, in black, with the first pen. -/
def plainP (it : ItemP) : ItemP := { it with clips := [], col := black, pen := if it.k == 3 then pen0 else it.pen }
theorem plain_item (it : ItemP) : itemB st0 (plainP it) = bareB' it ∧ (itemSt st0 (plainP it)).clips = [] := by
  refine ⟨?_, rfl⟩
  have h1 : boundB st0 (plainP it).clips = [] := rfl
  have h2 : boundSo st0 (plainP it).clips = so0 := rfl
  rw [itemB, h1, h2, List.nil_append]
  unfold paintB bareB' plainP
  by_cases h3 : it.k == 3
  · simp only [h3, if_true]
    rw [show eqCol black so0.stroke = true from eqCol_self _, show penB so0.pen pen0 = [] from penB_self _]
    rfl
  · simp only [h3, if_false, Bool.false_eq_true]
    rw [show eqCol black so0.fill = true from eqCol_self _]
    rfl
end Go.Proofs.YtdkgfgmmmjpkgaaGreatDoor

namespace Go.Proofs.YtdkgfgmmmjpkgaaGreatDoor
open Go.ChangeShapes Go.WideShapes Go.ChangeAt Go.RowKit

theorem own : ownKnob Tryz.prog.godebug = none := by kernel_rfl
def tabCells : DataW Unit → Array Value
  | .agg l => (l.map fun d => match d with | .lit (.int k n) => Value.int k n | .lit (.string s) => Value.string ⟨s.toArray⟩ | _ => undef).toArray
  | _ => #[]
noncomputable def low : Nat := (World.holding Tryz.prog default ⟨#[], #[], []⟩).heap.size
abbrev tooLarge : ByteArray := ⟨#[98, 121, 116, 101, 115, 46, 66, 117, 102, 102, 101, 114, 58, 32, 116, 111, 111, 32, 108, 97, 114, 103, 101]⟩
/-- The variable's cells are these. -/
def setVar (g : Nat) (cs : Array Value) (h : Array Obj) : Array Obj := h.modify g fun
  | .cells _ t frozen => .cells cs t frozen
  | o => o
noncomputable def laidWorld (os : Os) : World :=
  let w0 := World.holding Tryz.prog os ⟨#[.cells #[.string tooLarge] 233], #[], []⟩
  { w0 with heap := setVar 1 (tabCells Rows.laid_mezzotint_font_names) (setVar 3 (tabCells Rows.laid_math_bits_deBruijn32tab) (setVar 4 (tabCells Rows.laid_math_bits_deBruijn64tab) (setVar 2 (tabCells Rows.laid_internal_strconv_uint64pow10) (setVar 0 #[.iface 219 (.pointer (some ⟨low, 0, none⟩))] w0.heap)))) }

theorem laidOut : laidOutB Tryz.prog = true := by kernel_rfl
theorem gPowType : (Tryz.prog.globals[2]?).map (·.type) = some 212 := by kernel_rfl
theorem powData : (Rows.laid_internal_strconv_uint64pow10 : DataW Unit) = Lib.tabData .u64 Lib.pow10Tab := by kernel_rfl
theorem gNames : Tryz.prog.globalNamed "mezzotint/font.names" = some 1 := by kernel_rfl
theorem gNamesType : (Tryz.prog.globals[1]?).map (·.type) = some 187 := by kernel_rfl
theorem cellsN : Tryz.prog.cellsOf 187 = 14 := by kernel_rfl
theorem cellsStr : Tryz.prog.cellsOf 9 = 1 := by kernel_rfl
def okName : DataW Unit → Bool
  | .lit (.string (_ :: _)) => true
  | _ => false
def okNames : DataW Unit → Bool
  | .agg l => l.all okName
  | _ => false
theorem namesOk : okNames Rows.laid_mezzotint_font_names = true := by kernel_rfl
/-- The laid list, as all the rows of this seat have it. -/
abbrev laidL : List (String × DataW Unit) := [("math/bits.deBruijn32tab", Rows.laid_math_bits_deBruijn32tab), ("math/bits.deBruijn64tab", Rows.laid_math_bits_deBruijn64tab), ("internal/strconv.uint64pow10", Rows.laid_internal_strconv_uint64pow10), ("mezzotint/font.names", Rows.laid_mezzotint_font_names), ("bytes.ErrTooLarge", Rows.laid_bytes_ErrTooLarge)]
theorem tabs_of {W : World} (h : laidMetH Tryz.prog laidL W) : Tab W ∧ FTab W := by
  have h2 : laidMet Tryz.prog laidL W := h
  obtain ⟨ps, ⟨g1, t1, cs1, f1, p1, q1, -, -, -, -, hr1, -⟩, -⟩ := h2
  obtain ⟨g2, t2, cs2, f2, p2, q2, -, -, -, -, hr2, -⟩ := hr1
  obtain ⟨g3, t3, cs3, f3, p3, q3, hg, hty, hvar, hd, hr3, -⟩ := hr2
  obtain ⟨g4, t4, cs4, f4, p4, q4, hg4, hty4, hvar4, hd4, -, -⟩ := hr3
  refine ⟨?_, fun i hi => ?_⟩
  · obtain rfl := Option.some.inj (gPow.symm.trans hg)
    obtain rfl := Option.some.inj (gPowType.symm.trans hty)
    rw [powData] at hd
    unfold Tab Lib.TabIs
    rw [hvar]
    have h3 := Lib.cells_of_tab Tryz.underlying212 Tryz.underlying95 (by kernel_rfl) (by kernel_rfl) hd
    rw [← h3]
  · obtain rfl := Option.some.inj (gNames.symm.trans hg4)
    obtain rfl := Option.some.inj (gNamesType.symm.trans hty4)
    obtain ⟨xs, m, rfl, hx, hl, hxl, hel⟩ := DataW.trod_array Tryz.underlying187 hd4
    have h5 := hel i hi
    rw [cellsStr, Nat.mul_one] at h5
    have hix : i < xs.length := by omega
    rw [List.getElem?_eq_getElem hix] at h5
    obtain ⟨s, hs, hx2, -⟩ := DataW.trod_string Tryz.underlying9 h5
    have hc : cs4[i]? = some (.string s) := by
      have h6 := congrArg (·[0]?) hs
      simpa [List.getElem?_take, List.getElem?_drop] using h6
    refine ⟨s, ?_, ?_⟩
    · rw [var?_cell gNames hvar4 i, hc]
    · have h7 : okNames (DataW.agg (xs.map (·.1))) = true := by
        have := congrArg Prod.fst hx
        simp only at this
        rw [← this]
        exact namesOk
      have h8 := List.all_eq_true.1 h7 xs[i].1 (List.mem_map_of_mem (List.getElem_mem hix))
      rw [hx2] at h8
      rw [Lib.toList_data]
      cases hdl : s.data.toList with
      | nil => rw [hdl] at h8; cases h8
      | cons a r => rfl
end Go.Proofs.YtdkgfgmmmjpkgaaGreatDoor

namespace Go.Proofs.YtdkgfgmmmjpkgaaGreatDoor
open Go.RowKit Go.Shelf

section
variable {H : Type} {enc : TypeId × Value → H} {w : World}

theorem cells_get {a : Addr} {n : Nat} {cs : List Value} (h : w.cells? 0 a n = some cs) : cs.length = n ∧ ∀ i, i < n → w.cell? (a.add i) = cs[i]? := by
  unfold World.cells? at h
  rw [if_pos (Nat.zero_le _)] at h
  have h1 := mapM_some_length h
  rw [List.length_range] at h1
  exact ⟨h1, fun i hi => mapM_some_get h i i (by rw [List.getElem?_range hi])⟩
set_option maxRecDepth 100000 in
theorem rd_int {f : Nat} {cs : List Value} {x : DataW H × List MemPlace} (h : DataW.trod enc Tryz.prog w 0 (fun _ => true) true f 3 cs = some x) : ∃ k, cs = [.int .i64 k] ∧ x = (.lit (.int .i64 k), []) := by
  cases f with
  | zero => simp [DataW.trod] at h
  | succ f =>
    unfold DataW.trod at h
    rw [Tryz.underlying3] at h
    rcases cs with _ | ⟨c, _ | ⟨c2, r⟩⟩
    · simp at h
    · cases c <;> simp at h
      obtain ⟨⟨rfl, _⟩, rfl⟩ := h
      exact ⟨_, rfl, rfl⟩
    · cases c <;> simp at h
set_option maxRecDepth 100000 in
theorem rd_u8 {f : Nat} {cs : List Value} {x : DataW H × List MemPlace} (h : DataW.trod enc Tryz.prog w 0 (fun _ => true) true f 5 cs = some x) : ∃ k, cs = [.int .u8 k] ∧ (Lit.int .u8 k).wf = true ∧ x = (.lit (.int .u8 k), []) := by
  cases f with
  | zero => simp [DataW.trod] at h
  | succ f =>
    unfold DataW.trod at h
    rw [Tryz.underlying5] at h
    rcases cs with _ | ⟨c, _ | ⟨c2, r⟩⟩
    · simp at h
    · cases c <;> simp at h
      obtain ⟨⟨rfl, h1⟩, rfl⟩ := h
      exact ⟨_, rfl, h1, rfl⟩
    · cases c <;> simp at h
/-- A slice: nil, or a row of elements that were each read. -/
theorem rd_slice {f : Nat} {t e : TypeId} (ht : Tryz.prog.underlying t = some (.slice e)) {cs : List Value} {x : DataW H × List MemPlace} (h : DataW.trod enc Tryz.prog w 0 (fun _ => true) true f t cs = some x) :
    (cs = [.slice none 0 0] ∧ x.1 = .nil) ∨ ∃ (a : Addr) (len cap : Nat) (elems : List (DataW H × List MemPlace)) (spare : List (DataW H)) (f' : Nat), f' < f ∧ cs = [.slice (some a) len cap] ∧ len ≤ cap ∧ cap ≤ maxLen ∧ x.1 = .slice (elems.map (·.1)) spare ∧ elems.length = len ∧ len + spare.length = cap ∧
      ∀ i (hi : i < elems.length), ∃ ecs, w.cells? 0 (a.add (i * Tryz.prog.cellsOf e)) (Tryz.prog.cellsOf e) = some ecs ∧ DataW.trod enc Tryz.prog w 0 (fun _ => true) true f' e ecs = some elems[i] := by
  cases f with
  | zero => simp [DataW.trod] at h
  | succ f =>
    unfold DataW.trod at h
    rw [ht] at h
    rcases cs with _ | ⟨c, _ | ⟨c2, r⟩⟩
    · simp at h
    · cases c <;> try (simp at h; done)
      rename_i A len cap
      cases A with
      | none =>
        left
        cases len <;> cases cap <;> simp at h
        subst h
        exact ⟨rfl, rfl⟩
      | some a =>
        right
        simp only at h
        split at h
        · rename_i hc
          obtain ⟨elems, h1, h2⟩ := Option.bind_eq_some_iff.1 h
          obtain ⟨rest, h3, h4⟩ := Option.map_eq_some_iff.1 h2
          rw [if_pos trivial] at h3
          have hl3 := mapM_some_length h3
          rw [List.length_range] at hl3
          have hl := mapM_some_length h1
          rw [List.length_range] at hl
          refine ⟨a, len, cap, elems, rest.map (·.1), f, Nat.lt_succ_self _, rfl, hc.2.1, hc.2.2, by rw [← h4], hl, by rw [List.length_map, hl3]; omega, fun i hi => ?_⟩
          have h5 := mapM_some_get h1 i i (by rw [List.getElem?_range (by omega)])
          rw [List.getElem?_eq_getElem hi] at h5
          exact Option.bind_eq_some_iff.1 h5
        · simp at h
    · cases c <;> simp at h
theorem build {α : Type} {n : Nat} {P : Nat → α → Prop} (h : ∀ i, i < n → ∃ o, P i o) : ∃ l : List α, l.length = n ∧ ∀ i (hi : i < l.length), P i l[i] := by
  induction n with
  | zero => exact ⟨[], rfl, fun i hi => absurd hi (Nat.not_lt_zero _)⟩
  | succ n ih =>
    obtain ⟨l, hl, hp⟩ := ih fun i hi => h i (by omega)
    obtain ⟨o, ho⟩ := h n (by omega)
    refine ⟨l ++ [o], by simp [hl], fun i hi => ?_⟩
    by_cases h1 : i < l.length
    · rw [List.getElem_append_left h1]; exact hp i h1
    · have h2 : i = n := by simp at hi; omega
      subst h2
      rw [List.getElem_append_right (by omega)]
      simpa [hl] using ho
theorem row_spot {a : Addr} {z : Nat} {ecs : List Value} (hz : 0 < z) (h : w.cells? 0 (a.add (0 * z)) z = some ecs) : ∃ b off, a = ⟨b, off, none⟩ := by
  obtain ⟨h1, h2⟩ := cells_get h
  have h3 := h2 0 hz
  rw [Nat.zero_mul] at h3
  have h4 : (a.add 0).add 0 = a := by simp [Addr.add]
  rw [h4, List.getElem?_eq_getElem (by omega)] at h3
  have h5 := cell_spot h3
  obtain ⟨b, off, sp⟩ := a
  simp only at h5
  subst h5
  exact ⟨b, off, rfl⟩
set_option maxRecDepth 100000 in
theorem rd_bool {f : Nat} {cs : List Value} {x : DataW H × List MemPlace} (h : DataW.trod enc Tryz.prog w 0 (fun _ => true) true f 4 cs = some x) : ∃ k, cs = [.bool k] := by
  cases f with
  | zero => simp [DataW.trod] at h
  | succ f =>
    unfold DataW.trod at h
    rw [Tryz.underlying4] at h
    rcases cs with _ | ⟨c, _ | ⟨c2, r⟩⟩
    · simp at h
    · cases c <;> simp at h
      exact ⟨_, rfl⟩
    · cases c <;> simp at h
/-- A slice whose elements are each read as P says. -/
theorem rd_row {f : Nat} {t e : TypeId} {z : Nat} (ht : Tryz.prog.underlying t = some (.slice e)) (hz : Tryz.prog.cellsOf e = z) (hz0 : 0 < z) {cs : List Value} {x : DataW H × List MemPlace} (h : DataW.trod enc Tryz.prog w 0 (fun _ => true) true f t cs = some x) {α : Type} (P : α → List Value → Prop)
    (hP : ∀ f' ecs y, DataW.trod enc Tryz.prog w 0 (fun _ => true) true f' e ecs = some y → ∃ o, P o ecs) :
    ∃ (A : Option Addr) (cap : Nat) (l : List α) (es : Nat → List Value), cs = [.slice A l.length cap] ∧ l.length ≤ cap ∧ cap ≤ maxLen ∧ (∀ i (hi : i < l.length), P l[i] (es i)) ∧ RowAt w A l.length z (fun i => (es i).toArray) := by
  rcases rd_slice ht h with ⟨rfl, hx⟩ | ⟨a, len, cap, elems, spare, f', hf', rfl, h1, h2, h3, h4, h45, h5⟩
  · exact ⟨none, 0, [], fun _ => [], rfl, Nat.le_refl _, Nat.zero_le _, fun i hi => absurd hi (Nat.not_lt_zero _), .inl rfl⟩
  · rw [hz] at h5
    have h6 : ∀ i, i < elems.length → ∃ q : α × List Value, P q.1 q.2 ∧ w.cells? 0 (a.add (i * z)) z = some q.2 := fun i hi => by
      obtain ⟨ecs, h7, h8⟩ := h5 i hi
      obtain ⟨o, ho⟩ := hP _ _ _ h8
      exact ⟨(o, ecs), ho, h7⟩
    obtain ⟨q, hq, hp⟩ := build h6
    have hsl : (q.map (·.1)).length = len := by rw [List.length_map, hq, h4]
    refine ⟨some a, cap, q.map (·.1), fun i => (q.map (·.2)).getD i [], by rw [hsl], by omega, h2, fun i hi => ?_, ?_⟩
    · have hi' : i < q.length := by simpa using hi
      have h7 := (hp i hi').1
      simpa [List.getD_eq_getElem?_getD, hi'] using h7
    · by_cases h0 : len = 0
      · left; omega
      · right
        have h7 := (hp 0 (by omega)).2
        obtain ⟨b, off, rfl⟩ := row_spot hz0 h7
        refine ⟨b, off, rfl, fun i hi j v hj => ?_⟩
        have hi' : i < q.length := by simpa using hi
        have h8 := cells_get (hp i hi').2
        have he : (q.map (·.2)).getD i [] = q[i].2 := by simp [List.getD_eq_getElem?_getD, hi']
        simp only [he, List.getElem?_toArray] at hj
        have hjl : j < z := by
          have := (List.getElem?_eq_some_iff.1 hj).1
          omega
        have h9 := h8.2 j hjl
        rw [Lib.addr_add, Lib.addr_add, hj] at h9
        exact h9
/-- A struct: each of its fields was read. -/
theorem rd_struct {f : Nat} {t : TypeId} {fs : Array Field} {n : Nat} (ht : Tryz.prog.underlying t = some (.struct fs)) (hn : Tryz.prog.cellsOf t = n) {cs : List Value} {x : DataW H × List MemPlace} (h : DataW.trod enc Tryz.prog w 0 (fun _ => true) true f t cs = some x) :
    cs.length = n ∧ ∃ f', ∀ (i : Nat) (fd : Field), fs.toList[i]? = some fd → ∃ y, DataW.trod enc Tryz.prog w 0 (fun _ => true) true f' fd.type ((cs.drop fd.offset).take (Tryz.prog.cellsOf fd.type)) = some y := by
  cases f with
  | zero => simp [DataW.trod] at h
  | succ f =>
    unfold DataW.trod at h
    rw [ht] at h
    simp only at h
    split at h
    · rename_i hlen
      obtain ⟨xs, h1, h2⟩ := Option.map_eq_some_iff.1 h
      refine ⟨by rw [hlen, hn], f, fun i fd hi => ?_⟩
      have hl := mapM_some_length h1
      have hil := (List.getElem?_eq_some_iff.1 hi).1
      have g := mapM_some_get h1 i fd hi
      rw [List.getElem?_eq_getElem (by omega)] at g
      exact ⟨_, g⟩
    · simp at h
theorem rd_array {f : Nat} {t e : TypeId} {n m z : Nat} (ht : Tryz.prog.underlying t = some (.array n e)) (hm : Tryz.prog.cellsOf t = m) (hz : Tryz.prog.cellsOf e = z) {cs : List Value} {x : DataW H × List MemPlace} (h : DataW.trod enc Tryz.prog w 0 (fun _ => true) true f t cs = some x) :
    cs.length = m ∧ ∃ f', ∀ i, i < n → ∃ y, DataW.trod enc Tryz.prog w 0 (fun _ => true) true f' e ((cs.drop (i * z)).take z) = some y := by
  cases f with
  | zero => simp [DataW.trod] at h
  | succ f =>
    unfold DataW.trod at h
    rw [ht] at h
    simp only at h
    split at h
    · rename_i hlen
      obtain ⟨xs, h1, h2⟩ := Option.map_eq_some_iff.1 h
      refine ⟨by rw [hlen, hm], f, fun i hi => ?_⟩
      have hl := mapM_some_length h1
      rw [List.length_range] at hl
      have g := mapM_some_get h1 i i (by rw [List.getElem?_range hi])
      rw [List.getElem?_eq_getElem (by omega), hz] at g
      exact ⟨_, g⟩
    · simp at h
end
end Go.Proofs.YtdkgfgmmmjpkgaaGreatDoor

namespace Go.Proofs.YtdkgfgmmmjpkgaaGreatDoor
open Go.RowKit Go.Shelf

theorem flds_pt : (Tryz.prog.fieldsOf 54).toList.map (fun f => (f.name, f.type, f.offset)) = [("X", 3, 0), ("Y", 3, 1)] := by kernel_rfl
theorem undr_pt : Tryz.prog.underlying 54 = some (.struct (Tryz.prog.fieldsOf 54)) := by kernel_rfl
theorem flds_seg : (Tryz.prog.fieldsOf 57).toList.map (fun f => (f.name, f.type, f.offset)) = [("Kind", 3, 0), ("P", 55, 1)] := by kernel_rfl
theorem undr_seg : Tryz.prog.underlying 57 = some (.struct (Tryz.prog.fieldsOf 57)) := by kernel_rfl
theorem flds_col : (Tryz.prog.fieldsOf 44).toList.map (fun f => (f.name, f.type, f.offset)) = [("Space", 3, 0), ("Part", 42, 1)] := by kernel_rfl
theorem undr_col : Tryz.prog.underlying 44 = some (.struct (Tryz.prog.fieldsOf 44)) := by kernel_rfl
theorem flds_clip : (Tryz.prog.fieldsOf 59).toList.map (fun f => (f.name, f.type, f.offset)) = [("Path", 41, 0), ("EvenOdd", 4, 1)] := by kernel_rfl
theorem undr_clip : Tryz.prog.underlying 59 = some (.struct (Tryz.prog.fieldsOf 59)) := by kernel_rfl
theorem flds_pen : (Tryz.prog.fieldsOf 47).toList.map (fun f => (f.name, f.type, f.offset)) = [("Width", 3, 0), ("Cap", 3, 1), ("Join", 3, 2), ("Miter", 3, 3), ("Dash", 28, 4), ("Phase", 3, 5)] := by kernel_rfl
theorem undr_pen : Tryz.prog.underlying 47 = some (.struct (Tryz.prog.fieldsOf 47)) := by kernel_rfl
theorem flds_item : (Tryz.prog.fieldsOf 50).toList.map (fun f => (f.name, f.type, f.offset)) = [("Kind", 3, 0), ("Path", 41, 1), ("Color", 44, 2), ("Clips", 45, 7), ("Pen", 47, 8), ("Font", 3, 14), ("Matrix", 48, 15), ("Bytes", 27, 21)] := by kernel_rfl
theorem undr_item : Tryz.prog.underlying 50 = some (.struct (Tryz.prog.fieldsOf 50)) := by kernel_rfl
theorem flds_page : (Tryz.prog.fieldsOf 24).toList.map (fun f => (f.name, f.type, f.offset)) = [("Width", 3, 0), ("Height", 3, 1), ("Items", 22, 2)] := by kernel_rfl
theorem undr_page : Tryz.prog.underlying 24 = some (.struct (Tryz.prog.fieldsOf 24)) := by kernel_rfl
theorem clls0 : Tryz.prog.cellsOf 3 = 1 := by kernel_rfl
theorem clls1 : Tryz.prog.cellsOf 4 = 1 := by kernel_rfl
theorem clls2 : Tryz.prog.cellsOf 5 = 1 := by kernel_rfl
theorem clls3 : Tryz.prog.cellsOf 55 = 6 := by kernel_rfl
theorem clls4 : Tryz.prog.cellsOf 42 = 4 := by kernel_rfl
theorem clls5 : Tryz.prog.cellsOf 48 = 6 := by kernel_rfl
theorem clls6 : Tryz.prog.cellsOf 41 = 1 := by kernel_rfl
theorem clls7 : Tryz.prog.cellsOf 45 = 1 := by kernel_rfl
theorem clls8 : Tryz.prog.cellsOf 28 = 1 := by kernel_rfl
theorem clls9 : Tryz.prog.cellsOf 27 = 1 := by kernel_rfl
theorem clls10 : Tryz.prog.cellsOf 22 = 1 := by kernel_rfl
theorem clls11 : Tryz.prog.cellsOf 54 = 2 := by kernel_rfl
theorem clls12 : Tryz.prog.cellsOf 57 = 7 := by kernel_rfl
theorem clls13 : Tryz.prog.cellsOf 44 = 5 := by kernel_rfl
theorem clls14 : Tryz.prog.cellsOf 59 = 2 := by kernel_rfl
theorem clls15 : Tryz.prog.cellsOf 47 = 6 := by kernel_rfl
theorem clls16 : Tryz.prog.cellsOf 50 = 22 := by kernel_rfl
theorem clls17 : Tryz.prog.cellsOf 24 = 3 := by kernel_rfl

section
variable {H : Type} {enc : TypeId × Value → H} {w : World}

theorem flds {f : Nat} {t : TypeId} {fs : Array Field} {n : Nat} {L : List (String × TypeId × Nat)} (ht : Tryz.prog.underlying t = some (.struct fs)) (hn : Tryz.prog.cellsOf t = n) (hL : fs.toList.map (fun f => (f.name, f.type, f.offset)) = L) {cs : List Value} {x : DataW H × List MemPlace} (h : DataW.trod enc Tryz.prog w 0 (fun _ => true) true f t cs = some x) :
    cs.length = n ∧ ∃ f', ∀ (i : Nat) (nm : String) (T : TypeId) (o z : Nat), L[i]? = some (nm, T, o) → Tryz.prog.cellsOf T = z → ∃ y, DataW.trod enc Tryz.prog w 0 (fun _ => true) true f' T ((cs.drop o).take z) = some y := by
  obtain ⟨h1, f', h2⟩ := rd_struct ht hn h
  refine ⟨h1, f', fun i nm T o z hi hz => ?_⟩
  rw [← hL, List.getElem?_map] at hi
  obtain ⟨fd, h3, h4⟩ := Option.map_eq_some_iff.1 hi
  simp only [Prod.mk.injEq] at h4
  obtain ⟨y, hy⟩ := h2 i fd h3
  rw [h4.2.1, h4.2.2, hz] at hy
  exact ⟨y, hy⟩
theorem RowAt.congr {A : Option Addr} {n size : Nat} {cs cs' : Nat → Array Value} (h : RowAt w A n size cs) (he : ∀ i, i < n → cs i = cs' i) : RowAt w A n size cs' := by
  rcases h with h | ⟨b, off, hA, hc⟩
  · exact .inl h
  · exact .inr ⟨b, off, hA, fun i hi j v hj => hc i hi j v (by rw [he i hi]; exact hj)⟩
theorem rd_arr4 {f : Nat} {cs : List Value} {x : DataW H × List MemPlace} (h : DataW.trod enc Tryz.prog w 0 (fun _ => true) true f 42 cs = some x) : ∃ a0 a1 a2 a3 : Int, cs = [.int .i64 a0, .int .i64 a1, .int .i64 a2, .int .i64 a3] := by
  obtain ⟨hlen, f', h2⟩ := rd_array Tryz.underlying42 clls4 clls0 h
  rcases cs with _ | ⟨c0, _ | ⟨c1, _ | ⟨c2, _ | ⟨c3, _ | ⟨c4, r⟩⟩⟩⟩⟩ <;> simp at hlen
  obtain ⟨y0, g0⟩ := h2 0 (by omega)
  obtain ⟨a0, e0, -⟩ := rd_int g0
  have s0 : c0 = .int .i64 a0 := by simpa using e0
  obtain ⟨y1, g1⟩ := h2 1 (by omega)
  obtain ⟨a1, e1, -⟩ := rd_int g1
  have s1 : c1 = .int .i64 a1 := by simpa using e1
  obtain ⟨y2, g2⟩ := h2 2 (by omega)
  obtain ⟨a2, e2, -⟩ := rd_int g2
  have s2 : c2 = .int .i64 a2 := by simpa using e2
  obtain ⟨y3, g3⟩ := h2 3 (by omega)
  obtain ⟨a3, e3, -⟩ := rd_int g3
  have s3 : c3 = .int .i64 a3 := by simpa using e3
  subst s0 s1 s2 s3
  exact ⟨a0, a1, a2, a3, rfl⟩
theorem rd_arr6 {f : Nat} {cs : List Value} {x : DataW H × List MemPlace} (h : DataW.trod enc Tryz.prog w 0 (fun _ => true) true f 48 cs = some x) : ∃ a0 a1 a2 a3 a4 a5 : Int, cs = [.int .i64 a0, .int .i64 a1, .int .i64 a2, .int .i64 a3, .int .i64 a4, .int .i64 a5] := by
  obtain ⟨hlen, f', h2⟩ := rd_array Tryz.underlying48 clls5 clls0 h
  rcases cs with _ | ⟨c0, _ | ⟨c1, _ | ⟨c2, _ | ⟨c3, _ | ⟨c4, _ | ⟨c5, _ | ⟨c6, r⟩⟩⟩⟩⟩⟩⟩ <;> simp at hlen
  obtain ⟨y0, g0⟩ := h2 0 (by omega)
  obtain ⟨a0, e0, -⟩ := rd_int g0
  have s0 : c0 = .int .i64 a0 := by simpa using e0
  obtain ⟨y1, g1⟩ := h2 1 (by omega)
  obtain ⟨a1, e1, -⟩ := rd_int g1
  have s1 : c1 = .int .i64 a1 := by simpa using e1
  obtain ⟨y2, g2⟩ := h2 2 (by omega)
  obtain ⟨a2, e2, -⟩ := rd_int g2
  have s2 : c2 = .int .i64 a2 := by simpa using e2
  obtain ⟨y3, g3⟩ := h2 3 (by omega)
  obtain ⟨a3, e3, -⟩ := rd_int g3
  have s3 : c3 = .int .i64 a3 := by simpa using e3
  obtain ⟨y4, g4⟩ := h2 4 (by omega)
  obtain ⟨a4, e4, -⟩ := rd_int g4
  have s4 : c4 = .int .i64 a4 := by simpa using e4
  obtain ⟨y5, g5⟩ := h2 5 (by omega)
  obtain ⟨a5, e5, -⟩ := rd_int g5
  have s5 : c5 = .int .i64 a5 := by simpa using e5
  subst s0 s1 s2 s3 s4 s5
  exact ⟨a0, a1, a2, a3, a4, a5, rfl⟩
theorem rd_pt {f : Nat} {cs : List Value} {x : DataW H × List MemPlace} (h : DataW.trod enc Tryz.prog w 0 (fun _ => true) true f 54 cs = some x) : ∃ a b : Int, cs = [.int .i64 a, .int .i64 b] := by
  obtain ⟨hlen, f', h2⟩ := flds undr_pt clls11 flds_pt h
  rcases cs with _ | ⟨c0, _ | ⟨c1, _ | ⟨c2, r⟩⟩⟩ <;> simp at hlen
  obtain ⟨y0, g0⟩ := h2 0 _ _ _ _ rfl clls0
  obtain ⟨a, e0, -⟩ := rd_int g0
  have s0 : c0 = .int .i64 a := by simpa using e0
  obtain ⟨y1, g1⟩ := h2 1 _ _ _ _ rfl clls0
  obtain ⟨b, e1, -⟩ := rd_int g1
  have s1 : c1 = .int .i64 b := by simpa using e1
  subst s0 s1
  exact ⟨a, b, rfl⟩
theorem rd_pts3 {f : Nat} {cs : List Value} {x : DataW H × List MemPlace} (h : DataW.trod enc Tryz.prog w 0 (fun _ => true) true f 55 cs = some x) : ∃ a0 a1 a2 a3 a4 a5 : Int, cs = [.int .i64 a0, .int .i64 a1, .int .i64 a2, .int .i64 a3, .int .i64 a4, .int .i64 a5] := by
  obtain ⟨hlen, f', h2⟩ := rd_array Tryz.underlying55 clls3 clls11 h
  rcases cs with _ | ⟨c0, _ | ⟨c1, _ | ⟨c2, _ | ⟨c3, _ | ⟨c4, _ | ⟨c5, _ | ⟨c6, r⟩⟩⟩⟩⟩⟩⟩ <;> simp at hlen
  obtain ⟨y0, g0⟩ := h2 0 (by omega)
  obtain ⟨a0, a1, e0⟩ := rd_pt g0
  have s0 : c0 = .int .i64 a0 ∧ c1 = .int .i64 a1 := by simpa using e0
  obtain ⟨rfl, rfl⟩ := s0
  obtain ⟨y1, g1⟩ := h2 1 (by omega)
  obtain ⟨a2, a3, e1⟩ := rd_pt g1
  have s1 : c2 = .int .i64 a2 ∧ c3 = .int .i64 a3 := by simpa using e1
  obtain ⟨rfl, rfl⟩ := s1
  obtain ⟨y2, g2⟩ := h2 2 (by omega)
  obtain ⟨a4, a5, e2⟩ := rd_pt g2
  have s2 : c4 = .int .i64 a4 ∧ c5 = .int .i64 a5 := by simpa using e2
  obtain ⟨rfl, rfl⟩ := s2
  exact ⟨_, _, _, _, _, _, rfl⟩
theorem rd_seg {f : Nat} {cs : List Value} {x : DataW H × List MemPlace} (h : DataW.trod enc Tryz.prog w 0 (fun _ => true) true f 57 cs = some x) : ∃ s : SegP, cs = (segC s).toList := by
  obtain ⟨hlen, f', h2⟩ := flds undr_seg clls12 flds_seg h
  rcases cs with _ | ⟨c0, _ | ⟨c1, _ | ⟨c2, _ | ⟨c3, _ | ⟨c4, _ | ⟨c5, _ | ⟨c6, _ | ⟨c7, r⟩⟩⟩⟩⟩⟩⟩⟩ <;> simp at hlen
  obtain ⟨y0, g0⟩ := h2 0 _ _ _ _ rfl clls0
  obtain ⟨k, e0, -⟩ := rd_int g0
  have s0 : c0 = .int .i64 k := by simpa using e0
  obtain ⟨y1, g1⟩ := h2 1 _ _ _ _ rfl clls3
  obtain ⟨a0, a1, a2, a3, a4, a5, e1⟩ := rd_pts3 g1
  have s1 : c1 = .int .i64 a0 ∧ c2 = .int .i64 a1 ∧ c3 = .int .i64 a2 ∧ c4 = .int .i64 a3 ∧ c5 = .int .i64 a4 ∧ c6 = .int .i64 a5 := by simpa using e1
  obtain ⟨rfl, rfl, rfl, rfl, rfl, rfl⟩ := s1
  subst s0
  exact ⟨⟨k, a0, a1, a2, a3, a4, a5⟩, rfl⟩
theorem rd_col {f : Nat} {cs : List Value} {x : DataW H × List MemPlace} (h : DataW.trod enc Tryz.prog w 0 (fun _ => true) true f 44 cs = some x) : ∃ c : ColP, cs = [.int .i64 c.sp, .int .i64 c.p0, .int .i64 c.p1, .int .i64 c.p2, .int .i64 c.p3] := by
  obtain ⟨hlen, f', h2⟩ := flds undr_col clls13 flds_col h
  rcases cs with _ | ⟨c0, _ | ⟨c1, _ | ⟨c2, _ | ⟨c3, _ | ⟨c4, _ | ⟨c5, r⟩⟩⟩⟩⟩⟩ <;> simp at hlen
  obtain ⟨y0, g0⟩ := h2 0 _ _ _ _ rfl clls0
  obtain ⟨k, e0, -⟩ := rd_int g0
  have s0 : c0 = .int .i64 k := by simpa using e0
  obtain ⟨y1, g1⟩ := h2 1 _ _ _ _ rfl clls4
  obtain ⟨a0, a1, a2, a3, e1⟩ := rd_arr4 g1
  have s1 : c1 = .int .i64 a0 ∧ c2 = .int .i64 a1 ∧ c3 = .int .i64 a2 ∧ c4 = .int .i64 a3 := by simpa using e1
  obtain ⟨rfl, rfl, rfl, rfl⟩ := s1
  subst s0
  exact ⟨⟨k, a0, a1, a2, a3⟩, rfl⟩
theorem rd_path {f : Nat} {cs : List Value} {x : DataW H × List MemPlace} (h : DataW.trod enc Tryz.prog w 0 (fun _ => true) true f 41 cs = some x) :
    ∃ (A : Option Addr) (cap : Nat) (l : List SegP), cs = [.slice A l.length cap] ∧ PathAt w A l ∧ l.length ≤ cap ∧ cap ≤ maxLen := by
  obtain ⟨A, cap, l, es, h1, h2, h3, h4, h5⟩ := rd_row Tryz.underlying41 clls12 (by decide) h (fun (s : SegP) ecs => ecs = (segC s).toList) (fun f' ecs y hy => rd_seg hy)
  refine ⟨A, cap, l, h1, ?_, h2, h3⟩
  exact h5.congr fun i hi => by
    rw [h4 i hi, List.getD_eq_getElem?_getD, List.getElem?_eq_getElem hi, Option.getD_some]
theorem rd_ints {f : Nat} {cs : List Value} {x : DataW H × List MemPlace} (h : DataW.trod enc Tryz.prog w 0 (fun _ => true) true f 28 cs = some x) :
    ∃ (A : Option Addr) (cap : Nat) (l : List Int), cs = [.slice A l.length cap] ∧ IntsAt w A l ∧ l.length ≤ cap ∧ cap ≤ maxLen := by
  obtain ⟨A, cap, l, es, h1, h2, h3, h4, h5⟩ := rd_row Tryz.underlying28 clls0 (by decide) h (fun (n : Int) ecs => ecs = [.int .i64 n]) (fun f' ecs y hy => by obtain ⟨k, e, -⟩ := rd_int hy; exact ⟨k, e⟩)
  refine ⟨A, cap, l, h1, ?_, h2, h3⟩
  exact h5.congr fun i hi => by
    rw [h4 i hi, List.getD_eq_getElem?_getD, List.getElem?_eq_getElem hi, Option.getD_some]
theorem rd_u8s {f : Nat} {cs : List Value} {x : DataW H × List MemPlace} (h : DataW.trod enc Tryz.prog w 0 (fun _ => true) true f 27 cs = some x) :
    ∃ (A : Option Addr) (cap : Nat) (l : List UInt8), cs = [.slice A l.length cap] ∧ BytesAt w A l ∧ l.length ≤ cap ∧ cap ≤ maxLen := by
  obtain ⟨A, cap, l, es, h1, h2, h3, h4, h5⟩ := rd_row Tryz.underlying27 clls2 (by decide) h (fun (c : UInt8) ecs => ecs = [.int .u8 (c.toNat : Int)]) (fun f' ecs y hy => by
    obtain ⟨k, h1, h2, h3⟩ := rd_u8 hy
    have hk : 0 ≤ k ∧ k < 256 := by
      have h4 : IntKind.u8.min ≤ k ∧ k ≤ IntKind.u8.max := by simpa [Lit.wf] using h2
      have h5 : IntKind.u8.min = 0 := by decide
      have h6 : IntKind.u8.max = 255 := by decide
      omega
    exact ⟨UInt8.ofNat k.toNat, by rw [h1, UInt8.toNat_ofNat']; congr; omega⟩)
  refine ⟨A, cap, l, h1, ?_, h2, h3⟩
  intro j v hj
  rcases h5 with h7 | ⟨b, off, hA, h7⟩
  · rw [List.eq_nil_of_length_eq_zero h7] at hj; simp [Lib.byteCells] at hj
  · have hjl : j < l.length := by
      have := (List.getElem?_eq_some_iff.1 hj).1
      rwa [Lib.byteCells_length] at this
    have h8 := h7 j hjl 0 (.int .u8 (l[j].toNat : Int)) (by show (es j).toArray[0]? = _; rw [h4 j hjl]; rfl)
    refine ⟨_, hA, ?_⟩
    rw [Lib.addr_add]
    have hv : v = .int .u8 (l[j].toNat : Int) := by
      have : (Lib.byteCells l)[j]? = some (.int .u8 (l[j].toNat : Int)) := by simp [Lib.byteCells, hjl]
      rw [this] at hj
      exact (Option.some.inj hj).symm
    rw [hv]
    simpa using h8
theorem rd_clip {f : Nat} {cs : List Value} {x : DataW H × List MemPlace} (h : DataW.trod enc Tryz.prog w 0 (fun _ => true) true f 59 cs = some x) : ∃ c : ClipP, ClipRd w c cs.toArray := by
  obtain ⟨hlen, f', h2⟩ := flds undr_clip clls14 flds_clip h
  rcases cs with _ | ⟨c0, _ | ⟨c1, _ | ⟨c2, r⟩⟩⟩ <;> simp at hlen
  obtain ⟨y0, g0⟩ := h2 0 _ _ _ _ rfl clls6
  obtain ⟨A, cap, l, e0, k1, k2, k3⟩ := rd_path g0
  have s0 : c0 = .slice A l.length cap := by simpa using e0
  obtain ⟨y1, g1⟩ := h2 1 _ _ _ _ rfl clls1
  obtain ⟨q, e1⟩ := rd_bool g1
  have s1 : c1 = .bool q := by simpa using e1
  subst s0 s1
  exact ⟨⟨l, q⟩, A, cap, rfl, k1, k2, k3⟩
theorem rd_clips {f : Nat} {cs : List Value} {x : DataW H × List MemPlace} (h : DataW.trod enc Tryz.prog w 0 (fun _ => true) true f 45 cs = some x) :
    ∃ (A : Option Addr) (cap : Nat) (l : List ClipP), cs = [.slice A l.length cap] ∧ ClipsAt w A l ∧ l.length ≤ cap ∧ cap ≤ maxLen := by
  obtain ⟨A, cap, l, es, h1, h2, h3, h4, h5⟩ := rd_row Tryz.underlying45 clls14 (by decide) h (fun (c : ClipP) ecs => ClipRd w c ecs.toArray) (fun f' ecs y hy => rd_clip hy)
  refine ⟨A, cap, l, h1, ?_, h2, h3⟩
  exact ⟨fun i => (es i).toArray, h5, h4⟩
theorem rd_pen {f : Nat} {cs : List Value} {x : DataW H × List MemPlace} (h : DataW.trod enc Tryz.prog w 0 (fun _ => true) true f 47 cs = some x) : ∃ (p : PenP) (A : Option Addr) (cap : Nat), cs = penC p A cap ∧ IntsAt w A p.dash ∧ p.dash.length ≤ cap ∧ cap ≤ maxLen := by
  obtain ⟨hlen, f', h2⟩ := flds undr_pen clls15 flds_pen h
  rcases cs with _ | ⟨c0, _ | ⟨c1, _ | ⟨c2, _ | ⟨c3, _ | ⟨c4, _ | ⟨c5, _ | ⟨c6, r⟩⟩⟩⟩⟩⟩⟩ <;> simp at hlen
  obtain ⟨y0, g0⟩ := h2 0 _ _ _ _ rfl clls0
  obtain ⟨a0, e0, -⟩ := rd_int g0
  have s0 : c0 = .int .i64 a0 := by simpa using e0
  obtain ⟨y1, g1⟩ := h2 1 _ _ _ _ rfl clls0
  obtain ⟨a1, e1, -⟩ := rd_int g1
  have s1 : c1 = .int .i64 a1 := by simpa using e1
  obtain ⟨y2, g2⟩ := h2 2 _ _ _ _ rfl clls0
  obtain ⟨a2, e2, -⟩ := rd_int g2
  have s2 : c2 = .int .i64 a2 := by simpa using e2
  obtain ⟨y3, g3⟩ := h2 3 _ _ _ _ rfl clls0
  obtain ⟨a3, e3, -⟩ := rd_int g3
  have s3 : c3 = .int .i64 a3 := by simpa using e3
  obtain ⟨y4, g4⟩ := h2 4 _ _ _ _ rfl clls8
  obtain ⟨A, cap, l, e4, k1, k2, k3⟩ := rd_ints g4
  have s4 : c4 = .slice A l.length cap := by simpa using e4
  obtain ⟨y5, g5⟩ := h2 5 _ _ _ _ rfl clls0
  obtain ⟨a5, e5, -⟩ := rd_int g5
  have s5 : c5 = .int .i64 a5 := by simpa using e5
  subst s0 s1 s2 s3 s4 s5
  exact ⟨⟨a0, a1, a2, a3, l, a5⟩, A, cap, rfl, k1, k2, k3⟩
set_option maxRecDepth 100000 in
theorem rd_item {f : Nat} {cs : List Value} {x : DataW H × List MemPlace} (h : DataW.trod enc Tryz.prog w 0 (fun _ => true) true f 50 cs = some x) : ∃ it : ItemP, ItemRd w it cs.toArray := by
  obtain ⟨hlen, f', h2⟩ := flds undr_item clls16 flds_item h
  rcases cs with _ | ⟨c0, _ | ⟨c1, _ | ⟨c2, _ | ⟨c3, _ | ⟨c4, _ | ⟨c5, _ | ⟨c6, _ | ⟨c7, _ | ⟨c8, _ | ⟨c9, _ | ⟨c10, _ | ⟨c11, _ | ⟨c12, _ | ⟨c13, _ | ⟨c14, _ | ⟨c15, _ | ⟨c16, _ | ⟨c17, _ | ⟨c18, _ | ⟨c19, _ | ⟨c20, _ | ⟨c21, _ | ⟨c22, r⟩⟩⟩⟩⟩⟩⟩⟩⟩⟩⟩⟩⟩⟩⟩⟩⟩⟩⟩⟩⟩⟩⟩ <;> simp at hlen
  obtain ⟨y0, g0⟩ := h2 0 _ _ _ _ rfl clls0
  obtain ⟨k, e0, -⟩ := rd_int g0
  have s0 : c0 = .int .i64 k := by simpa using e0
  obtain ⟨y1, g1⟩ := h2 1 _ _ _ _ rfl clls6
  obtain ⟨Ap, cp, p, e1, p1, p2, p3⟩ := rd_path g1
  have s1 : c1 = .slice Ap p.length cp := by simpa using e1
  obtain ⟨y2, g2⟩ := h2 2 _ _ _ _ rfl clls13
  obtain ⟨col, e2⟩ := rd_col g2
  have s2 : c2 = .int .i64 col.sp ∧ c3 = .int .i64 col.p0 ∧ c4 = .int .i64 col.p1 ∧ c5 = .int .i64 col.p2 ∧ c6 = .int .i64 col.p3 := by simpa using e2
  obtain ⟨y3, g3⟩ := h2 3 _ _ _ _ rfl clls7
  obtain ⟨Ac, cc, cl, e3, q1, q2, q3⟩ := rd_clips g3
  have s3 : c7 = .slice Ac cl.length cc := by simpa using e3
  obtain ⟨y4, g4⟩ := h2 4 _ _ _ _ rfl clls15
  obtain ⟨pn, Ad, cd, e4, d1, d2, d3⟩ := rd_pen g4
  have s4 : c8 = .int .i64 pn.wd ∧ c9 = .int .i64 pn.cap ∧ c10 = .int .i64 pn.join ∧ c11 = .int .i64 pn.miter ∧ c12 = .slice Ad pn.dash.length cd ∧ c13 = .int .i64 pn.phase := by simpa [penC] using e4
  obtain ⟨y5, g5⟩ := h2 5 _ _ _ _ rfl clls0
  obtain ⟨fo, e5, -⟩ := rd_int g5
  have s5 : c14 = .int .i64 fo := by simpa using e5
  obtain ⟨y6, g6⟩ := h2 6 _ _ _ _ rfl clls5
  obtain ⟨m0, m1, m2, m3, m4, m5, e6⟩ := rd_arr6 g6
  have s6 : c15 = .int .i64 m0 ∧ c16 = .int .i64 m1 ∧ c17 = .int .i64 m2 ∧ c18 = .int .i64 m3 ∧ c19 = .int .i64 m4 ∧ c20 = .int .i64 m5 := by simpa using e6
  obtain ⟨y7, g7⟩ := h2 7 _ _ _ _ rfl clls9
  obtain ⟨Ab, cb, bs, e7, b1, b2, b3⟩ := rd_u8s g7
  have s7 : c21 = .slice Ab bs.length cb := by simpa using e7
  clear g0 g1 g2 g3 g4 g5 g6 g7 e0 e1 e2 e3 e4 e5 e6 e7 h2 h
  obtain ⟨rfl, rfl, rfl, rfl, rfl⟩ := s2
  obtain ⟨rfl, rfl, rfl, rfl, rfl, rfl⟩ := s4
  obtain ⟨rfl, rfl, rfl, rfl, rfl, rfl⟩ := s6
  subst s0 s1 s3 s5 s7
  exact ⟨⟨k, p, col, cl, pn, fo, m0, m1, m2, m3, m4, m5, bs⟩, Ap, cp, Ac, cc, Ad, cd, Ab, cb, rfl, ⟨p1, p2, p3⟩, ⟨q1, q2, q3⟩, ⟨d1, d2, d3⟩, b1, b2, b3⟩
theorem rd_items {f : Nat} {cs : List Value} {x : DataW H × List MemPlace} (h : DataW.trod enc Tryz.prog w 0 (fun _ => true) true f 22 cs = some x) :
    ∃ (A : Option Addr) (cap : Nat) (l : List ItemP), cs = [.slice A l.length cap] ∧ ItemsAt w A l ∧ l.length ≤ cap ∧ cap ≤ maxLen := by
  obtain ⟨A, cap, l, es, h1, h2, h3, h4, h5⟩ := rd_row Tryz.underlying22 clls16 (by decide) h (fun (c : ItemP) ecs => ItemRd w c ecs.toArray) (fun f' ecs y hy => rd_item hy)
  refine ⟨A, cap, l, h1, ?_, h2, h3⟩
  exact ⟨fun i => (es i).toArray, h5, h4⟩
theorem rd_page {f : Nat} {cs : List Value} {x : DataW H × List MemPlace} (h : DataW.trod enc Tryz.prog w 0 (fun _ => true) true f 24 cs = some x) : ∃ p : PageP, PageRd w p cs.toArray := by
  obtain ⟨hlen, f', h2⟩ := flds undr_page clls17 flds_page h
  rcases cs with _ | ⟨c0, _ | ⟨c1, _ | ⟨c2, _ | ⟨c3, r⟩⟩⟩⟩ <;> simp at hlen
  obtain ⟨y0, g0⟩ := h2 0 _ _ _ _ rfl clls0
  obtain ⟨a0, e0, -⟩ := rd_int g0
  have s0 : c0 = .int .i64 a0 := by simpa using e0
  obtain ⟨y1, g1⟩ := h2 1 _ _ _ _ rfl clls0
  obtain ⟨a1, e1, -⟩ := rd_int g1
  have s1 : c1 = .int .i64 a1 := by simpa using e1
  obtain ⟨y2, g2⟩ := h2 2 _ _ _ _ rfl clls10
  obtain ⟨A, cap, l, e2, k1, k2, k3⟩ := rd_items g2
  have s2 : c2 = .slice A l.length cap := by simpa using e2
  subst s0 s1 s2
  exact ⟨⟨a0, a1, l⟩, A, cap, rfl, k1, k2, k3⟩
end
end Go.Proofs.YtdkgfgmmmjpkgaaGreatDoor
