/-
  DrawAhead: the law returns true for every page and every number: the content of a page's first items is the beginning of its content, but for a last Q. Conditions: none beyond the row's own (the listed package variables as the program lays them; the card ties them).
-/
import Derived.StillTailTactics
import Derived.Test.YtdkgfgmmmjpkgaaGreatDoorM8

namespace Go.Proofs.YtdkgfgmmmjpkgaaGreatDoor
open Go.RowKit Go.Shelf

theorem ItemsAt.take {w : World} {A : Option Addr} {l : List ItemP} (h : ItemsAt w A l) (k : Nat) (hk : k ≤ l.length) : ItemsAt w A (l.take k) := by
  obtain ⟨cs, h1, h2⟩ := h
  have hl : (l.take k).length = k := by rw [List.length_take]; omega
  refine ⟨cs, ?_, fun i hi => ?_⟩
  · rcases h1 with h0 | ⟨b, off, hA, hc⟩
    · exact .inl (by omega)
    · exact .inr ⟨b, off, hA, fun i hi j v hj => hc i (by omega) j v hj⟩
  · have hi' : i < l.length := by omega
    have := h2 i hi'
    rw [List.getElem_take]
    exact this

theorem ansB_zero (p : PageP) (h : (ansB p).1 = 0) : contentB p.items = some (ansB p).2.1 := by
  rw [ansB] at h ⊢
  cases hp : pageOk p with
  | false => rw [hp] at h; cases h
  | true =>
    rw [hp] at h
    rw [if_pos rfl] at h ⊢
    cases hc : contentB p.items with
    | none => rw [hc] at h; cases h
    | some b => rfl
theorem ahead_plain (pw ph : Int) (l : List ItemP) (k : Nat) (h1 : (ansB ⟨pw, ph, l⟩).1 = 0) (h2 : (ansB ⟨pw, ph, l.take k⟩).1 = 0) :
    ∃ acc, (ansB ⟨pw, ph, l.take k⟩).2.1 = acc ++ (if (lastClips [] (l.take k)).isEmpty then [] else [81, 10]) ∧ acc.length ≤ (ansB ⟨pw, ph, l⟩).2.1.length ∧ (ansB ⟨pw, ph, l⟩).2.1.take acc.length = acc :=
  ahead_law l k _ _ (ansB_zero _ h2) (ansB_zero _ h1)
theorem lastClips_take (l : List ItemP) (m : Nat) (h : m < l.length) : lastClips [] (l.take (m + 1)) = l[m].clips := by
  have : (l.take (m + 1)).getLast? = some l[m] := by rw [List.take_add_one, List.getElem?_eq_getElem h, Option.toList_some, List.getLast?_concat]
  rw [lastClips, this]
theorem ItemsAt.clipsCell {w : World} {A : Option Addr} {l : List ItemP} (h : ItemsAt w A l) (m : Nat) (hm : m < l.length) : ∃ b off Ac cc, A = some ⟨b, off, none⟩ ∧ w.cell? ⟨b, off + m * 22 + 7, none⟩ = some (.slice Ac l[m].clips.length cc) := by
  obtain ⟨b, off, X, rfl, hX, hc⟩ := h.elem m hm
  obtain ⟨Ap, cp, Ac, cc, Ad, cd, Ab, cb, rfl, -⟩ := hX
  exact ⟨b, off, Ac, cc, rfl, hc 7 _ rfl⟩
theorem bytesAt_take {w : World} {A : Option Addr} {bs : List UInt8} (h : BytesAt w A bs) (k : Nat) : BytesAt w A (bs.take k) := fun j v hj => by
  refine h j v ?_
  rw [Lib.byteCells, List.map_take, List.getElem?_take] at hj
  split at hj
  · exact hj
  · cases hj
theorem bytesAt_drewN {w : World} {A : Option Addr} {bs : List UInt8} (h : BytesAt w A bs) (n : Nat) : BytesAt (w.drewN n) A bs := fun j v hj => by
  obtain ⟨a, ha, hc⟩ := h j v hj
  exact ⟨a, ha, hc⟩

set_option maxHeartbeats 6400000 in
set_option maxRecDepth 100000 in
theorem ahead_calls (p : PageP) (v : Array Value) (n : Nat) (w : World) (hv : PageRd w p v) (hn : n ≤ 255) (ht : Tab w) (hF : FTab w) :
    Calls Tryz.prog 5 #[.agg v, .int .u8 (n : Int)] w fun e w' => e = .returned (.bool true) ∧ Below w.heap.size w w' := by
  have hv0 := hv
  obtain ⟨A, c, rfl, hI, hlc, hcm⟩ := hv
  obtain ⟨pw, ph, l⟩ := p
  simp only at hI hlc hv0 ⊢
  have hcm' := hcm
  unfold maxLen at hcm'
  have HBW := Lib.hid (show ∀ W, Below (w.heap.size + 1) (w.alloc (.cells #[.int .i64 pw, .int .i64 ph, .slice A l.length c] 24)) W → Below w.heap.size w W from fun W hW => (below_alloc w _).trans (hW.mono (by omega)))
  have HC0 := Lib.hid (show ∀ W, Below (w.heap.size + 1) (w.alloc (.cells #[.int .i64 pw, .int .i64 ph, .slice A l.length c] 24)) W → W.cell? ⟨w.heap.size, 0, none⟩ = some (.int .i64 pw) from fun W hW => by
    rw [hW.cell (by simp), Lib.cell_of_heap (heap_alloc_new w _)]
    rfl)
  have HC1 := Lib.hid (show ∀ W, Below (w.heap.size + 1) (w.alloc (.cells #[.int .i64 pw, .int .i64 ph, .slice A l.length c] 24)) W → W.cell? ⟨w.heap.size, 1, none⟩ = some (.int .i64 ph) from fun W hW => by
    rw [hW.cell (by simp), Lib.cell_of_heap (heap_alloc_new w _)]
    rfl)
  have HC2 := Lib.hid (show ∀ W, Below (w.heap.size + 1) (w.alloc (.cells #[.int .i64 pw, .int .i64 ph, .slice A l.length c] 24)) W → W.cell? ⟨w.heap.size, 2, none⟩ = some (.slice A l.length c) from fun W hW => by
    rw [hW.cell (by simp), Lib.cell_of_heap (heap_alloc_new w _)]
    rfl)
  have HB0 := Lib.hid (Below.refl (w.heap.size + 1) (w.alloc (.cells #[.int .i64 pw, .int .i64 ph, .slice A l.length c] 24)))
  have HAN := Lib.hid (fun W (hW : Below w.heap.size w W) => answersD_calls W (ht.keep hW) (hF.keep hW))
  have HLI := Lib.hid (fun W (hW : Below w.heap.size w W) => light_calls ⟨pw, ph, l⟩ #[.int .i64 pw, .int .i64 ph, .slice A l.length c] W (hv0.keep hW))
  have HCO := Lib.hid (fun W (hW : Below w.heap.size w W) => content_calls ⟨pw, ph, l⟩ #[.int .i64 pw, .int .i64 ph, .slice A l.length c] W (hv0.keep hW) (ht.keep hW) (hF.keep hW))
  have HCK := Lib.hid (fun k (hk : k ≤ l.length) W (hW : Below w.heap.size w W) => content_calls ⟨pw, ph, l.take k⟩ #[.int .i64 pw, .int .i64 ph, .slice A k c] W ⟨A, c, by rw [show (l.take k).length = k from by rw [List.length_take]; omega], (hI.take k hk).keep hW, by rw [show (l.take k).length = k from by rw [List.length_take]; omega]; omega, hcm⟩ (ht.keep hW) (hF.keep hW))
  have HI := Lib.hid hI
  have HLL := Lib.hid (show lightB ⟨pw, ph, l⟩ = true → l.length ≤ 100 from fun h => by
    rw [lightB, Bool.and_eq_true] at h
    have := h.1
    simp only [Bool.not_eq_true', decide_eq_false_iff_not] at this
    omega)
  have HLAW := Lib.hid (fun k => ahead_plain pw ph l k)
  generalize lightB ⟨pw, ph, l⟩ = Q at *
  generalize ansB ⟨pw, ph, l⟩ = R at *
  clear hv0 ht hF hI
  have c0 := HC0.out _ HB0.out
  have c1 := HC1.out _ HB0.out
  have c2 := HC2.out _ HB0.out
  go_enter Tryz.func5, Tryz.ntmps5
  go_wp2_with fail
  refine (HAN.out _ (HBW.out _ HB0.out)).mono ?_
  rintro e w1 ⟨rfl, b1⟩
  have HB1 := Lib.hid (HB0.out.trans (b1.mono (by simp)))
  clear b1 c0 c1 c2
  have c0 := HC0.out _ HB1.out
  have c1 := HC1.out _ HB1.out
  have c2 := HC2.out _ HB1.out
  go_wp2_with fail
  refine (HLI.out _ (HBW.out _ HB1.out)).mono ?_
  rintro e w2 ⟨rfl, b2⟩
  have HB2 := Lib.hid (HB1.out.trans (b2.mono (by have := HB1.out.size; simp only [World.size_alloc] at this; omega)))
  clear b2 c0 c1 c2
  cases Q with
  | false =>
    go_wp2_with fail
    refine (HAN.out _ (HBW.out _ HB2.out)).mono ?_
    rintro e w3 ⟨rfl, b3⟩
    have HB3 := Lib.hid (HB2.out.trans (b3.mono (by have := HB2.out.size; simp only [World.size_alloc] at this; omega)))
    clear b3
    go_wp2_with fail
    go_ret
    exact ⟨rfl, HBW.out _ HB3.out⟩
  | true =>
    have hll : l.length ≤ 100 := HLL.out rfl
    have c0 := HC0.out _ HB2.out
    have c1 := HC1.out _ HB2.out
    have c2 := HC2.out _ HB2.out
    go_wp2_with fail
    refine (HCO.out _ (HBW.out _ HB2.out)).mono ?_
    rintro e w3 ⟨Ab, cb, Af, cf, rfl, hb, -, b3⟩
    have HB3 := Lib.hid (HB2.out.trans (b3.out.mono (by have := HB2.out.size; simp only [World.size_alloc] at this; omega)))
    clear b3 c0 c1 c2
    have c0 := HC0.out _ HB3.out
    have c1 := HC1.out _ HB3.out
    have c2 := HC2.out _ HB3.out
    have hb1 := Lib.hid (HBW.out _ HB3.out)
    go_upto_if 30 with fail
    go_cut [8] (fun s8 wx => ∃ k : Nat, k ≤ l.length ∧ s8 = .int .i64 k ∧ Hid (wx = w3))
    case first =>
      by_cases hl : 0 < l.length
      · go_wp2_with fail
        go_meet
        refine ⟨n % (l.length + 1), ?_, ?_, rfl⟩
        · have := Nat.mod_lt n (show 0 < l.length + 1 from Nat.succ_pos _)
          omega
        · rw [Int.natCast_emod]
          rfl
      · go_wp2_with fail
        go_meet
        exact ⟨0, Nat.zero_le _, rfl, rfl⟩
    case rest =>
      obtain ⟨k, hk, rfl, hwc⟩ := hcut
      obtain rfl := hwc.out
      have hkc : k ≤ c := by omega
      have hkc' : (k : Int) ≤ (c : Int) := by omega
      have hk0 : (0 : Int) ≤ (k : Int) := by omega
      have HCK2 := Lib.hid (show ∀ W, Below wc.heap.size wc W → Calls Tryz.prog 10 #[.agg #[.int .i64 pw, .int .i64 ph, .slice A k c]] W (fun e w' => ∃ Aa ca Ag cg, e = .returned (.tuple #[.slice Aa (ansB ⟨pw, ph, l.take k⟩).2.1.length ca, .slice Ag (ansB ⟨pw, ph, l.take k⟩).2.2.length cg, .int .i64 (ansB ⟨pw, ph, l.take k⟩).1]) ∧ Hid (BSl w' Aa ca (ansB ⟨pw, ph, l.take k⟩).2.1) ∧ Below wc.heap.size wc w') from fun W hW => (HCK.out k hk W (hb1.out.trans (hW.mono hb1.out.size))).mono fun e w' ⟨Aa, ca, Ag, cg, he, h1, _, h3⟩ => ⟨Aa, ca, Ag, cg, he, h1, hW.trans (h3.out.mono hW.size)⟩)
      have HSS := Lib.hid (show ∀ W, Below wc.heap.size wc W → W.cell? ⟨w.heap.size, 0, none⟩ = some (.int .i64 pw) ∧ W.cell? ⟨w.heap.size, 1, none⟩ = some (.int .i64 ph) ∧ W.cell? ⟨w.heap.size, 2, none⟩ = some (.slice A l.length c) ∧ Below wc.heap.size wc W from fun W hW => ⟨(hW.cell (World.block_lt_of_cell? wc _ c0)).trans c0, (hW.cell (World.block_lt_of_cell? wc _ c1)).trans c1, (hW.cell (World.block_lt_of_cell? wc _ c2)).trans c2, hW⟩)
      have HLAWK := Lib.hid (HLAW.out k)
      generalize ansB ⟨pw, ph, l.take k⟩ = S at *
      go_wp2_with fail
      go_region_held3 (fun W => W.cell? ⟨w.heap.size, 0, none⟩ = some (.int .i64 pw) ∧ W.cell? ⟨w.heap.size, 1, none⟩ = some (.int .i64 ph) ∧ W.cell? ⟨w.heap.size, 2, none⟩ = some (.slice A l.length c) ∧ Below wc.heap.size wc W)
        (first
          | exact HSS.out _ (by assumption)
          | exact HSS.out _ (below_drew' (Below.refl _ _))
          | exact HSS.out _ (Below.refl _ _))
        (first
          | (go_at_call 10; refine (HCK2.out _ (by first | assumption | (go_split_ands; assumption))).mono ?_; rintro e w8 ⟨Aa, ca, Ag, cg, rfl, ha, q8⟩))
      rename (_ ∧ _ ∧ _ ∧ Below wc.heap.size wc _) => hfin
      obtain ⟨z0, z1, z2, zb⟩ := hfin
      obtain ⟨en, bs, fs⟩ := R
      obtain ⟨en', bt, fs'⟩ := S
      simp only at hb ha HLAWK
      have HB8 := Lib.hid (hb1.out.trans (zb.mono hb1.out.size))
      have hb8 := Lib.hid (hb.out.keep zb)
      have HI8 := Lib.hid (HI.out.keep HB8.out)
      clear hb z0 z1 zb c0 c1 c2
      cases h1 : (en != 0) with
      | true =>
        go_wp2_with fail
        go_ret
        exact ⟨rfl, HB8.out⟩
      | false =>
        have e1 : Hid (en = 0) := by
          show _ = _
          rw [bne, Bool.not_eq_false'] at h1
          exact eq_of_beq h1
        cases h2 : (en' != 0) with
        | true =>
          go_wp2_with fail
          go_ret
          exact ⟨rfl, HB8.out⟩
        | false =>
          have e2 : Hid (en' = 0) := by
            show _ = _
            rw [bne, Bool.not_eq_false'] at h2
            exact eq_of_beq h2
          obtain ⟨acc, hacc, hle, htk⟩ := HLAWK.out e1.out e2.out
          have HACC := Lib.hid hacc
          have HTK := Lib.hid htk
          clear hacc htk
          have hbt47 := ha.out.2.1
          have hca := ha.out.2.2.1
          have hcb := hb8.out.2.2.1
          have hbb := hb8.out.2.1
          unfold maxLen at hca hcb
          go_upto_region 11 with fail
          go_cut [72] (fun s72 wx => ∃ q : Bool, s72 = .bool q ∧ Hid ((lastClips [] (l.take k)).isEmpty = !q) ∧ Hid (wx = w8))
          case first =>
            by_cases hk1 : 0 < k
            · obtain ⟨m, rfl⟩ : ∃ m, k = m + 1 := ⟨k - 1, by omega⟩
              have hm : m < l.length := by omega
              have hm2 : (m : Int) < (l.length : Int) := by omega
              obtain ⟨b', off', Ac, cc, rfl, hcl⟩ := HI8.out.clipsCell m hm
              have hlc' := lastClips_take l m hm
              generalize l[m].clips = cl at *
              have HLC := Lib.hid hlc'
              clear hlc'
              cases cl with
              | nil =>
                go_wp2_with fail
                go_meet
                exact ⟨false, rfl, by rw [HLC.out]; rfl, rfl⟩
              | cons x r =>
                go_wp2_with fail
                go_meet
                exact ⟨true, rfl, by rw [HLC.out]; rfl, rfl⟩
            · obtain rfl : k = 0 := by omega
              go_wp2_with fail
              go_meet
              exact ⟨false, rfl, rfl, rfl⟩
          case rest =>
            obtain ⟨q, rfl, hq, hwx⟩ := hcut
            obtain rfl := hwx.out
            have hle1 : (acc.length : Int) ≤ (bs.length : Int) := by omega
            have hle2 : (acc.length : Int) ≤ (cb : Int) := by omega
            have hal : Hid (bt.length = acc.length + if q then 2 else 0) := by
              show _ = _
              rw [HACC.out, hq.out]
              cases q <;> simp
            have hle3 : (acc.length : Int) ≤ (ca : Int) := by
              have := hal.out
              cases q <;> simp at this <;> omega
            have htb : Hid (bt.take acc.length = acc) := by
              show _ = _
              rw [HACC.out, List.take_left]
            have hcv1 : ∀ n, (convert 27 9 (.slice Ab acc.length cb)).run Tryz.prog (wc.drewN n) = .ok (.string ⟨acc.toArray⟩) (wc.drewN n) := fun n => by
              have h := bytesAt_take hb8.out.1 acc.length
              rw [HTK.out] at h
              exact convert_bytes _ Ab cb acc (bytesAt_drewN h n)
            have hcv2 : ∀ n, (convert 27 9 (.slice Aa acc.length ca)).run Tryz.prog (wc.drewN n) = .ok (.string ⟨acc.toArray⟩) (wc.drewN n) := fun n => by
              have h := bytesAt_take ha.out.1 acc.length
              rw [htb.out] at h
              exact convert_bytes _ Aa ca acc (bytesAt_drewN h n)
            cases q with
            | true =>
              have hsub : ((bt.length : Nat) : Int) - 2 = acc.length := by have := hal.out; simp at this; omega
              have h2 : (2 : Int) ≤ (bt.length : Int) := by omega
              have hz : (0 : Int) ≤ (acc.length : Int) := by omega
              have hlen1 : decide (acc.length ≤ bs.length) = true := decide_eq_true hle
              have hlen2 : decide ((acc.length : Int) ≤ (bs.length : Int)) = true := decide_eq_true hle1
              go_wp2_with fail
              clear hsub
              go_quiet (fail)
              go_wp2_with fail
              go_ret
              exact ⟨rfl, below_drewN HB8.out _⟩
            | false =>
              have hsub : ((bt.length : Nat) : Int) = acc.length := by have := hal.out; simp at this; omega
              have hz : (0 : Int) ≤ (acc.length : Int) := by omega
              have hlen1 : decide (acc.length ≤ bs.length) = true := decide_eq_true hle
              have hlen2 : decide ((acc.length : Int) ≤ (bs.length : Int)) = true := decide_eq_true hle1
              go_wp2_with fail
              clear hsub
              go_quiet (fail)
              go_wp2_with fail
              go_ret
              exact ⟨rfl, below_drewN HB8.out _⟩
end Go.Proofs.YtdkgfgmmmjpkgaaGreatDoor

namespace Go.Proofs.YtdkgfgmmmjpkgaaGreatDoor.drawAhead
open Go.ChangeShapes Go.WideShapes Go.ChangeAt Go.RowKit

set_option maxRecDepth 100000 in
theorem contract (H : Type) (enc : TypeId × Value → H) (W : World) (base : Nat) (args : Array Value) (ds gs : List (DataW H)) (before : List MemPlace)
    (hval : ∀ (j : Nat) t v, Tryz.f5.params[j]? = some t → args[j]? = some v → Value.okWide Tryz.prog W .any base t v)
    (hW : DataW.Whole enc Tryz.prog Tryz.f5.params.toList Rows.drawAheadSpec.vars false W args.toList ds gs before) (hL : laidMetH Tryz.prog Rows.drawAheadRow.laid W) :
    Calls Tryz.prog 5 args W fun e W' => ∃ v, e = .returned v ∧ Rows.drawAheadSpec.post enc Tryz.prog Tryz.f5 false true false false W args v W' := by
  have hW' := hW
  obtain ⟨p, q, hA0, hV, rfl, hfz, hnd⟩ := hW
  have hA : DataW.TrodAll enc Tryz.prog W 0 (fun _ => true) true Tryz.f5.params.toList args.toList ds p := hA0
  rw [Tryz.params5] at hA hval
  obtain ⟨v0, vs0, d0, ds0, p0, q0, hargs, rfl, rfl, h0, r0⟩ := trodAll_cons hA
  obtain ⟨v1, vs1, d1, ds1, p1, q1, rfl, rfl, rfl, h1, r1⟩ := trodAll_cons r0
  obtain ⟨rfl, rfl, rfl⟩ := trodAll_nil r1
  obtain rfl : args = #[v0, v1] := by cases args; simp_all
  obtain ⟨rfl, rfl⟩ := trodVars_none hV
  obtain ⟨a0, rfl, -⟩ := okWide_struct Tryz.underlying24 (hval 0 24 v0 rfl rfl)
  obtain ⟨k1, rfl⟩ := okWide_int Tryz.underlying5 (hval 1 5 v1 rfl rfl)
  clear hA0
  obtain ⟨f0, t0⟩ := h0
  obtain ⟨b0, hb0⟩ := rd_page t0
  obtain ⟨f1, t1⟩ := h1
  have hb1 : 0 ≤ k1 ∧ k1 ≤ 255 := by
    obtain ⟨k, e1, e2, -⟩ := rd_u8 t1
    have e3 : k1 = k := by simpa [Value.cells] using e1
    subst e3
    have h4 : IntKind.u8.min ≤ k1 ∧ k1 ≤ IntKind.u8.max := by simpa [Lit.wf] using e2
    have h5 : IntKind.u8.min = 0 := by decide
    have h6 : IntKind.u8.max = 255 := by decide
    omega
  obtain ⟨n1, rfl⟩ : ∃ n : Nat, k1 = (n : Int) := ⟨k1.toNat, by omega⟩
  have hlt : ∀ x ∈ p0 ++ (p1 ++ []), x.block < W.heap.size := fun x hx => hW'.lt x (by simpa using hx)
  refine (ahead_calls b0 a0 n1 W (by simpa [Value.cells] using hb0) (by omega) (tabs_of hL).1 (tabs_of hL).2).mono fun e W' ⟨he, bel⟩ => ?_
  subst he
  exact ⟨_, rfl, _, _, _, [], _, [], hW', trodAll_mk1 (shut_bool Tryz.underlying4 _), (trodAll_cons_mk (Below.trod laidOut (by kernel_rfl) (of_decide_eq_true (by kernel_rfl)) ⟨f0, t0⟩ bel (fun x hx => hlt x (by simp [hx]))) (trodAll_cons_mk (Below.trod laidOut (by kernel_rfl) (of_decide_eq_true (by kernel_rfl)) ⟨f1, t1⟩ bel (fun x hx => hlt x (by simp [hx]))) trodAll_mk0)), rfl, bel.frame _, fun h => by cases h⟩

abbrev vals : Array Value := #[(.agg #[.int .i64 0, .int .i64 0, .slice none 0 0]), .int .u8 0]
theorem laid_met (os : Os) : laidMet Tryz.prog Rows.drawAheadRow.laid ((laidWorld os).forCall (fun _ _ => 0) ⟨#[], vals, []⟩).memory :=
  laidMet_of_run' 8 (by kernel_rfl) (by kernel_rfl)
theorem reads (os : Os) {H : Type} (enc : TypeId × Value → H) : ∃ places, DataW.whole enc Tryz.prog ((laidWorld os).forCall (fun _ _ => 0) ⟨#[], vals, []⟩).memory Tryz.f5.params.toList Rows.drawAheadSpec.vars false vals.toList 8 = some ([(.agg [.lit (.int .i64 0), .lit (.int .i64 0), .nil]), .lit (.int .u8 0)], [], places) :=
  ⟨[], by kernel_rfl⟩

set_option maxRecDepth 100000 in
theorem lifted (os : Os) (started : os.Started) (H : Type) (enc : TypeId × Value → H) (F : Stop.Interp) :
    ReturnsInHanded {} Tryz.checked os 5 .any ((OpenSpec.ofChange Rows.drawAheadSpec).preRow enc Tryz.prog Tryz.f5 Rows.drawAheadRow.domain false Rows.drawAheadRow.laid) (((OpenSpec.ofChange Rows.drawAheadSpec).at F).post enc Tryz.prog Tryz.f5 false true false false) := by
  obtain ⟨places, hx⟩ := reads os enc
  refine returnsInHanded_of_row (C := Tryz.checked) (s := OpenSpec.ofChange Rows.drawAheadSpec) own started (by kernel_rfl) Tryz.func5
    (witness_row_atRef (enc := enc) (C := Tryz.checked) false (laidWorld os) vals rfl (by kernel_rfl) (by kernel_rfl) (by kernel_rfl)
      (OpenSpec.preRow_of_cond 8 hx (by kernel_rfl) (fun k hk => by cases hk) (by kernel_rfl) (laid_met os))) ?_
  intro W base args ds gs before hval hW _ _ _ hL _ _
  exact contract H enc W base args ds gs before hval hW hL

theorem said : Rows.DrawAheadSaid :=
  OpenClaim.holds_of_cond 5 Tryz.f5 rfl rfl rfl rfl rfl rfl rfl ⟨rfl, rfl, rfl, rfl, rfl⟩ rfl rfl rfl rfl rfl (by kernel_rfl) Tryz.func5 (by kernel_rfl)
    (of_decide_eq_true (by kernel_rfl)) (by unfold Func.isWrapper; first | (rw [if_pos (by decide +kernel)]; kernel_rfl) | (rw [if_neg (by decide +kernel)]; exact ⟨rfl, rfl⟩))
    (fun os started H enc _ F => by rw [OpenClaim.pre_eq_preRow]; exact lifted os started H enc F)

/-- No parameter wants a stand-in; the program's own looks are off: what the card asks. -/
theorem plain (f : FuncId) (fn : Func) (hf : Tryz.pinned.checked.prog.funcNamed "mezzotint/mezzotintlaw20.DrawAhead" = some f) (hfn : Tryz.pinned.checked.prog.funcs[f]? = some fn) :
    false = Tryz.pinned.checked.prog.looks [] ∧ ∀ (j : Nat) t, fn.params[j]? = some t → Tryz.pinned.checked.prog.wantsStandIn t = false := by
  obtain rfl : f = 5 := Option.some.inj ((show Tryz.prog.funcNamed "mezzotint/mezzotintlaw20.DrawAhead" = some 5 by kernel_rfl).symm.trans hf) |>.symm
  obtain rfl : fn = Tryz.f5 := (Option.some.inj (Tryz.func5.symm.trans hfn)).symm
  refine ⟨by kernel_rfl, fun j t ht => ?_⟩
  rw [Tryz.params5] at ht
  have hm : t = 24 ∨ t = 5 := by simpa using Array.mem_of_getElem? ht
  rcases hm with rfl | rfl
  · exact (show Tryz.prog.wantsStandIn 24 = false by kernel_rfl)
  · exact (show Tryz.prog.wantsStandIn 5 = false by kernel_rfl)

theorem card : Rows.DrawAheadCardSaid :=
  Claim7.holds_tied_plain_at .later [] _ _ _ _ said (fun _ h => by cases h) (by kernel_rfl) (fun _ h => by cases h) drawAhead_row_tie rfl ⟨rfl, rfl⟩ (by kernel_rfl) rfl plain (by kernel_rfl)
end Go.Proofs.YtdkgfgmmmjpkgaaGreatDoor.drawAhead
namespace Go.Proofs.YtdkgfgmmmjpkgaaGreatDoor
theorem drawAhead_card : Rows.DrawAheadCardSaid := drawAhead.card
#print axioms drawAhead_card
end Go.Proofs.YtdkgfgmmmjpkgaaGreatDoor
