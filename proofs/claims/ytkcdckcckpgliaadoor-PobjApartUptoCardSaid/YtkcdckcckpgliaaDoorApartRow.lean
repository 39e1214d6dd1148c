/-
  PobjApart, where what is read is of bulk at most 1048576: the law returns true: two sound objects have the same bytes exactly if they are equal. Conditions: the bulk, and the listed package variables as the program lays them (the card ties them).
-/
import Derived.Test.YtkcdckcckpgliaaDoorWorld
import Derived.Test.YtkcdckcckpgliaaDoorApart
import Derived.Test.YtkcdckcckpgliaaDoorInj
import Derived.Carry
namespace Go.Proofs.YtkcdckcckpgliaaDoor.apart
open Go.ChangeShapes Go.WideShapes Go.ChangeAt Go.RowKit

theorem laidOut : laidOutB Tryd.prog = true := by kernel_rfl
theorem gPowType : (Tryd.prog.globals[1]?).map (·.type) = some 91 := by kernel_rfl
theorem powData : (Rows.laid_internal_strconv_uint64pow10 : DataW Unit) = Lib.tabData .u64 Lib.pow10Tab := by kernel_rfl
theorem tab_of {W : World} (h : laidMetH Tryd.prog Rows.pobjApartUptoRow.laid W) : Tab W := by
  have h2 : laidMet Tryd.prog Rows.pobjApartUptoRow.laid W := h
  obtain ⟨ps, ⟨g1, t1, cs1, f1, p1, q1, -, -, -, -, hr1, -⟩, -⟩ := h2
  obtain ⟨g2, t2, cs2, f2, p2, q2, -, -, -, -, hr2, -⟩ := hr1
  obtain ⟨g3, t3, cs3, f3, p3, q3, hg, hty, hvar, hd, -, -⟩ := hr2
  obtain rfl := Option.some.inj (gPow.symm.trans hg)
  obtain rfl := Option.some.inj (gPowType.symm.trans hty)
  rw [powData] at hd
  unfold Tab Lib.TabIs
  rw [hvar]
  have h3 := Lib.cells_of_tab Tryd.underlying91 Tryd.underlying65 (by kernel_rfl) (by kernel_rfl) hd
  rw [← h3]

theorem contract (H : Type) (enc : TypeId × Value → H) (W : World) (base : Nat) (args : Array Value) (ds gs : List (DataW H)) (before : List MemPlace)
    (hval : ∀ (j : Nat) t v, Tryd.f4.params[j]? = some t → args[j]? = some v → Value.okWide Tryd.prog W .any base t v)
    (hW : DataW.Whole enc Tryd.prog Tryd.f4.params.toList Rows.pobjApartSpec.vars false W args.toList ds gs before) (hL : laidMetH Tryd.prog Rows.pobjApartUptoRow.laid W) (hk : Rows.uptoSmall H (ds ++ gs) = true) :
    Calls Tryd.prog 4 args W fun e W' => ∃ v, e = .returned v ∧ Rows.pobjApartSpec.post enc Tryd.prog Tryd.f4 false true false false W args v W' := by
  have hW' := hW
  obtain ⟨p, q, hA0, hV, rfl, hfz, hnd⟩ := hW
  have hA : DataW.TrodAll enc Tryd.prog W 0 (fun _ => true) true Tryd.f4.params.toList args.toList ds p := hA0
  rw [Tryd.params4] at hA hval
  obtain ⟨v0, vs0, d0, ds0, p0, q0, hargs, rfl, rfl, h0, r0⟩ := trodAll_cons hA
  obtain ⟨v1, vs1, d1, ds1, p1, q1, rfl, rfl, rfl, h1, r1⟩ := trodAll_cons r0
  obtain ⟨rfl, rfl, rfl⟩ := trodAll_nil r1
  obtain rfl : args = #[v0, v1] := by cases args; simp_all
  obtain ⟨rfl, rfl⟩ := trodVars_none hV
  obtain ⟨va, rfl, -⟩ := okWide_struct Tryd.underlying26 (hval 0 26 v0 rfl rfl)
  obtain ⟨vb, rfl, -⟩ := okWide_struct Tryd.underlying26 (hval 1 26 v1 rfl rfl)
  clear hA0
  have hbk : Rows.uptoBulkAll ([d0, d1] ++ []) ≤ 1048576 := of_decide_eq_true hk
  simp only [Rows.uptoBulkAll, List.append_nil] at hbk
  obtain ⟨f0, t0⟩ := h0
  obtain ⟨f1, t1⟩ := h1
  obtain ⟨a, ha, hsa⟩ := rd_obj f0 _ _ t0 (by show Rows.uptoBulk d0 ≤ _; omega)
  obtain ⟨b, hb, hsb⟩ := rd_obj f1 _ _ t1 (by show Rows.uptoBulk d1 ≤ _; omega)
  have hlt : ∀ x ∈ p0 ++ (p1 ++ []), x.block < W.heap.size := fun x hx => hW'.lt x (by simpa using hx)
  refine (apart_calls a b va vb W (by simpa [Value.cells] using ha) (by simpa [Value.cells] using hb) (tab_of hL) (fun hs => ?_) (fun hs => ?_) (apart_law a b)).mono fun e W' ⟨he, bel⟩ => ?_
  · have := len_all 32 a hs
    simp only at hsa
    omega
  · have := len_all 32 b hs
    simp only at hsb
    omega
  subst he
  exact ⟨_, rfl, _, _, _, [], _, [], hW', trodAll_mk1 (shut_bool Tryd.underlying4 _), (trodAll_cons_mk (Below.trod laidOut (by kernel_rfl) (of_decide_eq_true (by kernel_rfl)) ⟨f0, t0⟩ bel (fun x hx => hlt x (by simp [hx]))) (trodAll_cons_mk (Below.trod laidOut (by kernel_rfl) (of_decide_eq_true (by kernel_rfl)) ⟨f1, t1⟩ bel (fun x hx => hlt x (by simp [hx]))) trodAll_mk0)), rfl, bel.frame _, fun h => by cases h⟩

abbrev nullO : Value := .agg #[.int .i64 0, .int .i64 0, .string ByteArray.empty, .slice none 0 0, .slice none 0 0, .slice none 0 0]
abbrev nullD {H : Type} : DataW H := .agg [.lit (.int .i64 0), .lit (.int .i64 0), .lit (.string []), .nil, .nil, .nil]
theorem laid_met (os : Os) : laidMet Tryd.prog Rows.pobjApartUptoRow.laid ((laidWorld os).forCall (fun _ _ => 0) ⟨#[], #[nullO, nullO], []⟩).memory :=
  laidMet_of_run' 8 (by kernel_rfl) (by kernel_rfl)
theorem reads (os : Os) {H : Type} (enc : TypeId × Value → H) : ∃ places, DataW.whole enc Tryd.prog ((laidWorld os).forCall (fun _ _ => 0) ⟨#[], #[nullO, nullO], []⟩).memory Tryd.f4.params.toList Rows.pobjApartSpec.vars false #[nullO, nullO].toList 8 = some ([nullD, nullD], [], places) :=
  ⟨[], by kernel_rfl⟩

set_option maxRecDepth 100000 in
theorem lifted (os : Os) (started : os.Started) (H : Type) (enc : TypeId × Value → H) (F : Stop.Interp) :
    ReturnsInHanded {} Tryd.checked os 4 .any ((Rows.OpenSpec.upto Rows.pobjApartSpec).preRow enc Tryd.prog Tryd.f4 Rows.pobjApartUptoRow.domain false Rows.pobjApartUptoRow.laid) (((Rows.OpenSpec.upto Rows.pobjApartSpec).at F).post enc Tryd.prog Tryd.f4 false true false false) := by
  obtain ⟨places, hx⟩ := reads os enc
  refine returnsInHanded_of_row (C := Tryd.checked) (s := Rows.OpenSpec.upto Rows.pobjApartSpec) own started (by kernel_rfl) Tryd.func4
    (witness_row_atRef (enc := enc) (C := Tryd.checked) false (laidWorld os) #[nullO, nullO] rfl (by kernel_rfl) (by kernel_rfl) (by kernel_rfl)
      (OpenSpec.preRow_of_cond 8 hx (by kernel_rfl) (fun k hk => by cases hk; kernel_rfl) (by kernel_rfl) (laid_met os))) ?_
  intro W base args ds gs before hval hW h1 hcond h2 hL h3 h4
  exact contract H enc W base args ds gs before hval hW hL (hcond _ rfl)

theorem said : Rows.PobjApartUptoSaid :=
  OpenClaim.holds_of_cond 4 Tryd.f4 rfl rfl rfl rfl rfl rfl rfl ⟨rfl, rfl, rfl, rfl, rfl⟩ rfl rfl rfl rfl rfl (by kernel_rfl) Tryd.func4 (by kernel_rfl)
    (of_decide_eq_true (by kernel_rfl)) (by unfold Func.isWrapper; first | (rw [if_pos (by decide +kernel)]; kernel_rfl) | (rw [if_neg (by decide +kernel)]; exact ⟨rfl, rfl⟩))
    (fun os started H enc _ F => by rw [OpenClaim.pre_eq_preRow]; exact lifted os started H enc F)

/-- No parameter wants a stand-in; the program's own looks are off: what the card asks. -/
theorem plain (f : FuncId) (fn : Func) (hf : Tryd.pinned.checked.prog.funcNamed "mezzotint/mezzotintlaw18.PobjApart" = some f) (hfn : Tryd.pinned.checked.prog.funcs[f]? = some fn) :
    false = Tryd.pinned.checked.prog.looks [] ∧ ∀ (j : Nat) t, fn.params[j]? = some t → Tryd.pinned.checked.prog.wantsStandIn t = false := by
  obtain rfl : f = 4 := Option.some.inj ((show Tryd.prog.funcNamed "mezzotint/mezzotintlaw18.PobjApart" = some 4 by kernel_rfl).symm.trans hf) |>.symm
  obtain rfl : fn = Tryd.f4 := (Option.some.inj (Tryd.func4.symm.trans hfn)).symm
  refine ⟨by kernel_rfl, fun j t ht => ?_⟩
  rw [Tryd.params4] at ht
  obtain rfl : t = 26 := by simpa using Array.mem_of_getElem? ht
  exact (show Tryd.prog.wantsStandIn 26 = false by kernel_rfl)

theorem card : Rows.PobjApartUptoCardSaid :=
  Claim7.holds_tied_plain_at .later [] _ _ _ _ said (fun _ h => by cases h) (by kernel_rfl) (fun _ h => by cases h) pobjApartUpto_row_tie rfl ⟨rfl, rfl⟩ (by kernel_rfl) rfl plain (by kernel_rfl)
end Go.Proofs.YtkcdckcckpgliaaDoor.apart
namespace Go.Proofs.YtkcdckcckpgliaaDoor
theorem pobjApart_card : Rows.PobjApartUptoCardSaid := apart.card
#print axioms pobjApart_card
end Go.Proofs.YtkcdckcckpgliaaDoor
