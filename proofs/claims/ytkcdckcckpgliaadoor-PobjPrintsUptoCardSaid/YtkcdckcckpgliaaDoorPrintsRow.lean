/-
  PobjPrints, where what is read is of bulk at most 1048576: the law returns true: Sound, Print and the reference agree on any object. Conditions: the bulk, and the listed package variables as the program lays them (the card ties them).
-/
import Derived.Test.YtkcdckcckpgliaaDoorWorld
import Derived.Test.YtkcdckcckpgliaaDoorPrints
import Derived.Test.YtkcdckcckpgliaaDoorLen
import Derived.Test.YtkcdckcckpgliaaDoorOpen
import Derived.Carry
namespace Go.Proofs.YtkcdckcckpgliaaDoor.prints
open Go.ChangeShapes Go.WideShapes Go.ChangeAt Go.RowKit

theorem laidOut : laidOutB Tryd.prog = true := by kernel_rfl
theorem gPowType : (Tryd.prog.globals[1]?).map (·.type) = some 91 := by kernel_rfl
theorem powData : (Rows.laid_internal_strconv_uint64pow10 : DataW Unit) = Lib.tabData .u64 Lib.pow10Tab := by kernel_rfl
theorem tab_of {W : World} (h : laidMetH Tryd.prog Rows.pobjPrintsUptoRow.laid W) : Tab W := by
  have h2 : laidMet Tryd.prog Rows.pobjPrintsUptoRow.laid W := h
  obtain ⟨ps, ⟨g1, t1, cs1, f1, p1, q1, -, -, -, -, hr1, -⟩, -⟩ := h2
  obtain ⟨g2, t2, cs2, f2, p2, q2, -, -, -, -, hr2, -⟩ := hr1
  obtain ⟨g3, t3, cs3, f3, p3, q3, hg, hty, hvar, hd, -, -⟩ := hr2
  obtain rfl := Option.some.inj (gPow.symm.trans hg)
  obtain rfl := Option.some.inj (gPowType.symm.trans hty)
  rw [powData] at hd
  unfold Tab Lib.TabIs
  rw [hvar]
  have h3 := Lib.cells_of_tab Tryd.underlying91 Tryd.underlying65 (by kernel_rfl) (by kernel_rfl) hd
  rw [← h3]

theorem contract (H : Type) (enc : TypeId × Value → H) (W : World) (base : Nat) (args : Array Value) (ds gs : List (DataW H)) (before : List MemPlace)
    (hval : ∀ (j : Nat) t v, Tryd.f3.params[j]? = some t → args[j]? = some v → Value.okWide Tryd.prog W .any base t v)
    (hW : DataW.Whole enc Tryd.prog Tryd.f3.params.toList Rows.pobjPrintsSpec.vars false W args.toList ds gs before) (hL : laidMetH Tryd.prog Rows.pobjPrintsUptoRow.laid W) (hk : Rows.uptoSmall H (ds ++ gs) = true) :
    Calls Tryd.prog 3 args W fun e W' => ∃ v, e = .returned v ∧ Rows.pobjPrintsSpec.post enc Tryd.prog Tryd.f3 false true false false W args v W' := by
  have hW' := hW
  obtain ⟨p, q, hA0, hV, rfl, hfz, hnd⟩ := hW
  have hA : DataW.TrodAll enc Tryd.prog W 0 (fun _ => true) true Tryd.f3.params.toList args.toList ds p := hA0
  rw [Tryd.params3] at hA hval
  obtain ⟨v0, vs0, d0, ds0, p0, q0, hargs, rfl, rfl, h0, r0⟩ := trodAll_cons hA
  obtain ⟨rfl, rfl, rfl⟩ := trodAll_nil r0
  obtain rfl : args = #[v0] := by cases args; simp_all
  obtain ⟨rfl, rfl⟩ := trodVars_none hV
  obtain ⟨va, rfl, -⟩ := okWide_struct Tryd.underlying26 (hval 0 26 v0 rfl rfl)
  clear hA0
  have hbk : Rows.uptoBulkAll ([d0] ++ []) ≤ 1048576 := of_decide_eq_true hk
  simp only [Rows.uptoBulkAll, List.append_nil] at hbk
  obtain ⟨f0, t0⟩ := h0
  obtain ⟨a, ha, hsa⟩ := rd_obj f0 _ _ t0 (by show Rows.uptoBulk d0 ≤ _; omega)
  have hlt : ∀ x ∈ p0 ++ [], x.block < W.heap.size := fun x hx => hW'.lt x (by simpa using hx)
  refine (prints_calls a va W (by simpa [Value.cells] using ha) (tab_of hL) (fun hs => ?_)).mono fun e W' ⟨he, bel⟩ => ?_
  · have := len_all 32 a hs
    simp only at hsa
    omega
  subst he
  exact ⟨_, rfl, _, _, _, [], _, [], hW', trodAll_mk1 (shut_bool Tryd.underlying4 _), (trodAll_cons_mk (Below.trod laidOut (by kernel_rfl) (of_decide_eq_true (by kernel_rfl)) ⟨f0, t0⟩ bel (fun x hx => hlt x (by simp [hx]))) trodAll_mk0), rfl, bel.frame _, fun h => by cases h⟩

abbrev nullO : Value := .agg #[.int .i64 0, .int .i64 0, .string ByteArray.empty, .slice none 0 0, .slice none 0 0, .slice none 0 0]
abbrev nullD {H : Type} : DataW H := .agg [.lit (.int .i64 0), .lit (.int .i64 0), .lit (.string []), .nil, .nil, .nil]
theorem laid_met (os : Os) : laidMet Tryd.prog Rows.pobjPrintsUptoRow.laid ((laidWorld os).forCall (fun _ _ => 0) ⟨#[], #[nullO], []⟩).memory :=
  laidMet_of_run' 8 (by kernel_rfl) (by kernel_rfl)
theorem reads (os : Os) {H : Type} (enc : TypeId × Value → H) : ∃ places, DataW.whole enc Tryd.prog ((laidWorld os).forCall (fun _ _ => 0) ⟨#[], #[nullO], []⟩).memory Tryd.f3.params.toList Rows.pobjPrintsSpec.vars false #[nullO].toList 8 = some ([nullD], [], places) :=
  ⟨[], by kernel_rfl⟩

set_option maxRecDepth 100000 in
theorem lifted (os : Os) (started : os.Started) (H : Type) (enc : TypeId × Value → H) (F : Stop.Interp) :
    ReturnsInHanded {} Tryd.checked os 3 .any ((Rows.OpenSpec.upto Rows.pobjPrintsSpec).preRow enc Tryd.prog Tryd.f3 Rows.pobjPrintsUptoRow.domain false Rows.pobjPrintsUptoRow.laid) (((Rows.OpenSpec.upto Rows.pobjPrintsSpec).at F).post enc Tryd.prog Tryd.f3 false true false false) := by
  obtain ⟨places, hx⟩ := reads os enc
  refine returnsInHanded_of_row (C := Tryd.checked) (s := Rows.OpenSpec.upto Rows.pobjPrintsSpec) own started (by kernel_rfl) Tryd.func3
    (witness_row_atRef (enc := enc) (C := Tryd.checked) false (laidWorld os) #[nullO] rfl (by kernel_rfl) (by kernel_rfl) (by kernel_rfl)
      (OpenSpec.preRow_of_cond 8 hx (by kernel_rfl) (fun k hk => by cases hk; kernel_rfl) (by kernel_rfl) (laid_met os))) ?_
  intro W base args ds gs before hval hW h1 hcond h2 hL h3 h4
  exact contract H enc W base args ds gs before hval hW hL (hcond _ rfl)

theorem said : Rows.PobjPrintsUptoSaid :=
  OpenClaim.holds_of_cond 3 Tryd.f3 rfl rfl rfl rfl rfl rfl rfl ⟨rfl, rfl, rfl, rfl, rfl⟩ rfl rfl rfl rfl rfl (by kernel_rfl) Tryd.func3 (by kernel_rfl)
    (of_decide_eq_true (by kernel_rfl)) (by unfold Func.isWrapper; first | (rw [if_pos (by decide +kernel)]; kernel_rfl) | (rw [if_neg (by decide +kernel)]; exact ⟨rfl, rfl⟩))
    (fun os started H enc _ F => by rw [OpenClaim.pre_eq_preRow]; exact lifted os started H enc F)

/-- No parameter wants a stand-in; the program's own looks are off: what the card asks. -/
theorem plain (f : FuncId) (fn : Func) (hf : Tryd.pinned.checked.prog.funcNamed "mezzotint/mezzotintlaw18.PobjPrints" = some f) (hfn : Tryd.pinned.checked.prog.funcs[f]? = some fn) :
    false = Tryd.pinned.checked.prog.looks [] ∧ ∀ (j : Nat) t, fn.params[j]? = some t → Tryd.pinned.checked.prog.wantsStandIn t = false := by
  obtain rfl : f = 3 := Option.some.inj ((show Tryd.prog.funcNamed "mezzotint/mezzotintlaw18.PobjPrints" = some 3 by kernel_rfl).symm.trans hf) |>.symm
  obtain rfl : fn = Tryd.f3 := (Option.some.inj (Tryd.func3.symm.trans hfn)).symm
  refine ⟨by kernel_rfl, fun j t ht => ?_⟩
  rw [Tryd.params3] at ht
  obtain rfl : t = 26 := by simpa using Array.mem_of_getElem? ht
  exact (show Tryd.prog.wantsStandIn 26 = false by kernel_rfl)

theorem card : Rows.PobjPrintsUptoCardSaid :=
  Claim7.holds_tied_plain_at .later [] _ _ _ _ said (fun _ h => by cases h) (by kernel_rfl) (fun _ h => by cases h) pobjPrintsUpto_row_tie rfl ⟨rfl, rfl⟩ (by kernel_rfl) rfl plain (by kernel_rfl)
end Go.Proofs.YtkcdckcckpgliaaDoor.prints
namespace Go.Proofs.YtkcdckcckpgliaaDoor
theorem pobjPrints_card : Rows.PobjPrintsUptoCardSaid := prints.card
#print axioms pobjPrints_card
end Go.Proofs.YtkcdckcckpgliaaDoor
