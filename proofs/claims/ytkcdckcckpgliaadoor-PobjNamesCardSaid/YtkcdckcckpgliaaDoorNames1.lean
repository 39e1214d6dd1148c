/- pobj.Print of a PName. -/
import Derived.Test.YtkcdckcckpgliaaDoorName
namespace Go.Proofs.YtkcdckcckpgliaaDoor
open Go.RowKit Go.Shelf
variable {T : TypeId} {rest : Array Value} {ok : Nat → Prop} {b : Nat} {bs : List UInt8}

theorem bcell {W w1 : World} (hb : Below W.heap.size W w1) : (∀ b o, b < W.heap.size → w1.cell? ⟨b, o, none⟩ = W.cell? ⟨b, o, none⟩) ∧ (∀ b o, b < W.heap.size → w1.frozen? ⟨b, o, none⟩ = W.frozen? ⟨b, o, none⟩) :=
  ⟨fun b o h => hb.cell (p := ⟨b, o, none⟩) h, fun b o h => hb.frozen (p := ⟨b, o, none⟩) h⟩

def namedB (s : ByteArray) : Bool := !s.toList.isEmpty && decide (s.size ≤ 127) && decide (Lib.indexByte s.data.toList 0 < 0)
set_option maxHeartbeats 400000 in
set_option maxRecDepth 100000 in
theorem named_calls (s : ByteArray) (w : World) : Calls Tryd.prog 40 #[.string s] w fun e w' => e = .returned (.bool (namedB s)) ∧ w = w' := by
  go_enter Tryd.func40, Tryd.ntmps40
  go_wp2_with (go_at_call 52; refine (indexByte_any _ 0 _).mono ?_; rintro e w' ⟨rfl, rfl⟩)
  · go_ret; rename_i h; exact ⟨by simp [namedB, h], rfl⟩
  · go_ret; rename_i h h2; exact ⟨by have h3 : s.size ≤ 127 := by omega
                                     simp [namedB, h3], rfl⟩
  · go_ret; rename_i h h2; exact ⟨by have h3 : ¬ s.size ≤ 127 := by omega
                                     simp [namedB, h3], rfl⟩

abbrev nameAgg (s : ByteArray) : Value := .agg #[.int .i64 4, .int .i64 0, .string s, .slice none 0 0, .slice none 0 0, .slice none 0 0]

set_option maxHeartbeats 400000 in
set_option maxRecDepth 100000 in
theorem bare_name (s : ByteArray) (w : World) : Calls Tryd.prog 38 #[nameAgg s, .bool false, .bool true, .bool false, .bool false, .bool false] w fun e w' => e = .returned (.bool true) ∧ Below w.heap.size w w' := by
  go_enter Tryd.func38, Tryd.ntmps38
  go_wp2
  go_ret
  exact ⟨rfl, (Below.refl _ _).alloc (Nat.le_refl _) _⟩

set_option maxHeartbeats 800000 in
set_option maxRecDepth 100000 in
theorem sound_name (s : ByteArray) (w : World) : Calls Tryd.prog 19 #[nameAgg s, .int .i64 32] w fun e w' => e = .returned (.bool (namedB s)) ∧ Below w.heap.size w w' := by
  go_enter Tryd.func19, Tryd.ntmps19
  go_wp2_with (first | (go_at_call 38; refine (bare_name _ _).mono ?_; rintro e w1 ⟨rfl, hb⟩; obtain ⟨hc, hf⟩ := bcell hb) | (go_at_call 40; refine (named_calls _ _).mono ?_; rintro e w2 ⟨rfl, rfl⟩))
  go_ret
  exact ⟨rfl, ((Below.refl _ _).alloc (Nat.le_refl _) _).trans (hb.mono (by simp))⟩

set_option maxHeartbeats 800000 in
set_option maxRecDepth 100000 in
theorem Sound_name (s : ByteArray) (w : World) : Calls Tryd.prog 10 #[nameAgg s] w fun e w' => e = .returned (.bool (namedB s)) ∧ Below w.heap.size w w' := by
  go_enter Tryd.func10, Tryd.ntmps10
  go_wp2_with (go_at_call 19; refine (sound_name _ _).mono ?_; rintro e w1 ⟨rfl, hb⟩)
  go_ret
  exact ⟨rfl, ((Below.refl _ _).alloc (Nat.le_refl _) _).trans (hb.mono (by simp))⟩

set_option maxHeartbeats 800000 in
set_option maxRecDepth 100000 in
theorem write_name (s : ByteArray) (w : World) (h : BufAt 5 T rest ok b bs w) (hok : ∀ k, w.heap.size ≤ k → ok k) (hs : s.size ≤ 140737488355328) (hlim : bs.length + 3 * s.size + 1 ≤ 140737488355328) :
    Calls Tryd.prog 16 #[.pointer (some ⟨b, 0, none⟩), nameAgg s] w fun e w' => e = .returned (.tuple #[]) ∧ BufAt 5 T rest ok b (bs ++ nameL s.data.toList) w' ∧ Fr ok w w' := by
  go_enter Tryd.func16, Tryd.ntmps16
  go_wp2_with fail
  refine (name_calls (T := T) (rest := rest) (ok := ok) (bs := bs) s _ (BufAt.alloc h _) (fun k hk => hok k (by simp at hk; omega)) hs hlim).mono ?_
  rintro e w1 ⟨rfl, h1, f1⟩
  have H1 := Lib.hid h1
  have F1 := Lib.hid f1
  clear h1 f1
  go_wp2_with fail
  go_end0
  exact ⟨rfl, H1.out, (Fr.alloc (Fr.refl ok w) _).trans F1.out⟩

/-- What Print hands back where it hands back bytes: a row of its own. -/
def Printed (l : List UInt8) (w : World) (e : Ending) (w' : World) : Prop :=
  ∃ g c, e = .returned (.tuple #[.slice (some ⟨g, 0, none⟩) l.length c, .int .i64 0]) ∧ l.length ≤ c ∧ BytesAt w' (some ⟨g, 0, none⟩) l ∧ w.heap.size ≤ g ∧ g < w'.heap.size ∧ Below w.heap.size w w'

set_option maxHeartbeats 800000 in
set_option maxRecDepth 100000 in
theorem Print_name (s : ByteArray) (w : World) (hs : namedB s = true) :
    Calls Tryd.prog 8 #[nameAgg s] w (Printed (nameL s.data.toList) w) := by
  have hsz : s.size ≤ 127 := by
    simp only [namedB, Bool.and_eq_true, decide_eq_true_eq] at hs
    exact hs.1.2
  go_enter Tryd.func8, Tryd.ntmps8
  go_wp2_with (go_at_call 10; refine (Sound_name _ _).mono ?_; rintro e w1 ⟨rfl, hb⟩; obtain ⟨hc, hf⟩ := bcell hb; have hz : w.heap.size < w1.heap.size := (by have := hb.size; simp at this; omega); refine Hid.out ?_)
  refine Lib.hid ?_
  have hB0 : BufAt 5 42 #[] (fun k => w1.heap.size ≤ k) w1.heap.size [] (w1.alloc (.cells (#[.slice none 0 0, .int .i64 0, .int .i8 0] ++ #[]) 42)) := BufAt.fresh _ _ _ _ w1 (Nat.le_refl _)
  have HB0 := Lib.hid hB0
  have HB := Lib.hid hb
  clear hB0 hb
  go_wp2_with fail
  refine (write_name (T := 42) (rest := #[]) (ok := fun k => w1.heap.size ≤ k) (bs := []) s _ HB0.out (fun k hk => by simp at hk; omega) (by omega) (by simp; omega)).mono ?_
  rintro e w2 ⟨rfl, h2, f2⟩
  have H2 := Lib.hid h2
  have F2 := Lib.hid f2
  clear h2 f2
  go_wp2_with fail
  refine (bytes_any (T := 42) (rest := #[]) (ok := fun k => w1.heap.size ≤ k) w2 H2.out).mono ?_
  rintro e w3 ⟨A, c, rfl, hlc, hba, hA, hN, n, hw3⟩
  have hne : A ≠ none := fun h => by have := (hN h).1; simp [nameL] at this
  obtain ⟨a, rfl⟩ := Option.ne_none_iff_exists'.1 hne
  obtain ⟨g, rfl, hg1, hg2, hg3⟩ := hA a rfl
  have HW := Lib.hid hw3
  have HBA := Lib.hid hba
  have HLC := Lib.hid hlc
  clear hA hN hne hw3 hba hlc
  go_wp2_with fail
  go_ret2
  have e1 := HB.out.size
  simp at e1
  refine ⟨g, c, rfl, HLC.out, ?_, by omega, ?_, ?_⟩
  · rw [HW.out]; exact HBA.out
  · rw [HW.out]; exact hg3
  · have b1 : Below w.heap.size w w1 := ((Below.refl _ _).alloc (Nat.le_refl _) _).trans (HB.out.mono (by simp))
    have b2 : Below w1.heap.size w1 w2 := ((Below.refl _ _).alloc (Nat.le_refl _) _).trans (F2.out.below (by simp))
    have b3 : Below w.heap.size w w2 := b1.trans (b2.mono b1.size)
    rw [HW.out]
    exact ⟨b3.os, b3.tape, b3.output, b3.size, b3.block⟩

set_option maxHeartbeats 800000 in
set_option maxRecDepth 100000 in
theorem Print_name_no (s : ByteArray) (w : World) (hs : namedB s = false) :
    Calls Tryd.prog 8 #[nameAgg s] w fun e w' => e = .returned (.tuple #[.slice none 0 0, .int .i64 22]) ∧ Below w.heap.size w w' := by
  go_enter Tryd.func8, Tryd.ntmps8
  go_wp2_with (go_at_call 10; refine (Sound_name _ _).mono ?_; rintro e w1 ⟨rfl, hb⟩; refine Hid.out ?_)
  refine Lib.hid ?_
  have HB := Lib.hid hb
  clear hb
  go_wp2_with fail
  go_ret2
  exact ⟨rfl, ((Below.refl _ _).alloc (Nat.le_refl _) _).trans (HB.out.mono (by simp))⟩
end Go.Proofs.YtkcdckcckpgliaaDoor
