/- The methods of bytes.Buffer that pobj, draw and pfile call: contracts over a buffer at the head of a block, with a frame by block numbers. -/
import Derived.Test.YtkcdckcckpgliaaDoorProg
import Derived.Test.YtkcdckcckpgliaaDoorShelf
import Derived.Test.YtkcdckcckpgliaaDoorBufW
import Derived.Deep.RegionWith
import Derived.Deep.QuietTactic
import Derived.BigQuiet
import Derived.BigCall
import Derived.BigGuard
import Derived.WalkKit
import Derived.WalkSpells
import Derived.KernelRfl
import Derived.Lib.Hide
namespace Go.Proofs.YtkcdckcckpgliaaDoor
open Go.RowKit Go.Shelf
variable {T : TypeId} {rest : Array Value} {ok : Nat → Prop} {b : Nat} {bs : List UInt8}

theorem infoU8 : (Tryd.prog.info? 5).map (fun i => (i.zero, i.size, i.bytes)) = some (some (.int .u8 0), 1, 1) := by kernel_rfl
theorem infoU8s : (Tryd.prog.info? 5).map (·.size) = some 1 := by kernel_rfl

/-- tryGrowByReslice, of a buffer and at least one byte: there is room, or nothing is done. -/
theorem tryGrow_any (n : Nat) (hn : 0 < n) (w : World) (h : BufAt 5 T rest ok b bs w) :
    Calls Tryd.prog 47 #[.pointer (some ⟨b, 0, none⟩), .int .i64 n] w fun e w' =>
      (e = .returned (.tuple #[.int .i64 bs.length, .bool true]) ∧ Room 5 T rest ok b bs.length n (Lib.byteCells bs) w' ∧ w.grownBy w' (some b)) ∨
      (e = .returned (.tuple #[.int .i64 0, .bool false]) ∧ w' = w ∧ Lib.NoRoom b n w) := by
  rcases h.2 with ⟨rfl, lr, h1⟩ | ⟨g, cap, cur, lr, h1, h2, h3, h4, h5, h6, h7, h8, h9⟩
  · refine (Tryd.Buffer_tryGrow_none b none 0 0 n w h1.c0 (Nat.le_refl _) (Nat.zero_le _) (by omega)).mono ?_
    rintro e w' ⟨rfl, rfl⟩
    exact Or.inr ⟨rfl, rfl, none, 0, 0, h1.c0, by omega⟩
  · by_cases hr : n ≤ cap - bs.length
    · refine (Tryd.Buffer_tryGrow_room b _ bs.length cap n w h1.c0 (h1.fz 0) h6 h7 hr).mono ?_
      rintro e w' ⟨rfl, rfl⟩
      exact Or.inl ⟨rfl, room_of h1 h2 h3 h4 h7 h8 h9 (by omega), Lib.grownBy_setCell w b 0 _⟩
    · refine (Tryd.Buffer_tryGrow_none b _ bs.length cap n w h1.c0 h6 h7 (by omega)).mono ?_
      rintro e w' ⟨rfl, rfl⟩
      exact Or.inr ⟨rfl, rfl, _, _, _, h1.c0, by omega⟩

set_option maxHeartbeats 1000000 in
set_option maxRecDepth 100000 in
/-- Len. -/
theorem len_any (w : World) (h : BufAt 5 T rest ok b bs w) :
    Calls Tryd.prog 56 #[.pointer (some ⟨b, 0, none⟩)] w fun e w' => e = .returned (.int .i64 bs.length) ∧ ∃ n, w' = w.drewN n := by
  have hl : (bs.length : Int) ≤ 9223372036854775807 := by
    rcases h.2 with ⟨rfl, lr, h1⟩ | ⟨g, cap, cur, lr, h1, h2, h3, h4, h5, h6, h7, h8, h9⟩
    · simp
    · unfold maxLen at h7; omega
  obtain ⟨A, c, lr, h1⟩ : ∃ A c lr, Head T rest b (.slice A bs.length c) lr w := by
    rcases h.2 with ⟨rfl, lr, h1⟩ | ⟨g, cap, cur, lr, h1, _⟩
    · exact ⟨_, _, _, h1⟩
    · exact ⟨_, _, _, h1⟩
  have c0 := h1.c0; have c1 := h1.c1
  go_enter Tryd.func56, Tryd.ntmps56
  go_wp2
  go_quiet (fail)
  go_wp2
  go_ret
  exact ⟨rfl, _, rfl⟩

/-- What grow leaves: the old bytes in a row that is new, with room. -/
def Grew (T : TypeId) (rest : Array Value) (b l n : Nat) (old : List Value) (w w' : World) : Prop :=
  ∃ N cap cells lr, Head T rest b (.slice (some ⟨N, 0, none⟩) (l + n) cap) lr w' ∧ w'.heap[N]? = some (.cells cells 5 (0, 0)) ∧ w.heap.size ≤ N ∧ cells.size = cap ∧ cells.toList.take l = old ∧ l + n ≤ cap ∧ cap ≤ maxLen ∧ w.grownBy w' (some b)

set_option maxHeartbeats 6400000 in
set_option maxRecDepth 100000 in
/-- grow, no row yet, n at most 64. -/
theorem grow_small (n : Nat) (hn : 0 < n) (h64 : n ≤ 64) (lr : Int) (w : World) (h1 : Head T rest b (.slice none 0 0) lr w) :
    Calls Tryd.prog 48 #[.pointer (some ⟨b, 0, none⟩), .int .i64 n] w fun e w' => e = .returned (.int .i64 0) ∧ Grew T rest b 0 n [] w w' := by
  obtain ⟨i0, hi, hz0, hz1, hz2⟩ := info_parts infoU8
  obtain ⟨M, hM⟩ : ∃ M, M = madeCells (Value.int .u8 0).cells ((64 : Int).toNat * i0.size) := ⟨_, rfl⟩
  have hMs : M.size = 64 := by rw [hM, size_madeCells, hz1]; rfl
  have hmk : ∀ W : World, (Instr.makeSlice 24 (.int .i64 (n : Int)) (.int .i64 64)).run Tryd.prog W = .ok (.slice (some ⟨W.heap.size, 0, none⟩) n 64) (W.alloc (.cells M 5)) := fun W => by
    have h := run_makeSlice (P := Tryd.prog) W 24 5 i0 (.int .u8 0) Tryd.underlying24 hi hz0 .i64 .i64 (n : Int) 64 (by omega) (by omega) (by rw [hz1]; decide) (by rw [hz2]; decide) (by decide)
    rw [← hM] at h
    simpa using h
  clear hM
  have hnil : ∀ W, (binOp .eql 24 (.slice none 0 0) (.slice none 0 0)).run Tryd.prog W = .ok (.bool true) W := fun W => Lib.run_eql_slice_nil_nil W _ _ Tryd.underlying24
  have hB : BufAt 5 T rest (fun _ => True) b [] w := ⟨trivial, .inl ⟨rfl, lr, h1⟩⟩
  go_enter Tryd.func48, Tryd.ntmps48
  go_wp2_with (go_at_call 56; refine (len_any _ hB).mono ?_)
  rintro e W0 ⟨rfl, k, hW0⟩
  have hh0 : Head T rest b (.slice none 0 0) lr W0 := by rw [hW0]; exact h1
  have c0 := hh0.c0; have c1 := hh0.c1; have f0 := hh0.fz 0; have f1 := hh0.fz 1; have hbW0 := hh0.lt
  have c0a : ∀ o, (W0.alloc o).cell? ⟨b, 0, none⟩ = some (.slice none 0 0) := fun o => (World.cell?_of_block (a := ⟨b, 0, none⟩) (Below.heap_alloc W0 o b hbW0)).trans c0
  have f0a : ∀ o, (W0.alloc o).frozen? ⟨b, 0, none⟩ = false := fun o => (World.frozen?_of_block (a := ⟨b, 0, none⟩) (Below.heap_alloc W0 o b hbW0)).trans f0
  have HW0 := Lib.hid hW0
  have HH := Lib.hid hh0
  clear hW0 hB hh0
  go_wp2_with (go_at_call 47; refine (Tryd.Buffer_tryGrow_none b _ 0 0 n _ c0 (Nat.le_refl _) (Nat.zero_le _) (by omega)).mono ?_; rintro e w' ⟨rfl, rfl⟩)
  go_ret
  have hsz0 : w'.heap.size = w.heap.size := by rw [HW0.out]; rfl
  have hg0 : w.grownBy w' (some b) := by rw [HW0.out]; exact ⟨rfl, rfl, rfl, Nat.le_refl _, fun _ _ _ => rfl⟩
  have hne : b ≠ w'.heap.size := by omega
  have hh2 : Head T rest b (.slice (some ⟨w'.heap.size, 0, none⟩) n 64) lr ((w'.setCell ⟨b, 0, none⟩ (.slice (some ⟨w'.heap.size, 0, none⟩) n 64)).alloc (.cells M 5)) :=
    (Head.set0 HH.out _).on (Below.heap_alloc _ _ b (by simpa [World.setCell] using hbW0))
  refine ⟨rfl, w'.heap.size, 64, M, lr, by rw [Nat.zero_add]; exact hh2, ?_, by omega, hMs, rfl, by omega, by decide, Lib.grownBy_allocR (Lib.grownBy_setB hg0 0 _) _⟩
  have h3 : (w'.setCell ⟨b, 0, none⟩ (.slice (some ⟨w'.heap.size, 0, none⟩) n 64)).heap.size = w'.heap.size := by simp [World.setCell]
  have h4 := heap_alloc_new (w'.setCell ⟨b, 0, none⟩ (.slice (some ⟨w'.heap.size, 0, none⟩) n 64)) (.cells M 5)
  rw [h3] at h4
  exact h4

set_option maxHeartbeats 12800000 in
set_option maxRecDepth 100000 in
/-- grow, no row yet, n above 64. -/
theorem grow_big (n : Nat) (h64 : 64 < n) (hlim : n ≤ 140737488355328) (lr : Int) (w : World) (h1 : Head T rest b (.slice none 0 0) lr w) :
    Calls Tryd.prog 48 #[.pointer (some ⟨b, 0, none⟩), .int .i64 n] w fun e w' => e = .returned (.int .i64 0) ∧ Grew T rest b 0 n [] w w' := by
  have hnil : ∀ W, (binOp .eql 24 (.slice none 0 0) (.slice none 0 0)).run Tryd.prog W = .ok (.bool true) W := fun W => Lib.run_eql_slice_nil_nil W _ _ Tryd.underlying24
  have hB : BufAt 5 T rest (fun _ => True) b [] w := ⟨trivial, .inl ⟨rfl, lr, h1⟩⟩
  go_enter Tryd.func48, Tryd.ntmps48
  go_wp2_with (go_at_call 56; refine (len_any _ hB).mono ?_)
  rintro e W0 ⟨rfl, k, hW0⟩
  have hh0 : Head T rest b (.slice none 0 0) lr W0 := by rw [hW0]; exact h1
  have c0 := hh0.c0; have c1 := hh0.c1; have f0 := hh0.fz 0; have f1 := hh0.fz 1; have hbW := hh0.lt
  have HW0 := Lib.hid hW0
  have HH := Lib.hid hh0
  clear hW0 hB hh0
  go_wp2_with (go_at_call 47; refine (Tryd.Buffer_tryGrow_none b _ 0 0 n _ c0 (Nat.le_refl _) (Nat.zero_le _) (by omega)).mono ?_; rintro e w' ⟨rfl, rfl⟩)
  have hwn : IntKind.i64.wrap (n : Int) = n := by rw [IntKind.wrap_i64]; omega
  go_region_with (
      go_at_call 58
      refine (Tryd.bytes_growSlice_nil n _ (by omega) hlim).mono ?_
      rintro e w2 ⟨cap2, cells, rfl, hN, hcsz, hcap2, hcm2, hbel⟩
      have hh2 : Head T rest b (.slice none 0 0) lr w2 := Head.on HH.out (hbel.block b hbW)
      have d0 := hh2.c0; have d1 := hh2.c1; have e0 := hh2.fz 0; have e1 := hh2.fz 1)
  all_goals (
    go_wp2
    go_ret
    have hsz0 : w'.heap.size = w.heap.size := by rw [HW0.out]; rfl
    have hg2 : w.grownBy w2 (some b) := Lib.grownBy_below (w := w'.drew) (by rw [HW0.out]; exact ⟨rfl, rfl, rfl, Nat.le_refl _, fun _ _ _ => rfl⟩) hbel
    have hne : w'.heap.size ≠ b := by omega
    exact ⟨rfl, w'.heap.size, cap2, cells, lr, by rw [Nat.zero_add]; exact (((hh2.set0 _).set1).set0 _), by rw [Below.heap_setCell _ _ _ _ hne, Below.heap_setCell _ _ _ _ hne, Below.heap_setCell _ _ _ _ hne]; exact hN, by omega, hcsz, rfl, by omega, hcm2, Lib.grownBy_setB (Lib.grownBy_setB (Lib.grownBy_setB hg2 0 _) 1 _) 0 _⟩)

set_option maxHeartbeats 12800000 in
set_option maxRecDepth 100000 in
/-- grow, of a row without room. -/
theorem grow_row (g l cap n : Nat) (lr : Int) (cur : Array Value) (w : World) (h1 : Head T rest b (.slice (some ⟨g, 0, none⟩) l cap) lr w) (h0 : 0 < l) (hg : w.heap[g]? = some (.cells cur 5 (0, 0))) (hlc : l ≤ cap) (hcm : cap ≤ maxLen) (hcs : cur.size = cap)
    (h1c : ∀ v ∈ cur.toList.take l, v.oneCell' = true) (hn : 1 ≤ n) (hroom : cap - l < n) (hlim : l + n ≤ 140737488355328) (hlen : Calls Tryd.prog 56 #[.pointer (some ⟨b, 0, none⟩)] w fun e w' => e = .returned (.int .i64 l) ∧ ∃ n, w' = w.drewN n) :
    Calls Tryd.prog 48 #[.pointer (some ⟨b, 0, none⟩), .int .i64 n] w fun e w' => e = .returned (.int .i64 l) ∧ Grew T rest b l n (cur.toList.take l) w w' := by
  have hnil : ∀ W, (binOp .eql 24 (.slice (some ⟨g, 0, none⟩) l cap) (.slice none 0 0)).run Tryd.prog W = .ok (.bool false) W := fun W => Lib.run_eql_slice_some_nil W _ _ _ Tryd.underlying24
  have hl0 : ((l : Int) == 0) = false := beq_eq_false_iff_ne.2 (by omega)
  go_enter Tryd.func48, Tryd.ntmps48
  go_wp2_with (go_at_call 56; refine hlen.mono ?_)
  rintro e W0 ⟨rfl, k, hW0⟩
  have hh0 : Head T rest b (.slice (some ⟨g, 0, none⟩) l cap) lr W0 := by rw [hW0]; exact h1
  have hg0 : W0.heap[g]? = some (.cells cur 5 (0, 0)) := by rw [hW0]; exact hg
  have c0 := hh0.c0; have c1 := hh0.c1; have f0 := hh0.fz 0; have f1 := hh0.fz 1; have hbW := hh0.lt
  have HW0 := Lib.hid hW0
  have HH := Lib.hid hh0
  clear hW0 hh0
  have hcm' := hcm
  unfold maxLen at hcm'
  go_wp2_with (go_at_call 47; refine (Tryd.Buffer_tryGrow_none b _ l cap n _ c0 hlc hcm hroom).mono ?_; rintro e w' ⟨rfl, rfl⟩)
  have hc2 : cap ≤ 140737488355328 := by omega
  have hwn : IntKind.i64.wrap (n : Int) = n := by rw [IntKind.wrap_i64]; omega
  go_region_with (
      go_at_call 58
      refine (Tryd.bytes_growSlice_row g l cap n cur _ ?_ hcs hlc hn hlim hc2 h1c).mono ?_
      exact hg0
      rintro e w2 ⟨cap2, cells, rfl, hN, hcsz, htk, hcap2, hcm2, hbel⟩
      have hh2 : Head T rest b (.slice (some ⟨g, 0, none⟩) l cap) lr w2 := Head.on HH.out (hbel.block b hbW)
      have d0 := hh2.c0; have d1 := hh2.c1; have e0 := hh2.fz 0; have e1 := hh2.fz 1)
  all_goals (
    go_wp2
    go_ret
    have hsz0 : w'.heap.size = w.heap.size := by rw [HW0.out]; rfl
    have hg2 : w.grownBy w2 (some b) := Lib.grownBy_below (w := w'.drew) (by rw [HW0.out]; exact ⟨rfl, rfl, rfl, Nat.le_refl _, fun _ _ _ => rfl⟩) hbel
    have hne : w'.heap.size ≠ b := by omega
    exact ⟨rfl, w'.heap.size, cap2, cells, lr, (((hh2.set0 _).set1).set0 _), by rw [Below.heap_setCell _ _ _ _ hne, Below.heap_setCell _ _ _ _ hne, Below.heap_setCell _ _ _ _ hne]; exact hN, by omega, hcsz, htk, by omega, hcm2, Lib.grownBy_setB (Lib.grownBy_setB (Lib.grownBy_setB hg2 0 _) 1 _) 0 _⟩)

/-- grow, of any buffer without room. -/
theorem grow_any (n : Nat) (hn : 0 < n) (w : World) (h : BufAt 5 T rest ok b bs w) (hok : ∀ k, w.heap.size ≤ k → ok k) (hnr : Lib.NoRoom b n w) (hlim : bs.length + n ≤ 140737488355328) :
    Calls Tryd.prog 48 #[.pointer (some ⟨b, 0, none⟩), .int .i64 n] w fun e w' => e = .returned (.int .i64 bs.length) ∧ Room 5 T rest ok b bs.length n (Lib.byteCells bs) w' ∧ w.grownBy w' (some b) := by
  have hfin : ∀ l old w', Grew T rest b l n old w w' → Room 5 T rest ok b l n old w' ∧ w.grownBy w' (some b) := by
    rintro l old w' ⟨N, cap, cells, lr, h1, h2, h3, h4, h5, h6, h7, h8⟩
    exact ⟨⟨N, cap, cells, lr, h1, hok N h3, by have := h.lt; omega, h2, h6, h7, h4, h5⟩, h8⟩
  have hL := len_any w h
  rcases h.2 with ⟨rfl, lr, h1⟩ | ⟨g, cap, cur, lr, h1, h2, h3, h4, h5, h6, h7, h8, h9⟩
  · by_cases h64 : n ≤ 64
    · exact (grow_small n hn h64 lr w h1).mono fun e w' ⟨he, hg⟩ => ⟨he, hfin _ _ _ hg⟩
    · exact (grow_big n (by omega) (by simpa using hlim) lr w h1).mono fun e w' ⟨he, hg⟩ => ⟨he, hfin _ _ _ hg⟩
  · obtain ⟨ao, l, cap0, hc, hlt⟩ := hnr
    rw [h1.c0] at hc
    cases hc
    refine (grow_row g bs.length cap n lr cur w h1 h5 h4 h6 h7 h8 (by rw [h9]; exact Lib.byteCells_one _) hn hlt hlim hL).mono fun e w' ⟨he, hg⟩ => ⟨he, ?_⟩
    rw [h9] at hg
    exact hfin _ _ _ hg
end Go.Proofs.YtkcdckcckpgliaaDoor
