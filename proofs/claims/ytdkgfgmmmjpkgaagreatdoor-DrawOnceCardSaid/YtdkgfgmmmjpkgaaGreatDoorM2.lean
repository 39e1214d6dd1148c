/-
  Lemmas, in their order: Frames over a set of block numbers, and a bytes.Buffer whose struct may be the head of a larger block: what the buffer's writers leave, with · The methods of bytes.Buffer that pobj, draw and pfile call: contracts over a buffer at the head of a block, with a frame by block numbers. · bytes.Buffer's writers and Bytes: contracts over a buffer at the head of a block, with a frame by block numbers. · Write of no bytes; Write of any bytes. · An object of a file as plain data (PO), and how one reads in memory. · What number printing leans on: Fits, Itoa; the reference's Same. · dec.digits, dec.parts, dec.PrintReal, dec.Print as the machine runs them. · The reference's numbers as bytes: udec, Dec, Print, PrintReal. · The reference's numbers with a point as bytes: Print, PrintReal. · What pobj writes for a name and a string: plain lists of bytes.
-/
import Derived.Lib.BufferWrite
import Derived.Lib.BufferOwn
import Derived.WalkKit
import Derived.Test.YtdkgfgmmmjpkgaaGreatDoorProg
import Derived.Deep.RegionWith
import Derived.Deep.QuietTactic
import Derived.BigQuiet
import Derived.BigCall
import Derived.BigGuard
import Derived.WalkSpells
import Derived.KernelRfl
import Derived.Lib.Hide
import Derived.Laws.CopyRow
import Derived.RegionTactic
import Derived.Lib.ItoaLen
import Derived.WalkSmall
import Derived.Laws.IdiomStrings
import Derived.Lib.BufferRead
import Derived.Outline
import Derived.Lib.ItoaNum
import Derived.Lib.Strings
import Derived.Laws.BitsLemmas
import Derived.Deep.LoopGhost
import Derived.Lib.Index
import Derived.Test.YtdkgfgmmmjpkgaaGreatDoorM1

namespace Go.Proofs.YtdkgfgmmmjpkgaaGreatDoor
open Go.RowKit

/-- Nothing that lay in w has turned, but blocks that are 'ok'. -/
structure Fr (ok : Nat → Prop) (w w' : World) : Prop where
  os : w'.os = w.os
  tape : w'.tape = w.tape
  output : w'.output = w.output
  size : w.heap.size ≤ w'.heap.size
  block : ∀ k, k < w.heap.size → ¬ ok k → w'.heap[k]? = w.heap[k]?

theorem Fr.refl (ok : Nat → Prop) (w : World) : Fr ok w w := ⟨rfl, rfl, rfl, Nat.le_refl _, fun _ _ _ => rfl⟩
theorem Fr.trans {ok : Nat → Prop} {a b c : World} (h : Fr ok a b) (k : Fr ok b c) : Fr ok a c :=
  ⟨k.os.trans h.os, k.tape.trans h.tape, k.output.trans h.output, Nat.le_trans h.size k.size, fun i hi ho => (k.block i (Nat.lt_of_lt_of_le hi h.size) ho).trans (h.block i hi ho)⟩
theorem Fr.mono {ok ok' : Nat → Prop} {w w' : World} (h : Fr ok w w') (hok : ∀ k, k < w.heap.size → ok k → ok' k) : Fr ok' w w' :=
  ⟨h.os, h.tape, h.output, h.size, fun k hk ho => h.block k hk (fun h1 => ho (hok k hk h1))⟩
theorem Fr.drew {ok : Nat → Prop} {a w : World} (h : Fr ok a w) : Fr ok a w.drew := ⟨h.os, h.tape, h.output, h.size, h.block⟩
theorem Fr.drewN {ok : Nat → Prop} {a w : World} (h : Fr ok a w) (n : Nat) : Fr ok a (w.drewN n) := ⟨h.os, h.tape, h.output, h.size, h.block⟩
theorem Fr.of_below {w w' : World} (ok : Nat → Prop) (h : Below w.heap.size w w') : Fr ok w w' := ⟨h.os, h.tape, h.output, h.size, fun k hk _ => h.block k hk⟩
theorem Fr.alloc {ok : Nat → Prop} {a w : World} (h : Fr ok a w) (o : Obj) : Fr ok a (w.alloc o) :=
  h.trans (Fr.of_below ok ((Below.refl _ _).alloc (Nat.le_refl _) o))
theorem Fr.setCell {ok : Nat → Prop} {a w : World} (h : Fr ok a w) {p : Addr} (hp : a.heap.size ≤ p.block ∨ ok p.block) (v : Value) : Fr ok a (w.setCell p v) :=
  ⟨h.os, h.tape, h.output, by simpa [World.setCell] using h.size, fun k hk ho => (Below.heap_setCell _ _ _ _ (fun e => by
    rcases hp with hp | hp
    · omega
    · exact ho (e ▸ hp))).trans (h.block k hk ho)⟩
theorem Fr.grown {ok : Nat → Prop} {w w' : World} {b : Nat} (h : w.grownBy w' (some b)) (hb : ok b) : Fr ok w w' :=
  ⟨h.os, h.tape, h.output, h.size, fun k hk ho => h.block k hk (fun e => ho (Option.some.inj e ▸ hb))⟩
theorem Fr.grown0 {ok : Nat → Prop} {w w' : World} {row : Option Nat} (h : w.grownBy w' row) (hb : ∀ b, row = some b → ok b) : Fr ok w w' :=
  ⟨h.os, h.tape, h.output, h.size, fun k hk ho => h.block k hk (fun e => ho (hb k e.symm))⟩
theorem Fr.below {B : Nat} {w w' : World} (h : Fr (fun k => B ≤ k) w w') (hB : B ≤ w.heap.size) : Below B w w' :=
  ⟨h.os, h.tape, h.output, h.size, fun k hk => h.block k (by omega) (by show ¬ B ≤ k; omega)⟩
/-- Where every block of w is closed, all of it stands. -/
theorem Fr.below_all {ok : Nat → Prop} {w w' : World} (h : Fr ok w w') (hn : ∀ k, k < w.heap.size → ¬ ok k) : Below w.heap.size w w' :=
  ⟨h.os, h.tape, h.output, h.size, fun k hk => h.block k hk (hn k hk)⟩
theorem Fr.cell {ok : Nat → Prop} {w w' : World} (h : Fr ok w w') {p : Addr} (hp : p.block < w.heap.size) (ho : ¬ ok p.block) : w'.cell? p = w.cell? p := World.cell?_of_block (w := w) (h.block p.block hp ho)
theorem Fr.frozen {ok : Nat → Prop} {w w' : World} (h : Fr ok w w') {p : Addr} (hp : p.block < w.heap.size) (ho : ¬ ok p.block) : w'.frozen? p = w.frozen? p := World.frozen?_of_block (w := w) (h.block p.block hp ho)
theorem Fr.heap {ok : Nat → Prop} {w w' : World} (h : Fr ok w w') {k : Nat} {o : Obj} (hk : w.heap[k]? = some o) (ho : ¬ ok k) : w'.heap[k]? = some o :=
  (h.block k (Array.getElem?_eq_some_iff.1 hk).1 ho).trans hk

theorem head3_set0 (a b c v : Value) (r : Array Value) : (#[a, b, c] ++ r).setIfInBounds 0 v = #[v, b, c] ++ r := by
  rcases r with ⟨l⟩; simp
theorem head3_set1 (a b c v : Value) (r : Array Value) : (#[a, b, c] ++ r).setIfInBounds 1 v = #[a, v, c] ++ r := by
  rcases r with ⟨l⟩; simp
theorem head3_set2 (a b c v : Value) (r : Array Value) : (#[a, b, c] ++ r).setIfInBounds 2 v = #[a, b, v] ++ r := by
  rcases r with ⟨l⟩; simp
theorem head3_get0 (a b c : Value) (r : Array Value) : (#[a, b, c] ++ r)[0]? = some a := by rcases r with ⟨l⟩; simp
theorem head3_get1 (a b c : Value) (r : Array Value) : (#[a, b, c] ++ r)[1]? = some b := by rcases r with ⟨l⟩; simp
theorem head3_get2 (a b c : Value) (r : Array Value) : (#[a, b, c] ++ r)[2]? = some c := by rcases r with ⟨l⟩; simp
/-- Block b: a buffer's three cells, and what stands behind them. -/
def Head (T : TypeId) (rest : Array Value) (b : Nat) (v : Value) (lr : Int) (w : World) : Prop := w.heap[b]? = some (.cells (#[v, .int .i64 0, .int .i8 lr] ++ rest) T (0, 0))
section
variable {T : TypeId} {rest : Array Value} {b : Nat} {v : Value} {lr : Int} {w w' : World}
theorem Head.c0 (h : Head T rest b v lr w) : w.cell? ⟨b, 0, none⟩ = some v := by rw [Lib.cell_of_heap h, head3_get0]
theorem Head.c1 (h : Head T rest b v lr w) : w.cell? ⟨b, 1, none⟩ = some (.int .i64 0) := by rw [Lib.cell_of_heap h, head3_get1]
theorem Head.c2 (h : Head T rest b v lr w) : w.cell? ⟨b, 2, none⟩ = some (.int .i8 lr) := by rw [Lib.cell_of_heap h, head3_get2]
theorem Head.fz (h : Head T rest b v lr w) (i : Nat) : w.frozen? ⟨b, i, none⟩ = false := Lib.frozen_of_heap h i
theorem Head.lt (h : Head T rest b v lr w) : b < w.heap.size := Lib.lt_of_heap h
theorem Head.set0 (h : Head T rest b v lr w) (u : Value) : Head T rest b u lr (w.setCell ⟨b, 0, none⟩ u) := by
  unfold Head; rw [Lib.heap_setCell_same (i := 0) h u, head3_set0]
theorem Head.set1 (h : Head T rest b v lr w) : Head T rest b v lr (w.setCell ⟨b, 1, none⟩ (.int .i64 0)) := by
  unfold Head; rw [Lib.heap_setCell_same (i := 1) h _, head3_set1]
theorem Head.set2 (h : Head T rest b v lr w) (x : Int) : Head T rest b v x (w.setCell ⟨b, 2, none⟩ (.int .i8 x)) := by
  unfold Head; rw [Lib.heap_setCell_same (i := 2) h _, head3_set2]
theorem Head.on (h : Head T rest b v lr w) (hb : w'.heap[b]? = w.heap[b]?) : Head T rest b v lr w' := hb.trans h
end
/-- A buffer that has only been written: it holds the bytes bs; the blocks that it stands on are ok. -/
def BufAt (e T : TypeId) (rest : Array Value) (ok : Nat → Prop) (b : Nat) (bs : List UInt8) (w : World) : Prop :=
  ok b ∧ ((bs = [] ∧ ∃ lr, Head T rest b (.slice none 0 0) lr w) ∨
    ∃ g cap cur lr, Head T rest b (.slice (some ⟨g, 0, none⟩) bs.length cap) lr w ∧ ok g ∧ g ≠ b ∧ w.heap[g]? = some (.cells cur e (0, 0)) ∧ 0 < bs.length ∧ bs.length ≤ cap ∧ cap ≤ maxLen ∧ cur.size = cap ∧ cur.toList.take bs.length = Lib.byteCells bs)
/-- Behind tryGrowByReslice or grow: there is room for n bytes behind the l that are held. -/
def Room (e T : TypeId) (rest : Array Value) (ok : Nat → Prop) (b l n : Nat) (old : List Value) (w : World) : Prop :=
  ∃ g cap cur lr, Head T rest b (.slice (some ⟨g, 0, none⟩) (l + n) cap) lr w ∧ ok g ∧ g ≠ b ∧ w.heap[g]? = some (.cells cur e (0, 0)) ∧ l + n ≤ cap ∧ cap ≤ maxLen ∧ cur.size = cap ∧ cur.toList.take l = old
section
variable {e T : TypeId} {rest : Array Value} {ok ok' : Nat → Prop} {b : Nat} {bs : List UInt8} {w w' : World}
theorem BufAt.fresh (e T : TypeId) (rest : Array Value) (ok : Nat → Prop) (w : World) (h : ok w.heap.size) : BufAt e T rest ok w.heap.size [] (w.alloc (.cells (#[.slice none 0 0, .int .i64 0, .int .i8 0] ++ rest) T)) :=
  ⟨h, .inl ⟨rfl, 0, heap_alloc_new w _⟩⟩
theorem BufAt.ok_ (h : BufAt e T rest ok b bs w) : ok b := h.1
theorem BufAt.lt (h : BufAt e T rest ok b bs w) : b < w.heap.size := by
  rcases h.2 with ⟨_, lr, h⟩ | ⟨_, _, _, lr, h, _⟩
  · exact h.lt
  · exact h.lt
/-- The set of blocks may be made smaller, if only numbers are left out that were not there yet when the buffer was known; or larger. -/
theorem BufAt.imp (h : BufAt e T rest ok b bs w) (hok : ∀ k, k < w.heap.size → ok k → ok' k) : BufAt e T rest ok' b bs w := by
  refine ⟨hok b h.lt h.1, ?_⟩
  rcases h.2 with h | ⟨g, cap, cur, lr, h1, h2, h3, h4, r⟩
  · exact .inl h
  · exact .inr ⟨g, cap, cur, lr, h1, hok g (Lib.lt_of_heap h4) h2, h3, h4, r⟩
theorem BufAt.move (h : BufAt e T rest ok b bs w) (hm : ∀ k, k < w.heap.size → ok k → w'.heap[k]? = w.heap[k]?) : BufAt e T rest ok b bs w' := by
  have hb := h.lt
  refine ⟨h.1, ?_⟩
  rcases h.2 with ⟨h0, lr, h1⟩ | ⟨g, cap, cur, lr, h1, h2, h3, h4, r⟩
  · exact .inl ⟨h0, lr, h1.on (hm b hb h.1)⟩
  · exact .inr ⟨g, cap, cur, lr, h1.on (hm b hb h.1), h2, h3, (hm g (Lib.lt_of_heap h4) h2).trans h4, r⟩
theorem BufAt.below (h : BufAt e T rest ok b bs w) (hb : Below w.heap.size w w') : BufAt e T rest ok b bs w' := h.move fun k hk _ => hb.block k hk
theorem BufAt.alloc (h : BufAt e T rest ok b bs w) (o : Obj) : BufAt e T rest ok b bs (w.alloc o) := h.below ((Below.refl _ _).alloc (Nat.le_refl _) o)
theorem BufAt.drew (h : BufAt e T rest ok b bs w) : BufAt e T rest ok b bs w.drew := h
theorem BufAt.drewN (h : BufAt e T rest ok b bs w) (n : Nat) : BufAt e T rest ok b bs (w.drewN n) := h
theorem BufAt.setCell (h : BufAt e T rest ok b bs w) {p : Addr} (hp : ¬ ok p.block) (v : Value) : BufAt e T rest ok b bs (w.setCell p v) :=
  h.move fun _ _ ho => Below.heap_setCell _ _ _ _ (fun e1 => hp (e1 ▸ ho))
/-- 'b.lastRead = opInvalid'. -/
theorem BufAt.setLast (h : BufAt e T rest ok b bs w) (x : Int) : BufAt e T rest ok b bs (w.setCell ⟨b, 2, none⟩ (.int .i8 x)) := by
  refine ⟨h.1, ?_⟩
  rcases h.2 with ⟨h0, lr, h1⟩ | ⟨g, cap, cur, lr, h1, h2, h3, h4, r⟩
  · exact .inl ⟨h0, x, h1.set2 x⟩
  · exact .inr ⟨g, cap, cur, x, h1.set2 x, h2, h3, by rw [Below.heap_setCell _ _ _ _ h3]; exact h4, r⟩
/-- 'b.buf = b.buf[:l+n]' within the capacity. -/
theorem room_of {g cap n : Nat} {cur : Array Value} {lr : Int} (h1 : Head T rest b (.slice (some ⟨g, 0, none⟩) bs.length cap) lr w) (h2 : ok g) (h3 : g ≠ b) (h4 : w.heap[g]? = some (.cells cur e (0, 0))) (hc : cap ≤ maxLen) (hs : cur.size = cap) (ht : cur.toList.take bs.length = Lib.byteCells bs) (hn : bs.length + n ≤ cap) :
    Room e T rest ok b bs.length n (Lib.byteCells bs) (w.setCell ⟨b, 0, none⟩ (.slice (some ⟨g, 0, none⟩) (bs.length + n) cap)) :=
  ⟨g, cap, cur, lr, h1.set0 _, h2, h3, by rw [Below.heap_setCell _ _ _ _ h3]; exact h4, hn, hc, hs, ht⟩
/-- The last cells are written. -/
theorem Room.written {g cap n : Nat} {cur : Array Value} {lr : Int} {s : List UInt8} (hb : ok b) (h1 : Head T rest b (.slice (some ⟨g, 0, none⟩) (bs.length + n) cap) lr w) (h2 : ok g) (h3 : g ≠ b) (h4 : w.heap[g]? = some (.cells cur e (0, 0))) (hn : bs.length + n ≤ cap) (hc : cap ≤ maxLen) (hs : cur.size = cap)
    (ht : cur.toList.take bs.length = Lib.byteCells bs) (hl : s.length = n) (hn0 : 0 < n) :
    BufAt e T rest ok b (bs ++ s) (w.setRow g (cur.toList.take bs.length ++ Lib.byteCells s ++ cur.toList.drop (bs.length + n)).toArray) := by
  have hlb : (Lib.byteCells bs).length = bs.length := Lib.byteCells_length _
  have hls : (Lib.byteCells s).length = n := by rw [Lib.byteCells_length, hl]
  refine ⟨hb, .inr ⟨g, cap, (cur.toList.take bs.length ++ Lib.byteCells s ++ cur.toList.drop (bs.length + n)).toArray, lr, ?_, h2, h3, setRow_heap w g cur _ e (0, 0) h4, ?_, ?_, hc, ?_, ?_⟩⟩
  · rw [List.length_append, hl]
    exact h1.on (setRow_other _ _ _ _ (Ne.symm h3))
  · rw [List.length_append, hl]; omega
  · rw [List.length_append, hl]; omega
  · have hcl : cur.toList.length = cur.size := Array.length_toList
    rw [List.size_toArray, ht, List.length_append, List.length_append, hlb, hls, List.length_drop, hcl]; omega
  · rw [List.length_append, hl, List.toList_toArray, ht, List.take_append_of_le_length (by rw [List.length_append, hlb, hls]; exact Nat.le_refl _), List.take_of_length_le (by rw [List.length_append, hlb, hls]; exact Nat.le_refl _), Lib.byteCells_append]
theorem Room.poked {g cap : Nat} {cur : Array Value} {lr : Int} (c : UInt8) (hb : ok b) (h1 : Head T rest b (.slice (some ⟨g, 0, none⟩) (bs.length + 1) cap) lr w) (h2 : ok g) (h3 : g ≠ b) (h4 : w.heap[g]? = some (.cells cur e (0, 0))) (hn : bs.length + 1 ≤ cap) (hc : cap ≤ maxLen) (hs : cur.size = cap)
    (ht : cur.toList.take bs.length = Lib.byteCells bs) :
    BufAt e T rest ok b (bs ++ [c]) (w.setCell ⟨g, bs.length, none⟩ (.int .u8 c.toNat)) := by
  have hcl : cur.toList.length = cur.size := Array.length_toList
  have hll : bs.length < cur.toList.length := by omega
  refine ⟨hb, .inr ⟨g, cap, cur.setIfInBounds bs.length (.int .u8 c.toNat), lr, ?_, h2, h3, Lib.heap_setCell_same h4 _, ?_, ?_, hc, ?_, ?_⟩⟩
  · rw [List.length_append, List.length_singleton]
    exact h1.on (Below.heap_setCell _ _ _ _ (Ne.symm h3))
  · simp
  · simpa using hn
  · simpa using hs
  · rw [List.length_append, List.length_singleton, Array.toList_setIfInBounds, List.take_add_one, List.take_set_of_le (Nat.le_refl _), List.getElem?_set_self hll, ht, Lib.byteCells_append]; rfl
theorem grownBy_setRow (w : World) (g : Nat) (r : Array Value) : w.grownBy (w.setRow g r) (some g) := ⟨rfl, rfl, rfl, by simp, fun k _ hk => setRow_other _ _ _ _ (fun e1 => hk (by rw [e1]))⟩
end
end Go.Proofs.YtdkgfgmmmjpkgaaGreatDoor

namespace Go.Proofs.YtdkgfgmmmjpkgaaGreatDoor
open Go.RowKit Go.Shelf
variable {T : TypeId} {rest : Array Value} {ok : Nat → Prop} {b : Nat} {bs : List UInt8}

theorem infoU8 : (Tryz.prog.info? 5).map (fun i => (i.zero, i.size, i.bytes)) = some (some (.int .u8 0), 1, 1) := by kernel_rfl
theorem infoU8s : (Tryz.prog.info? 5).map (·.size) = some 1 := by kernel_rfl

/-- tryGrowByReslice, of a buffer and at least one byte: there is room, or nothing is done. -/
theorem tryGrow_any (n : Nat) (hn : 0 < n) (w : World) (h : BufAt 5 T rest ok b bs w) :
    Calls Tryz.prog 85 #[.pointer (some ⟨b, 0, none⟩), .int .i64 n] w fun e w' =>
      (e = .returned (.tuple #[.int .i64 bs.length, .bool true]) ∧ Room 5 T rest ok b bs.length n (Lib.byteCells bs) w' ∧ w.grownBy w' (some b)) ∨
      (e = .returned (.tuple #[.int .i64 0, .bool false]) ∧ w' = w ∧ Lib.NoRoom b n w) := by
  rcases h.2 with ⟨rfl, lr, h1⟩ | ⟨g, cap, cur, lr, h1, h2, h3, h4, h5, h6, h7, h8, h9⟩
  · refine (Tryz.Buffer_tryGrow_none b none 0 0 n w h1.c0 (Nat.le_refl _) (Nat.zero_le _) (by omega)).mono ?_
    rintro e w' ⟨rfl, rfl⟩
    exact Or.inr ⟨rfl, rfl, none, 0, 0, h1.c0, by omega⟩
  · by_cases hr : n ≤ cap - bs.length
    · refine (Tryz.Buffer_tryGrow_room b _ bs.length cap n w h1.c0 (h1.fz 0) h6 h7 hr).mono ?_
      rintro e w' ⟨rfl, rfl⟩
      exact Or.inl ⟨rfl, room_of h1 h2 h3 h4 h7 h8 h9 (by omega), Lib.grownBy_setCell w b 0 _⟩
    · refine (Tryz.Buffer_tryGrow_none b _ bs.length cap n w h1.c0 h6 h7 (by omega)).mono ?_
      rintro e w' ⟨rfl, rfl⟩
      exact Or.inr ⟨rfl, rfl, _, _, _, h1.c0, by omega⟩

set_option maxHeartbeats 1000000 in
set_option maxRecDepth 100000 in
/-- Len. -/
theorem len_any (w : World) (h : BufAt 5 T rest ok b bs w) :
    Calls Tryz.prog 20 #[.pointer (some ⟨b, 0, none⟩)] w fun e w' => e = .returned (.int .i64 bs.length) ∧ ∃ n, w' = w.drewN n := by
  have hl : (bs.length : Int) ≤ 9223372036854775807 := by
    rcases h.2 with ⟨rfl, lr, h1⟩ | ⟨g, cap, cur, lr, h1, h2, h3, h4, h5, h6, h7, h8, h9⟩
    · simp
    · unfold maxLen at h7; omega
  obtain ⟨A, c, lr, h1⟩ : ∃ A c lr, Head T rest b (.slice A bs.length c) lr w := by
    rcases h.2 with ⟨rfl, lr, h1⟩ | ⟨g, cap, cur, lr, h1, _⟩
    · exact ⟨_, _, _, h1⟩
    · exact ⟨_, _, _, h1⟩
  have c0 := h1.c0; have c1 := h1.c1
  go_enter Tryz.func20, Tryz.ntmps20
  go_wp2
  go_quiet (fail)
  go_wp2
  go_ret
  exact ⟨rfl, _, rfl⟩

/-- What grow leaves: the old bytes in a row that is new, with room. -/
def Grew (T : TypeId) (rest : Array Value) (b l n : Nat) (old : List Value) (w w' : World) : Prop :=
  ∃ N cap cells lr, Head T rest b (.slice (some ⟨N, 0, none⟩) (l + n) cap) lr w' ∧ w'.heap[N]? = some (.cells cells 5 (0, 0)) ∧ w.heap.size ≤ N ∧ cells.size = cap ∧ cells.toList.take l = old ∧ l + n ≤ cap ∧ cap ≤ maxLen ∧ w.grownBy w' (some b)

set_option maxHeartbeats 6400000 in
set_option maxRecDepth 100000 in
/-- grow, no row yet, n at most 64. -/
theorem grow_small (n : Nat) (hn : 0 < n) (h64 : n ≤ 64) (lr : Int) (w : World) (h1 : Head T rest b (.slice none 0 0) lr w) :
    Calls Tryz.prog 86 #[.pointer (some ⟨b, 0, none⟩), .int .i64 n] w fun e w' => e = .returned (.int .i64 0) ∧ Grew T rest b 0 n [] w w' := by
  obtain ⟨i0, hi, hz0, hz1, hz2⟩ := info_parts infoU8
  obtain ⟨M, hM⟩ : ∃ M, M = madeCells (Value.int .u8 0).cells ((64 : Int).toNat * i0.size) := ⟨_, rfl⟩
  have hMs : M.size = 64 := by rw [hM, size_madeCells, hz1]; rfl
  have hmk : ∀ W : World, (Instr.makeSlice 27 (.int .i64 (n : Int)) (.int .i64 64)).run Tryz.prog W = .ok (.slice (some ⟨W.heap.size, 0, none⟩) n 64) (W.alloc (.cells M 5)) := fun W => by
    have h := run_makeSlice (P := Tryz.prog) W 27 5 i0 (.int .u8 0) Tryz.underlying27 hi hz0 .i64 .i64 (n : Int) 64 (by omega) (by omega) (by rw [hz1]; decide) (by rw [hz2]; decide) (by decide)
    rw [← hM] at h
    simpa using h
  clear hM
  have hnil : ∀ W, (binOp .eql 27 (.slice none 0 0) (.slice none 0 0)).run Tryz.prog W = .ok (.bool true) W := fun W => Lib.run_eql_slice_nil_nil W _ _ Tryz.underlying27
  have hB : BufAt 5 T rest (fun _ => True) b [] w := ⟨trivial, .inl ⟨rfl, lr, h1⟩⟩
  go_enter Tryz.func86, Tryz.ntmps86
  go_wp2_with (go_at_call 20; refine (len_any _ hB).mono ?_)
  rintro e W0 ⟨rfl, k, hW0⟩
  have hh0 : Head T rest b (.slice none 0 0) lr W0 := by rw [hW0]; exact h1
  have c0 := hh0.c0; have c1 := hh0.c1; have f0 := hh0.fz 0; have f1 := hh0.fz 1; have hbW0 := hh0.lt
  have c0a : ∀ o, (W0.alloc o).cell? ⟨b, 0, none⟩ = some (.slice none 0 0) := fun o => (World.cell?_of_block (a := ⟨b, 0, none⟩) (Below.heap_alloc W0 o b hbW0)).trans c0
  have f0a : ∀ o, (W0.alloc o).frozen? ⟨b, 0, none⟩ = false := fun o => (World.frozen?_of_block (a := ⟨b, 0, none⟩) (Below.heap_alloc W0 o b hbW0)).trans f0
  have HW0 := Lib.hid hW0
  have HH := Lib.hid hh0
  clear hW0 hB hh0
  go_wp2_with (go_at_call 85; refine (Tryz.Buffer_tryGrow_none b _ 0 0 n _ c0 (Nat.le_refl _) (Nat.zero_le _) (by omega)).mono ?_; rintro e w' ⟨rfl, rfl⟩)
  go_ret
  have hsz0 : w'.heap.size = w.heap.size := by rw [HW0.out]; rfl
  have hg0 : w.grownBy w' (some b) := by rw [HW0.out]; exact ⟨rfl, rfl, rfl, Nat.le_refl _, fun _ _ _ => rfl⟩
  have hne : b ≠ w'.heap.size := by omega
  have hh2 : Head T rest b (.slice (some ⟨w'.heap.size, 0, none⟩) n 64) lr ((w'.setCell ⟨b, 0, none⟩ (.slice (some ⟨w'.heap.size, 0, none⟩) n 64)).alloc (.cells M 5)) :=
    (Head.set0 HH.out _).on (Below.heap_alloc _ _ b (by simpa [World.setCell] using hbW0))
  refine ⟨rfl, w'.heap.size, 64, M, lr, by rw [Nat.zero_add]; exact hh2, ?_, by omega, hMs, rfl, by omega, by decide, Lib.grownBy_allocR (Lib.grownBy_setB hg0 0 _) _⟩
  have h3 : (w'.setCell ⟨b, 0, none⟩ (.slice (some ⟨w'.heap.size, 0, none⟩) n 64)).heap.size = w'.heap.size := by simp [World.setCell]
  have h4 := heap_alloc_new (w'.setCell ⟨b, 0, none⟩ (.slice (some ⟨w'.heap.size, 0, none⟩) n 64)) (.cells M 5)
  rw [h3] at h4
  exact h4

set_option maxHeartbeats 12800000 in
set_option maxRecDepth 100000 in
/-- grow, no row yet, n above 64. -/
theorem grow_big (n : Nat) (h64 : 64 < n) (hlim : n ≤ 140737488355328) (lr : Int) (w : World) (h1 : Head T rest b (.slice none 0 0) lr w) :
    Calls Tryz.prog 86 #[.pointer (some ⟨b, 0, none⟩), .int .i64 n] w fun e w' => e = .returned (.int .i64 0) ∧ Grew T rest b 0 n [] w w' := by
  have hnil : ∀ W, (binOp .eql 27 (.slice none 0 0) (.slice none 0 0)).run Tryz.prog W = .ok (.bool true) W := fun W => Lib.run_eql_slice_nil_nil W _ _ Tryz.underlying27
  have hB : BufAt 5 T rest (fun _ => True) b [] w := ⟨trivial, .inl ⟨rfl, lr, h1⟩⟩
  go_enter Tryz.func86, Tryz.ntmps86
  go_wp2_with (go_at_call 20; refine (len_any _ hB).mono ?_)
  rintro e W0 ⟨rfl, k, hW0⟩
  have hh0 : Head T rest b (.slice none 0 0) lr W0 := by rw [hW0]; exact h1
  have c0 := hh0.c0; have c1 := hh0.c1; have f0 := hh0.fz 0; have f1 := hh0.fz 1; have hbW := hh0.lt
  have HW0 := Lib.hid hW0
  have HH := Lib.hid hh0
  clear hW0 hB hh0
  go_wp2_with (go_at_call 85; refine (Tryz.Buffer_tryGrow_none b _ 0 0 n _ c0 (Nat.le_refl _) (Nat.zero_le _) (by omega)).mono ?_; rintro e w' ⟨rfl, rfl⟩)
  have hwn : IntKind.i64.wrap (n : Int) = n := by rw [IntKind.wrap_i64]; omega
  go_region_with (
      go_at_call 124
      refine (Tryz.bytes_growSlice_nil n _ (by omega) hlim).mono ?_
      rintro e w2 ⟨cap2, cells, rfl, hN, hcsz, hcap2, hcm2, hbel⟩
      have hh2 : Head T rest b (.slice none 0 0) lr w2 := Head.on HH.out (hbel.block b hbW)
      have d0 := hh2.c0; have d1 := hh2.c1; have e0 := hh2.fz 0; have e1 := hh2.fz 1)
  all_goals (
    go_wp2
    go_ret
    have hsz0 : w'.heap.size = w.heap.size := by rw [HW0.out]; rfl
    have hg2 : w.grownBy w2 (some b) := Lib.grownBy_below (w := w'.drew) (by rw [HW0.out]; exact ⟨rfl, rfl, rfl, Nat.le_refl _, fun _ _ _ => rfl⟩) hbel
    have hne : w'.heap.size ≠ b := by omega
    exact ⟨rfl, w'.heap.size, cap2, cells, lr, by rw [Nat.zero_add]; exact (((hh2.set0 _).set1).set0 _), by rw [Below.heap_setCell _ _ _ _ hne, Below.heap_setCell _ _ _ _ hne, Below.heap_setCell _ _ _ _ hne]; exact hN, by omega, hcsz, rfl, by omega, hcm2, Lib.grownBy_setB (Lib.grownBy_setB (Lib.grownBy_setB hg2 0 _) 1 _) 0 _⟩)

set_option maxHeartbeats 12800000 in
set_option maxRecDepth 100000 in
/-- grow, of a row without room. -/
theorem grow_row (g l cap n : Nat) (lr : Int) (cur : Array Value) (w : World) (h1 : Head T rest b (.slice (some ⟨g, 0, none⟩) l cap) lr w) (h0 : 0 < l) (hg : w.heap[g]? = some (.cells cur 5 (0, 0))) (hlc : l ≤ cap) (hcm : cap ≤ maxLen) (hcs : cur.size = cap)
    (h1c : ∀ v ∈ cur.toList.take l, v.oneCell' = true) (hn : 1 ≤ n) (hroom : cap - l < n) (hlim : l + n ≤ 140737488355328) (hlen : Calls Tryz.prog 20 #[.pointer (some ⟨b, 0, none⟩)] w fun e w' => e = .returned (.int .i64 l) ∧ ∃ n, w' = w.drewN n) :
    Calls Tryz.prog 86 #[.pointer (some ⟨b, 0, none⟩), .int .i64 n] w fun e w' => e = .returned (.int .i64 l) ∧ Grew T rest b l n (cur.toList.take l) w w' := by
  have hnil : ∀ W, (binOp .eql 27 (.slice (some ⟨g, 0, none⟩) l cap) (.slice none 0 0)).run Tryz.prog W = .ok (.bool false) W := fun W => Lib.run_eql_slice_some_nil W _ _ _ Tryz.underlying27
  have hl0 : ((l : Int) == 0) = false := beq_eq_false_iff_ne.2 (by omega)
  go_enter Tryz.func86, Tryz.ntmps86
  go_wp2_with (go_at_call 20; refine hlen.mono ?_)
  rintro e W0 ⟨rfl, k, hW0⟩
  have hh0 : Head T rest b (.slice (some ⟨g, 0, none⟩) l cap) lr W0 := by rw [hW0]; exact h1
  have hg0 : W0.heap[g]? = some (.cells cur 5 (0, 0)) := by rw [hW0]; exact hg
  have c0 := hh0.c0; have c1 := hh0.c1; have f0 := hh0.fz 0; have f1 := hh0.fz 1; have hbW := hh0.lt
  have HW0 := Lib.hid hW0
  have HH := Lib.hid hh0
  clear hW0 hh0
  have hcm' := hcm
  unfold maxLen at hcm'
  go_wp2_with (go_at_call 85; refine (Tryz.Buffer_tryGrow_none b _ l cap n _ c0 hlc hcm hroom).mono ?_; rintro e w' ⟨rfl, rfl⟩)
  have hc2 : cap ≤ 140737488355328 := by omega
  have hwn : IntKind.i64.wrap (n : Int) = n := by rw [IntKind.wrap_i64]; omega
  go_region_with (
      go_at_call 124
      refine (Tryz.bytes_growSlice_row g l cap n cur _ ?_ hcs hlc hn hlim hc2 h1c).mono ?_
      exact hg0
      rintro e w2 ⟨cap2, cells, rfl, hN, hcsz, htk, hcap2, hcm2, hbel⟩
      have hh2 : Head T rest b (.slice (some ⟨g, 0, none⟩) l cap) lr w2 := Head.on HH.out (hbel.block b hbW)
      have d0 := hh2.c0; have d1 := hh2.c1; have e0 := hh2.fz 0; have e1 := hh2.fz 1)
  all_goals (
    go_wp2
    go_ret
    have hsz0 : w'.heap.size = w.heap.size := by rw [HW0.out]; rfl
    have hg2 : w.grownBy w2 (some b) := Lib.grownBy_below (w := w'.drew) (by rw [HW0.out]; exact ⟨rfl, rfl, rfl, Nat.le_refl _, fun _ _ _ => rfl⟩) hbel
    have hne : w'.heap.size ≠ b := by omega
    exact ⟨rfl, w'.heap.size, cap2, cells, lr, (((hh2.set0 _).set1).set0 _), by rw [Below.heap_setCell _ _ _ _ hne, Below.heap_setCell _ _ _ _ hne, Below.heap_setCell _ _ _ _ hne]; exact hN, by omega, hcsz, htk, by omega, hcm2, Lib.grownBy_setB (Lib.grownBy_setB (Lib.grownBy_setB hg2 0 _) 1 _) 0 _⟩)

/-- grow, of any buffer without room. -/
theorem grow_any (n : Nat) (hn : 0 < n) (w : World) (h : BufAt 5 T rest ok b bs w) (hok : ∀ k, w.heap.size ≤ k → ok k) (hnr : Lib.NoRoom b n w) (hlim : bs.length + n ≤ 140737488355328) :
    Calls Tryz.prog 86 #[.pointer (some ⟨b, 0, none⟩), .int .i64 n] w fun e w' => e = .returned (.int .i64 bs.length) ∧ Room 5 T rest ok b bs.length n (Lib.byteCells bs) w' ∧ w.grownBy w' (some b) := by
  have hfin : ∀ l old w', Grew T rest b l n old w w' → Room 5 T rest ok b l n old w' ∧ w.grownBy w' (some b) := by
    rintro l old w' ⟨N, cap, cells, lr, h1, h2, h3, h4, h5, h6, h7, h8⟩
    exact ⟨⟨N, cap, cells, lr, h1, hok N h3, by have := h.lt; omega, h2, h6, h7, h4, h5⟩, h8⟩
  have hL := len_any w h
  rcases h.2 with ⟨rfl, lr, h1⟩ | ⟨g, cap, cur, lr, h1, h2, h3, h4, h5, h6, h7, h8, h9⟩
  · by_cases h64 : n ≤ 64
    · exact (grow_small n hn h64 lr w h1).mono fun e w' ⟨he, hg⟩ => ⟨he, hfin _ _ _ hg⟩
    · exact (grow_big n (by omega) (by simpa using hlim) lr w h1).mono fun e w' ⟨he, hg⟩ => ⟨he, hfin _ _ _ hg⟩
  · obtain ⟨ao, l, cap0, hc, hlt⟩ := hnr
    rw [h1.c0] at hc
    cases hc
    refine (grow_row g bs.length cap n lr cur w h1 h5 h4 h6 h7 h8 (by rw [h9]; exact Lib.byteCells_one _) hn hlt hlim hL).mono fun e w' ⟨he, hg⟩ => ⟨he, ?_⟩
    rw [h9] at hg
    exact hfin _ _ _ hg
end Go.Proofs.YtdkgfgmmmjpkgaaGreatDoor

namespace Go.Proofs.YtdkgfgmmmjpkgaaGreatDoor
open Go.RowKit Go.Shelf
variable {T : TypeId} {rest : Array Value} {ok : Nat → Prop} {b : Nat} {bs : List UInt8}

set_option maxHeartbeats 3200000 in
set_option maxRecDepth 100000 in
theorem writeByte_any (c : UInt8) (w : World) (h : BufAt 5 T rest ok b bs w) (hok : ∀ k, w.heap.size ≤ k → ok k) (hlim : bs.length + 1 ≤ 140737488355328) :
    Calls Tryz.prog 118 #[.pointer (some ⟨b, 0, none⟩), .int .u8 c.toNat] w fun e w' => e = .returned .nilIface ∧ BufAt 5 T rest ok b (bs ++ [c]) w' ∧ Fr ok w w' := by
  obtain ⟨A, cc, lr, h1⟩ : ∃ A c lr, Head T rest b (.slice A bs.length c) lr w := by
    rcases h.2 with ⟨rfl, lr, h1⟩ | ⟨g, cap, cur, lr, h1, _⟩
    · exact ⟨_, _, _, h1⟩
    · exact ⟨_, _, _, h1⟩
  have c2 := h1.c2; have f2 := h1.fz 2
  have h' := h.setLast 0
  have hsz : (w.setCell ⟨b, 2, none⟩ (.int .i8 0)).heap.size = w.heap.size := by simp [World.setCell]
  have hok' : ∀ k, (w.setCell ⟨b, 2, none⟩ (.int .i8 0)).heap.size ≤ k → ok k := fun k hk => hok k (by omega)
  have hf0 : Fr ok w (w.setCell ⟨b, 2, none⟩ (.int .i8 0)) := (Fr.refl ok w).setCell (.inr h.1) _
  have hT : ∀ W, BufAt 5 T rest ok b bs W → Calls Tryz.prog 85 #[.pointer (some ⟨b, 0, none⟩), .int .i64 1] W _ := fun W hW => tryGrow_any 1 (by decide) W hW
  have hG : ∀ W, BufAt 5 T rest ok b bs W → (∀ k, W.heap.size ≤ k → ok k) → Lib.NoRoom b 1 W → Calls Tryz.prog 86 #[.pointer (some ⟨b, 0, none⟩), .int .i64 1] W _ := fun W hW hk hn => grow_any 1 (by decide) W hW hk hn hlim
  clear h1
  go_enter Tryz.func118, Tryz.ntmps118
  go_wp2_with (go_at_call 85; refine (hT _ ?_).mono ?_)
  · exact h'
  rintro e W1 (⟨rfl, ⟨g, cap, cur, lr, q1, q2, q3, q4, q5, q6, q7, q8⟩, hgr⟩ | ⟨rfl, rfl, hnr⟩)
  · clear hT hG c2 f2
    have d0 := q1.c0
    have hlt : bs.length < cur.size := by omega
    have dg : W1.cell? ⟨g, bs.length, none⟩ = some cur[bs.length] := by rw [Lib.cell_of_heap q4, Array.getElem?_eq_getElem hlt]
    have fg : W1.frozen? ⟨g, bs.length, none⟩ = false := Lib.frozen_of_heap q4 _
    have q6' := q6
    unfold maxLen at q6'
    have hend := Room.poked c h.1 q1 q2 q3 q4 q5 q6 q7 q8
    have hfr : Fr ok w (W1.setCell ⟨g, bs.length, none⟩ (.int .u8 c.toNat)) := (hf0.trans (Fr.grown hgr h.1)).setCell (.inr q2) _
    clear q1 q4 q7 q8 hgr h' hok' hf0
    have HE := Lib.hid hend
    have HF := Lib.hid hfr
    clear hend hfr
    go_wp2
    go_ret
    exact ⟨rfl, HE.out, HF.out⟩
  · go_wp2_with (go_at_call 86; refine (hG _ ?_ ?_ ?_).mono ?_)
    · exact h'
    · exact hok'
    · exact hnr
    rintro e W1 ⟨rfl, ⟨g, cap, cur, lr, q1, q2, q3, q4, q5, q6, q7, q8⟩, hgr⟩
    clear hT hG c2 f2 hnr
    have d0 := q1.c0
    have hlt : bs.length < cur.size := by omega
    have dg : W1.cell? ⟨g, bs.length, none⟩ = some cur[bs.length] := by rw [Lib.cell_of_heap q4, Array.getElem?_eq_getElem hlt]
    have fg : W1.frozen? ⟨g, bs.length, none⟩ = false := Lib.frozen_of_heap q4 _
    have q6' := q6
    unfold maxLen at q6'
    have hend := Room.poked c h.1 q1 q2 q3 q4 q5 q6 q7 q8
    have hfr : Fr ok w (W1.setCell ⟨g, bs.length, none⟩ (.int .u8 c.toNat)) := (hf0.trans (Fr.grown hgr h.1)).setCell (.inr q2) _
    clear q1 q4 q7 q8 hgr h' hok' hf0
    have HE := Lib.hid hend
    have HF := Lib.hid hfr
    clear hend hfr
    go_wp2
    go_ret
    exact ⟨rfl, HE.out, HF.out⟩

theorem size_data (s : ByteArray) : s.data.toList.length = s.size := by rw [Array.length_toList]; rfl

set_option maxHeartbeats 3200000 in
set_option maxRecDepth 100000 in
theorem writeString_any (s : ByteArray) (w : World) (h : BufAt 5 T rest ok b bs w) (hok : ∀ k, w.heap.size ≤ k → ok k) (hlim : bs.length + s.size ≤ 140737488355328) :
    Calls Tryz.prog 48 #[.pointer (some ⟨b, 0, none⟩), .string s] w fun e w' => e = .returned (.tuple #[.int .i64 s.size, .nilIface]) ∧ BufAt 5 T rest ok b (bs ++ s.data.toList) w' ∧ Fr ok w w' := by
  obtain ⟨A, cc, lr, h1, hA⟩ : ∃ A c lr, Head T rest b (.slice A bs.length c) lr w ∧ bs.length ≤ c ∧ c ≤ maxLen := by
    rcases h.2 with ⟨rfl, lr, h1⟩ | ⟨g, cap, cur, lr, h1, -, -, -, -, h6, h7, -⟩
    · exact ⟨_, _, _, h1, Nat.le_refl _, Nat.zero_le _⟩
    · exact ⟨_, _, _, h1, h6, h7⟩
  have c0 := h1.c0; have c2 := h1.c2; have f2 := h1.fz 2; have f0 := h1.fz 0
  have h' := h.setLast 0
  have hsz : (w.setCell ⟨b, 2, none⟩ (.int .i8 0)).heap.size = w.heap.size := by simp [World.setCell]
  have hok' : ∀ k, (w.setCell ⟨b, 2, none⟩ (.int .i8 0)).heap.size ≤ k → ok k := fun k hk => hok k (by omega)
  have hf0 : Fr ok w (w.setCell ⟨b, 2, none⟩ (.int .i8 0)) := (Fr.refl ok w).setCell (.inr h.1) _
  have H1 := Lib.hid (h1.set2 0)
  clear h1
  by_cases hs0 : s.size = 0
  · have hce : ∀ d dLen dCap W, (Builtin.copy_ #[27, 9] 3 #[.slice d dLen dCap, .string s]).run Tryz.prog W = .ok (goInt 0) W := fun d dLen dCap W => Lib.run_copy_empty_string W 27 9 3 5 d dLen dCap s Tryz.underlying27 (by rw [infoU8s]; rfl) hs0
    have hnil : s.data.toList = [] := List.eq_nil_of_length_eq_zero (by rw [size_data, hs0])
    have hA2 := hA.2
    have hT : ∀ W, Head T rest b (.slice A bs.length cc) 0 W → Calls Tryz.prog 85 #[.pointer (some ⟨b, 0, none⟩), .int .i64 0] W _ := fun W hW => Tryz.Buffer_tryGrow_room b _ bs.length cc 0 W hW.c0 (hW.fz 0) hA.1 hA.2 (Nat.zero_le _)
    unfold maxLen at hA2
    go_enter Tryz.func48, Tryz.ntmps48
    go_wp2_with (go_at_call 85; refine (hT _ ?_).mono ?_)
    · exact H1.out
    rintro e W1 ⟨rfl, hW1⟩
    have e1 : Head T rest b (.slice A bs.length cc) 0 W1 := by rw [hW1]; exact Head.set0 H1.out _
    have d0 := e1.c0
    have hfr : Fr ok w W1 := by rw [hW1]; exact hf0.setCell (.inr h.1) _
    have hend : BufAt 5 T rest ok b bs W1 := by
      rw [hW1]
      refine ⟨h.1, ?_⟩
      rcases h'.2 with ⟨p0, lr', p1⟩ | ⟨g, cap, cur, lr', p1, p2, p3, p4, p5⟩
      · have : (Value.slice A bs.length cc) = .slice none 0 0 := by have := p1.c0.symm.trans (Head.c0 H1.out); exact (Option.some.inj this).symm
        exact .inl ⟨p0, lr', by rw [Nat.add_zero, this]; exact p1.set0 _⟩
      · have : (Value.slice A bs.length cc) = .slice (some ⟨g, 0, none⟩) bs.length cap := by have := p1.c0.symm.trans (Head.c0 H1.out); exact (Option.some.inj this).symm
        exact .inr ⟨g, cap, cur, lr', by rw [Nat.add_zero, this]; exact p1.set0 _, p2, p3, by rw [Below.heap_setCell _ _ _ _ p3]; exact p4, p5⟩
    have HE := Lib.hid hend
    have HF := Lib.hid hfr
    clear hend hfr hW1 e1 h' hf0 hok' c2 f2 c0 f0
    have hA1 := hA.1
    go_wp2
    all_goals (go_ret2; exact ⟨by simp, by simpa using HE.out, HF.out⟩)
  · have hs1 : 0 < s.size := Nat.pos_of_ne_zero hs0
    go_enter Tryz.func48, Tryz.ntmps48
    go_wp2_with (go_at_call 85; refine (tryGrow_any (T := T) (rest := rest) (ok := ok) (bs := bs) s.size hs1 _ ?_).mono ?_)
    · exact h'
    rintro e W1 (⟨rfl, ⟨g, cap, cur, lr, q1, q2, q3, q4, q5, q6, q7, q8⟩, hgr⟩ | ⟨rfl, rfl, hnr⟩)
    · clear c2 f2 c0 f0
      have d0 := q1.c0
      have hne : ¬ cap = bs.length := by omega
      have hcp := Lib.run_copy_row_string (P := Tryz.prog) W1 27 9 3 5 g bs.length s.size (cap - bs.length) s cur 5 Tryz.underlying27 infoU8s q4 (Nat.le_refl _) (by omega)
      have q6' := q6
      unfold maxLen at q6'
      have hend := Room.written (s := s.data.toList) h.1 q1 q2 q3 q4 q5 q6 q7 q8 (size_data s) hs1
      have hfr : Fr ok w (W1.setRow g (cur.toList.take bs.length ++ Lib.byteCells s.data.toList ++ cur.toList.drop (bs.length + s.size)).toArray) := (hf0.trans (Fr.grown hgr h.1)).trans (Fr.grown (grownBy_setRow _ _ _) q2)
      rw [List.append_assoc] at hend hfr
      have HE := Lib.hid hend
      have HF := Lib.hid hfr
      clear hend hfr q1 q4 q7 q8 hgr h' hok' hf0
      go_wp2
      go_ret2
      exact ⟨rfl, HE.out, HF.out⟩
    · go_wp2_with (go_at_call 86; refine (grow_any (T := T) (rest := rest) (ok := ok) (bs := bs) s.size hs1 _ ?_ ?_ ?_ hlim).mono ?_)
      · exact h'
      · exact hok'
      · exact hnr
      rintro e W1 ⟨rfl, ⟨g, cap, cur, lr, q1, q2, q3, q4, q5, q6, q7, q8⟩, hgr⟩
      clear c2 f2 c0 f0 hnr
      have d0 := q1.c0
      have hne : ¬ cap = bs.length := by omega
      have hcp := Lib.run_copy_row_string (P := Tryz.prog) W1 27 9 3 5 g bs.length s.size (cap - bs.length) s cur 5 Tryz.underlying27 infoU8s q4 (Nat.le_refl _) (by omega)
      have q6' := q6
      unfold maxLen at q6'
      have hend := Room.written (s := s.data.toList) h.1 q1 q2 q3 q4 q5 q6 q7 q8 (size_data s) hs1
      have hfr : Fr ok w (W1.setRow g (cur.toList.take bs.length ++ Lib.byteCells s.data.toList ++ cur.toList.drop (bs.length + s.size)).toArray) := (hf0.trans (Fr.grown hgr h.1)).trans (Fr.grown (grownBy_setRow _ _ _) q2)
      rw [List.append_assoc] at hend hfr
      have HE := Lib.hid hend
      have HF := Lib.hid hfr
      clear hend hfr q1 q4 q7 q8 hgr h' hok' hf0
      go_wp2
      go_ret2
      exact ⟨rfl, HE.out, HF.out⟩

set_option maxHeartbeats 3200000 in
set_option maxRecDepth 100000 in
/-- Write: of bytes that lie in another block than the buffer's struct. -/
theorem write_any (s : List UInt8) (a : Addr) (c : Nat) (w : World) (h : BufAt 5 T rest ok b bs w) (hok : ∀ k, w.heap.size ≤ k → ok k) (hab : a.block ≠ b) (hsrc : ∀ j v, (Lib.byteCells s)[j]? = some v → w.cell? (a.add j) = some v) (hs1 : 0 < s.length) (hlim : bs.length + s.length ≤ 140737488355328) :
    Calls Tryz.prog 84 #[.pointer (some ⟨b, 0, none⟩), .slice (some a) s.length c] w fun e w' => e = .returned (.tuple #[.int .i64 s.length, .nilIface]) ∧ BufAt 5 T rest ok b (bs ++ s) w' ∧ Fr ok w w' := by
  obtain ⟨A, cc, lr, h1⟩ : ∃ A c lr, Head T rest b (.slice A bs.length c) lr w := by
    rcases h.2 with ⟨rfl, lr, h1⟩ | ⟨g, cap, cur, lr, h1, _⟩
    · exact ⟨_, _, _, h1⟩
    · exact ⟨_, _, _, h1⟩
  have c2 := h1.c2; have f2 := h1.fz 2
  have h' := h.setLast 0
  have hsz : (w.setCell ⟨b, 2, none⟩ (.int .i8 0)).heap.size = w.heap.size := by simp [World.setCell]
  have hok' : ∀ k, (w.setCell ⟨b, 2, none⟩ (.int .i8 0)).heap.size ≤ k → ok k := fun k hk => hok k (by omega)
  have hf0 : Fr ok w (w.setCell ⟨b, 2, none⟩ (.int .i8 0)) := (Fr.refl ok w).setCell (.inr h.1) _
  have hg0 : w.grownBy (w.setCell ⟨b, 2, none⟩ (.int .i8 0)) (some b) := Lib.grownBy_setCell w b 2 _
  have hbl : (Lib.byteCells s).length = s.length := Lib.byteCells_length _
  clear h1
  go_enter Tryz.func84, Tryz.ntmps84
  go_wp2_with (go_at_call 85; refine (tryGrow_any (T := T) (rest := rest) (ok := ok) (bs := bs) s.length hs1 _ ?_).mono ?_)
  · exact h'
  rintro e W1 (⟨rfl, ⟨g, cap, cur, lr, q1, q2, q3, q4, q5, q6, q7, q8⟩, hgr⟩ | ⟨rfl, rfl, hnr⟩)
  · clear c2 f2
    have d0 := q1.c0
    have hne : ¬ cap = bs.length := by omega
    have hsrc1 : ∀ j v, (Lib.byteCells s)[j]? = some v → W1.cell? (a.add j) = some v := fun j v hj => (Lib.grownBy_trans hg0 hgr).cell (hsrc j v hj) (by rw [Lib.block_add]; exact fun e => hab (Option.some.inj e))
    have hcp := run_copy_row (P := Tryz.prog) W1 27 27 3 5 g bs.length s.length (cap - bs.length) a s.length c cur 5 (Lib.byteCells s) Tryz.underlying27 infoU8s q4 (by rw [hbl]; exact (Nat.min_self _).symm) hsrc1 (by rw [hbl]; omega) (Lib.byteCells_one _)
    rw [hbl] at hcp
    have q6' := q6
    unfold maxLen at q6'
    have hend := Room.written (s := s) h.1 q1 q2 q3 q4 q5 q6 q7 q8 rfl hs1
    have hfr : Fr ok w (W1.setRow g (cur.toList.take bs.length ++ Lib.byteCells s ++ cur.toList.drop (bs.length + s.length)).toArray) := (hf0.trans (Fr.grown hgr h.1)).trans (Fr.grown (grownBy_setRow _ _ _) q2)
    rw [List.append_assoc] at hend hfr
    have HE := Lib.hid hend
    have HF := Lib.hid hfr
    clear hend hfr q1 q4 q7 q8 hgr h' hok' hf0 hsrc1 hsrc hbl
    go_wp2
    go_ret2
    exact ⟨rfl, HE.out, HF.out⟩
  · go_wp2_with (go_at_call 86; refine (grow_any (T := T) (rest := rest) (ok := ok) (bs := bs) s.length hs1 _ ?_ ?_ ?_ hlim).mono ?_)
    · exact h'
    · exact hok'
    · exact hnr
    rintro e W1 ⟨rfl, ⟨g, cap, cur, lr, q1, q2, q3, q4, q5, q6, q7, q8⟩, hgr⟩
    clear c2 f2 hnr
    have d0 := q1.c0
    have hne : ¬ cap = bs.length := by omega
    have hsrc1 : ∀ j v, (Lib.byteCells s)[j]? = some v → W1.cell? (a.add j) = some v := fun j v hj => (Lib.grownBy_trans hg0 hgr).cell (hsrc j v hj) (by rw [Lib.block_add]; exact fun e => hab (Option.some.inj e))
    have hcp := run_copy_row (P := Tryz.prog) W1 27 27 3 5 g bs.length s.length (cap - bs.length) a s.length c cur 5 (Lib.byteCells s) Tryz.underlying27 infoU8s q4 (by rw [hbl]; exact (Nat.min_self _).symm) hsrc1 (by rw [hbl]; omega) (Lib.byteCells_one _)
    rw [hbl] at hcp
    have q6' := q6
    unfold maxLen at q6'
    have hend := Room.written (s := s) h.1 q1 q2 q3 q4 q5 q6 q7 q8 rfl hs1
    have hfr : Fr ok w (W1.setRow g (cur.toList.take bs.length ++ Lib.byteCells s ++ cur.toList.drop (bs.length + s.length)).toArray) := (hf0.trans (Fr.grown hgr h.1)).trans (Fr.grown (grownBy_setRow _ _ _) q2)
    rw [List.append_assoc] at hend hfr
    have HE := Lib.hid hend
    have HF := Lib.hid hfr
    clear hend hfr q1 q4 q7 q8 hgr h' hok' hf0 hsrc1 hsrc hbl
    go_wp2
    go_ret2
    exact ⟨rfl, HE.out, HF.out⟩

/-- A slice of bytes: its cells, wherever they lie. -/
def BytesAt (w : World) (A : Option Addr) (s : List UInt8) : Prop := ∀ j v, (Lib.byteCells s)[j]? = some v → ∃ a, A = some a ∧ w.cell? (a.add j) = some v

set_option maxHeartbeats 1000000 in
set_option maxRecDepth 100000 in
/-- Bytes: the buffer's own row. -/
theorem bytes_any (w : World) (h : BufAt 5 T rest ok b bs w) :
    Calls Tryz.prog 23 #[.pointer (some ⟨b, 0, none⟩)] w fun e w' => ∃ A c, e = .returned (.slice A bs.length c) ∧ bs.length ≤ c ∧ BytesAt w A bs ∧ (∀ a, A = some a → ∃ g, a = ⟨g, 0, none⟩ ∧ ok g ∧ g ≠ b ∧ g < w.heap.size) ∧ (A = none → bs = [] ∧ c = 0) ∧ ∃ n, w' = w.drewN n := by
  obtain ⟨A, c, lr, h1, hlc, hcm, hb, hA, hN⟩ : ∃ A c lr, Head T rest b (.slice A bs.length c) lr w ∧ bs.length ≤ c ∧ c ≤ maxLen ∧ BytesAt w A bs ∧ (∀ a, A = some a → ∃ g, a = ⟨g, 0, none⟩ ∧ ok g ∧ g ≠ b ∧ g < w.heap.size) ∧ (A = none → bs = [] ∧ c = 0) := by
    rcases h.2 with ⟨rfl, lr, h1⟩ | ⟨g, cap, cur, lr, h1, h2, h3, h4, h5, h6, h7, h8, h9⟩
    · exact ⟨none, 0, lr, h1, Nat.le_refl _, Nat.zero_le _, fun j v hj => by simp [Lib.byteCells] at hj, fun a ha => by simp at ha, fun _ => ⟨rfl, rfl⟩⟩
    · refine ⟨some ⟨g, 0, none⟩, cap, lr, h1, h6, h7, fun j v hj => ⟨_, rfl, ?_⟩, fun a ha => ?_, fun h => by simp at h⟩
      · exact Lib.cells_of_row h4 bs.length j v (by rw [h9]; exact hj)
      · obtain rfl := (Option.some.inj ha).symm
        exact ⟨g, rfl, h2, h3, Lib.lt_of_heap h4⟩
  have c0 := h1.c0; have c1 := h1.c1
  have hcm' := hcm
  unfold maxLen at hcm'
  clear h1
  have HB := Lib.hid hb
  have HA := Lib.hid hA
  have HN := Lib.hid hN
  clear hb hA hN
  go_enter Tryz.func23, Tryz.ntmps23
  go_wp2
  go_quiet (fail)
  go_wp2
  go_ret
  exact ⟨A, c, rfl, hlc, HB.out, HA.out, HN.out, _, rfl⟩
end Go.Proofs.YtdkgfgmmmjpkgaaGreatDoor

namespace Go.Proofs.YtdkgfgmmmjpkgaaGreatDoor
open Go.RowKit Go.Shelf
variable {T : TypeId} {rest : Array Value} {ok : Nat → Prop} {b : Nat} {bs : List UInt8}

set_option maxHeartbeats 3200000 in
set_option maxRecDepth 100000 in
theorem write_none (B : Option Addr) (c : Nat) (w : World) (h : BufAt 5 T rest ok b bs w) :
    Calls Tryz.prog 84 #[.pointer (some ⟨b, 0, none⟩), .slice B 0 c] w fun e w' => e = .returned (.tuple #[.int .i64 0, .nilIface]) ∧ BufAt 5 T rest ok b bs w' ∧ Fr ok w w' := by
  obtain ⟨A, cc, lr, h1, hA⟩ : ∃ A c lr, Head T rest b (.slice A bs.length c) lr w ∧ bs.length ≤ c ∧ c ≤ maxLen := by
    rcases h.2 with ⟨rfl, lr, h1⟩ | ⟨g, cap, cur, lr, h1, -, -, -, -, h6, h7, -⟩
    · exact ⟨_, _, _, h1, Nat.le_refl _, Nat.zero_le _⟩
    · exact ⟨_, _, _, h1, h6, h7⟩
  have c0 := h1.c0; have c2 := h1.c2; have f2 := h1.fz 2; have f0 := h1.fz 0
  have h' := h.setLast 0
  have hf0 : Fr ok w (w.setCell ⟨b, 2, none⟩ (.int .i8 0)) := (Fr.refl ok w).setCell (.inr h.1) _
  have H1 := Lib.hid (h1.set2 0)
  clear h1
  have hce : ∀ d dLen dCap W, (Builtin.copy_ #[27, 27] 3 #[.slice d dLen dCap, .slice B 0 c]).run Tryz.prog W = .ok (goInt 0) W := fun d dLen dCap W => run_copy_none W 27 27 3 5 d B dLen dCap 0 c Tryz.underlying27 infoU8s (by simp)
  have hA2 := hA.2
  have hT : ∀ W, Head T rest b (.slice A bs.length cc) 0 W → Calls Tryz.prog 85 #[.pointer (some ⟨b, 0, none⟩), .int .i64 0] W _ := fun W hW => Tryz.Buffer_tryGrow_room b _ bs.length cc 0 W hW.c0 (hW.fz 0) hA.1 hA.2 (Nat.zero_le _)
  unfold maxLen at hA2
  go_enter Tryz.func84, Tryz.ntmps84
  go_wp2_with (go_at_call 85; refine (hT _ ?_).mono ?_)
  · exact H1.out
  rintro e W1 ⟨rfl, hW1⟩
  have e1 : Head T rest b (.slice A bs.length cc) 0 W1 := by rw [hW1]; exact Head.set0 H1.out _
  have d0 := e1.c0
  have hfr : Fr ok w W1 := by rw [hW1]; exact hf0.setCell (.inr h.1) _
  have hend : BufAt 5 T rest ok b bs W1 := by
    rw [hW1]
    refine ⟨h.1, ?_⟩
    rcases h'.2 with ⟨p0, lr', p1⟩ | ⟨g, cap, cur, lr', p1, p2, p3, p4, p5⟩
    · have : (Value.slice A bs.length cc) = .slice none 0 0 := by have := p1.c0.symm.trans (Head.c0 H1.out); exact (Option.some.inj this).symm
      exact .inl ⟨p0, lr', by rw [Nat.add_zero, this]; exact p1.set0 _⟩
    · have : (Value.slice A bs.length cc) = .slice (some ⟨g, 0, none⟩) bs.length cap := by have := p1.c0.symm.trans (Head.c0 H1.out); exact (Option.some.inj this).symm
      exact .inr ⟨g, cap, cur, lr', by rw [Nat.add_zero, this]; exact p1.set0 _, p2, p3, by rw [Below.heap_setCell _ _ _ _ p3]; exact p4, p5⟩
  have HE := Lib.hid hend
  have HF := Lib.hid hfr
  clear hend hfr hW1 e1 h' hf0 c2 f2 c0 f0
  have hA1 := hA.1
  go_wp2
  all_goals (go_ret2; exact ⟨rfl, HE.out, HF.out⟩)

/-- Write: of any bytes that do not lie in the buffer's struct. -/
theorem write_all (s : List UInt8) (A : Option Addr) (c : Nat) (w : World) (h : BufAt 5 T rest ok b bs w) (hok : ∀ k, w.heap.size ≤ k → ok k) (hab : ∀ a, A = some a → a.block ≠ b) (hsrc : BytesAt w A s) (hlim : bs.length + s.length ≤ 140737488355328) :
    Calls Tryz.prog 84 #[.pointer (some ⟨b, 0, none⟩), .slice A s.length c] w fun e w' => e = .returned (.tuple #[.int .i64 s.length, .nilIface]) ∧ BufAt 5 T rest ok b (bs ++ s) w' ∧ Fr ok w w' := by
  cases s with
  | nil => rw [List.append_nil]; exact write_none A c w h
  | cons x r =>
    obtain ⟨a, rfl, -⟩ := hsrc 0 _ rfl
    exact write_any (x :: r) a c w h hok (hab a rfl) (fun j v hj => by obtain ⟨a', ha, hc⟩ := hsrc j v hj; cases ha; exact hc) (by simp) hlim
end Go.Proofs.YtdkgfgmmmjpkgaaGreatDoor

namespace Go.Proofs.YtdkgfgmmmjpkgaaGreatDoor
open Go.RowKit

structure PO where
  k : Int
  n : Int
  t : ByteArray
  ks : List ByteArray
  l : List PO
  d : List UInt8

/-- A row of strings. -/
def StrsAt (w : World) (A : Option Addr) (s : List ByteArray) : Prop := s = [] ∨ ∃ b off, A = some ⟨b, off, none⟩ ∧ ∀ i (h : i < s.length), w.cell? ⟨b, off + i, none⟩ = some (.string s[i])
/-- A row of values of 'size' cells each: the cells of each, by number. -/
def RowAt (w : World) (A : Option Addr) (n size : Nat) (cs : Nat → Array Value) : Prop := n = 0 ∨ ∃ b off, A = some ⟨b, off, none⟩ ∧ ∀ i, i < n → ∀ j v, (cs i)[j]? = some v → w.cell? ⟨b, off + i * size + j, none⟩ = some v

/-- The object o lies in memory as these six cells, its rows wherever they lie. -/
inductive ORd (w : World) : PO → Array Value → Prop where
  | mk {k n : Int} {t : ByteArray} {ks : List ByteArray} {l : List PO} {d : List UInt8} {Ak Al Ad : Option Addr} {ck cl cd : Nat} (cs : Nat → Array Value)
    (hks : StrsAt w Ak ks) (hkc : ks.length ≤ ck) (hkm : ck ≤ 140737488355328)
    (hl : ∀ i (h : i < l.length), ORd w l[i] (cs i)) (hc : RowAt w Al l.length 6 cs) (hlc : l.length ≤ cl) (hlm : cl ≤ 140737488355328)
    (hd : BytesAt w Ad d) (hdc : d.length ≤ cd) (hdm : cd ≤ 140737488355328) (ht : t.size ≤ 140737488355328) (hkt : ∀ s, s ∈ ks → s.size ≤ 140737488355328) :
    ORd w ⟨k, n, t, ks, l, d⟩ #[.int .i64 k, .int .i64 n, .string t, .slice Ak ks.length ck, .slice Al l.length cl, .slice Ad d.length cd]

theorem StrsAt.keep {w w' : World} {A : Option Addr} {s : List ByteArray} (h : StrsAt w A s) (hb : Below w.heap.size w w') : StrsAt w' A s := by
  rcases h with h | ⟨b, off, ha, hc⟩
  · exact .inl h
  · exact .inr ⟨b, off, ha, fun i hi => (hb.cell (World.block_lt_of_cell? w _ (hc i hi))).trans (hc i hi)⟩
theorem RowAt.keep {w w' : World} {A : Option Addr} {n size : Nat} {cs : Nat → Array Value} (h : RowAt w A n size cs) (hb : Below w.heap.size w w') : RowAt w' A n size cs := by
  rcases h with h | ⟨b, off, ha, hc⟩
  · exact .inl h
  · exact .inr ⟨b, off, ha, fun i hi j v hj => (hb.cell (World.block_lt_of_cell? w _ (hc i hi j v hj))).trans (hc i hi j v hj)⟩
theorem BytesAt.keep {w w' : World} {A : Option Addr} {s : List UInt8} (h : BytesAt w A s) (hb : Below w.heap.size w w') : BytesAt w' A s := fun j v hj => by
  obtain ⟨a, ha, hc⟩ := h j v hj
  exact ⟨a, ha, (hb.cell (World.block_lt_of_cell? w _ hc)).trans hc⟩
theorem ORd.keep {w w' : World} {o : PO} {v : Array Value} (h : ORd w o v) (hb : Below w.heap.size w w') : ORd w' o v := by
  induction h with
  | mk cs hks hkc hkm hl hc hlc hlm hd hdc hdm ht hkt ih => exact .mk cs (hks.keep hb) hkc hkm ih (hc.keep hb) hlc hlm (hd.keep hb) hdc hdm ht hkt
/-- A box of its own on top: all that was there stands. -/
theorem below_alloc (w : World) (o : Obj) : Below w.heap.size w (w.alloc o) := (Below.refl _ _).alloc (Nat.le_refl _) o
/-- What has been kept since w0, behind a call that keeps all but ok blocks. -/
theorem keeps {w0 w w' : World} {ok : Nat → Prop} (h0 : Below w0.heap.size w0 w) (h : Fr ok w w') (hok : ∀ k, ok k → w0.heap.size ≤ k) : Below w0.heap.size w0 w' :=
  h0.trans ⟨h.os, h.tape, h.output, h.size, fun k hk => h.block k (by have := h0.size; omega) (fun ho => by have := hok k ho; omega)⟩
theorem bcell {W w1 : World} (hb : Below W.heap.size W w1) : (∀ b o, b < W.heap.size → w1.cell? ⟨b, o, none⟩ = W.cell? ⟨b, o, none⟩) ∧ (∀ b o, b < W.heap.size → w1.frozen? ⟨b, o, none⟩ = W.frozen? ⟨b, o, none⟩) :=
  ⟨fun b o h => hb.cell (p := ⟨b, o, none⟩) h, fun b o h => hb.frozen (p := ⟨b, o, none⟩) h⟩
theorem ret_bool {a b : Bool} (h : a = b) : Ending.returned (.bool a) = .returned (.bool b) := by rw [h]
theorem ret_str {a b : ByteArray} (h : a = b) : Ending.returned (.string a) = .returned (.string b) := by rw [h]
theorem ret_int {k : IntKind} {a b : Int} (h : a = b) : Ending.returned (.int k a) = .returned (.int k b) := by rw [h]
/-- One element of a row, laid open. -/
theorem RowAt.elem {w : World} {A : Option Addr} {n size : Nat} {cs : Nat → Array Value} (h : RowAt w A n size cs) (i : Nat) (hi : i < n) :
    ∃ b off, A = some ⟨b, off, none⟩ ∧ ∀ j v, (cs i)[j]? = some v → w.cell? ⟨b, off + i * size + j, none⟩ = some v := by
  rcases h with h | ⟨b, off, ha, hc⟩
  · omega
  · exact ⟨b, off, ha, hc i hi⟩
theorem StrsAt.elem {w : World} {A : Option Addr} {s : List ByteArray} (h : StrsAt w A s) (i : Nat) (hi : i < s.length) :
    ∃ b off, A = some ⟨b, off, none⟩ ∧ w.cell? ⟨b, off + i, none⟩ = some (.string s[i]) := by
  rcases h with h | ⟨b, off, ha, hc⟩
  · rw [h] at hi; simp at hi
  · exact ⟨b, off, ha, hc i hi⟩
end Go.Proofs.YtdkgfgmmmjpkgaaGreatDoor

namespace Go.Proofs.YtdkgfgmmmjpkgaaGreatDoor
open Go.RowKit Go.Shelf

def fitsB (n : Int) : Bool := decide (-2147483648 ≤ n) && decide (n ≤ 2147483647)
set_option maxHeartbeats 400000 in
set_option maxRecDepth 100000 in
theorem Fits_calls (n : Int) (w : World) : Calls Tryz.prog 111 #[.int .i64 n] w fun e w' => e = .returned (.bool (fitsB n)) ∧ w = w' := by
  go_enter Tryz.func111, Tryz.ntmps111
  go_wp2
  all_goals go_ret
  all_goals (
    refine ⟨ret_bool ?_, rfl⟩
    rw [Bool.eq_iff_iff]
    simp only [fitsB, Bool.and_eq_true, decide_eq_true_eq, Bool.false_eq_true, false_iff]
    omega)
theorem rfits_calls (n : Int) (w : World) : Calls Tryz.prog 54 #[.int .i64 n] w fun e w' => e = .returned (.bool (fitsB n)) ∧ w = w' := by
  go_enter Tryz.func54, Tryz.ntmps54
  by_cases h1 : -2147483648 ≤ n
  · go_wp2_with fail
    go_ret
    exact ⟨ret_bool (by simp [fitsB] <;> intros <;> omega), rfl⟩
  · go_wp2_with fail
    go_ret
    exact ⟨ret_bool (by simp [fitsB] <;> intros <;> omega), rfl⟩
/-- The library's table of powers lies as its text lays it. -/
def Tab (w : World) : Prop := Lib.TabIs Tryz.prog w "internal/strconv.uint64pow10" .u64 Lib.pow10Tab
theorem gPow : Tryz.prog.globalNamed "internal/strconv.uint64pow10" = some 2 := by kernel_rfl
theorem Tab.keep {w w' : World} (h : Tab w) (hb : Below w.heap.size w w') : Tab w' := by
  have hg : 2 < w.heap.size := by
    have h1 := h
    unfold Tab Lib.TabIs World.var? at h1
    simp only [gPow] at h1
    rcases Nat.lt_or_ge 2 w.heap.size with h2 | h2
    · exact h2
    · simp [Array.getElem?_eq_none h2] at h1
  exact var?_below hb gPow hg h
theorem below_drew' {n : Nat} {w w' : World} (h : Below n w w') : Below n w w'.drew := ⟨h.os, h.tape, h.output, h.size, h.block⟩
def eqL : List UInt8 → List UInt8 → Bool
  | [], [] => true
  | x :: a, y :: b => ((x.toNat : Int) == (y.toNat : Int)) && eqL a b
  | _, _ => false
theorem eqL_len : ∀ a b, a.length ≠ b.length → eqL a b = false
  | [], [], h => absurd rfl h
  | [], _ :: _, _ => rfl
  | _ :: _, [], _ => rfl
  | x :: a, y :: b, h => by rw [eqL, eqL_len a b (by simpa using h), Bool.and_false]
theorem eqL_step (a b : List UInt8) (i : Nat) (ha : i < a.length) (hb : i < b.length) : eqL (a.drop i) (b.drop i) = (((a[i].toNat : Int) == (b[i].toNat : Int)) && eqL (a.drop (i + 1)) (b.drop (i + 1))) := by
  rw [List.drop_eq_getElem_cons ha, List.drop_eq_getElem_cons hb]; rfl
theorem cell_spot {w : World} {a : Addr} {v : Value} (h : w.cell? a = some v) : a.spot = none := by
  unfold World.cell? at h
  split at h
  · split at h
    · simp at h
    · rename_i h2; simpa using h2
  · simp at h
theorem BytesAt.elem {w : World} {A : Option Addr} {l : List UInt8} (h : BytesAt w A l) (i : Nat) (hi : i < l.length) : ∃ b off, A = some ⟨b, off, none⟩ ∧ w.cell? ⟨b, off + i, none⟩ = some (.int .u8 (l[i].toNat : Int)) := by
  obtain ⟨⟨ab, ao, sp⟩, ha, hc⟩ := h i (.int .u8 (l[i].toNat : Int)) (by simp [Lib.byteCells, hi])
  obtain ⟨a0, ha0, hc0⟩ := h 0 (.int .u8 ((l[0]'(by omega)).toNat : Int)) (by simp [Lib.byteCells, show 0 < l.length from by omega])
  rw [ha] at ha0
  cases ha0
  have hs := cell_spot hc0
  unfold Addr.add at hs
  rw [if_pos rfl] at hs
  simp only at hs
  subst hs
  rw [Lib.addr_add] at hc
  exact ⟨ab, ao, ha, hc⟩
set_option maxHeartbeats 1600000 in
set_option maxRecDepth 100000 in
theorem same_calls (a b : List UInt8) (A B : Option Addr) (ca cb : Nat) (w : World) (ha : BytesAt w A a) (hb : BytesAt w B b) (hal : a.length ≤ 140737488355328) (_hbl : b.length ≤ 140737488355328) :
    Calls Tryz.prog 13 #[.slice A a.length ca, .slice B b.length cb] w fun e w' => e = .returned (.bool (eqL a b)) ∧ Below w.heap.size w w' := by
  have HA := Lib.hid (fun W (h : Below w.heap.size w W) => ha.keep h)
  have HB := Lib.hid (fun W (h : Below w.heap.size w W) => hb.keep h)
  clear ha hb
  by_cases hne : a.length = b.length
  rotate_left
  · have hr := eqL_len a b hne
    have HR := Lib.hid hr
    have hne' : ((a.length : Int) == b.length) = false := beq_eq_false_iff_ne.2 (by omega)
    clear hr
    go_enter Tryz.func13, Tryz.ntmps13
    go_wp2_with fail
    go_ret
    exact ⟨ret_bool HR.out.symm, Below.refl _ _⟩
  have hn1 : a.length ≤ b.length := by omega
  have hn2 : b.length ≤ a.length := by omega
  have HNE := Lib.hid hne
  clear hne
  generalize hr : eqL a b = R
  have HR0 : Hid (eqL (a.drop 0) (b.drop 0) = R) := hr
  clear hr
  have HB0 := Lib.hid (Below.refl w.heap.size w)
  go_enter Tryz.func13, Tryz.ntmps13
  go_wp2_with fail
  try (rename (a.length : Int) = (b.length : Int) => hq9; clear hq9)
  clear hn1 hn2
  go_loopw [5] (fun v wr => ∃ i : Nat, i ≤ a.length ∧ v = .int .i64 i ∧ Hid (eqL (a.drop i) (b.drop i) = R) ∧ Hid (Below w.heap.size w wr)) (fun v _ => a.length - (intOf v).toNat)
  case atStart => exact ⟨0, Nat.zero_le _, rfl, HR0, HB0⟩
  case round =>
    clear HR0 HB0
    obtain ⟨i, hi, rfl, hE, hw⟩ := hrel
    by_cases hlt : i < a.length
    · have hltb : i < b.length := by rw [← HNE.out]; exact hlt
      obtain ⟨ab, aoff, hA, hca⟩ := (HA.out wr hw.out).elem i hlt
      obtain ⟨bb, boff, hB, hcb⟩ := (HB.out wr hw.out).elem i hltb
      have hst := eqL_step a b i hlt hltb
      subst hA
      subst hB
      generalize a[i] = x at *
      generalize b[i] = y at *
      have HST := Lib.hid hst
      clear hst
      cases hxy : ((x.toNat : Int) == (y.toNat : Int)) with
      | false =>
        have HF : Hid (R = false) := by
          show R = false
          rw [← hE.out, HST.out, hxy]; rfl
        go_wp2_with fail
        go_region
        all_goals (
          go_wp2_with fail
          go_ret
          exact ⟨ret_bool HF.out.symm, below_drew' hw.out⟩)
      | true =>
        have HF : Hid (eqL (a.drop (i + 1)) (b.drop (i + 1)) = R) := by
          show _ = R
          rw [← hE.out, HST.out, hxy]; rfl
        have HW := Lib.hid (below_drew' hw.out)
        go_wp2_with fail
        go_region
        all_goals (
          go_wp2_with fail
          go_roundw
          case rel => exact ⟨i + 1, by omega, by go_num, HF, HW⟩
          case measure => simp [intOf]; omega)
    · obtain rfl : i = a.length := by omega
      have HF : Hid (R = true) := by
        show R = true
        rw [← hE.out, List.drop_of_length_le (Nat.le_refl _), List.drop_of_length_le (by rw [HNE.out]; exact Nat.le_refl _)]; rfl
      go_wp2_with fail
      go_ret
      exact ⟨ret_bool HF.out.symm, hw.out⟩
end Go.Proofs.YtdkgfgmmmjpkgaaGreatDoor

namespace Go.Proofs.YtdkgfgmmmjpkgaaGreatDoor
open Go.RowKit Go.Shelf

theorem ba_ext0 {s t : ByteArray} (h : s.data.toList = t.data.toList) : s = t := by
  cases s with | mk a => cases t with | mk c => exact congrArg ByteArray.mk (Array.toList_inj.1 h)
def asStr (l : List UInt8) : ByteArray := ⟨l.toArray⟩
theorem asStr_size (l : List UInt8) : (asStr l).size = l.length := by show l.toArray.size = _; simp
theorem asStr_append (a b : List UInt8) : asStr a ++ asStr b = asStr (a ++ b) := ba_ext0 (by simp [asStr])
theorem enc_digit : ∀ n : Nat, n < 10 → Utf8.encode (48 + (n : Int)) = asStr [UInt8.ofNat (48 + n)] := by decide
theorem decDigits_le : ∀ (m n : Nat), n < 10 ^ (m + 1) → (Lib.decDigits n).length ≤ m + 1
  | 0, n, h => by rw [Lib.decDigits, dif_pos (by omega)]; simp
  | m + 1, n, h => by
    rw [Lib.decDigits]
    split
    · simp
    · have := decDigits_le m (n / 10) (by rw [Nat.pow_succ] at h; omega)
      simp only [List.length_append, List.length_singleton]
      omega
set_option maxHeartbeats 1000000 in
set_option maxRecDepth 100000 in
theorem digits_calls : ∀ (m n : Nat) (w : World), n ≤ m → n < 1000000 → Calls Tryz.prog 126 #[.int .i64 n] w fun e w' => e = .returned (.string (asStr (Lib.decDigits n))) ∧ w = w' := by
  intro m
  induction m with
  | zero =>
    intro n w hm h1
    have hn : (n : Int) < 10 := by omega
    have he := enc_digit n (by omega)
    have hd : Lib.decDigits n = [UInt8.ofNat (48 + n)] := by rw [Lib.decDigits, dif_pos (by omega)]
    rw [hd]
    have HE := Lib.hid he
    clear he hd
    go_enter Tryz.func126, Tryz.ntmps126
    go_wp2_with fail
    go_ret
    exact ⟨ret_str HE.out, rfl⟩
  | succ m ih =>
    intro n w hm h1
    by_cases hn : n < 10
    · have hn' : (n : Int) < 10 := by omega
      have he := enc_digit n hn
      have hd : Lib.decDigits n = [UInt8.ofNat (48 + n)] := by rw [Lib.decDigits, dif_pos hn]
      rw [hd]
      have HE := Lib.hid he
      clear he hd hn
      go_enter Tryz.func126, Tryz.ntmps126
      go_wp2_with fail
      go_ret
      exact ⟨ret_str HE.out, rfl⟩
    · have hn' : ¬ (n : Int) < 10 := by omega
      have he := enc_digit (n % 10) (by omega)
      have hd : Lib.decDigits n = Lib.decDigits (n / 10) ++ [UInt8.ofNat (48 + n % 10)] := by rw [Lib.decDigits, dif_neg hn]
      have hl := decDigits_le 5 (n / 10) (by omega)
      have hi : ∀ W, Calls Tryz.prog 126 #[.int .i64 ((n : Int) / 10)] W fun e w' => e = .returned (.string (asStr (Lib.decDigits (n / 10)))) ∧ W = w' := fun W => ih (n / 10) W (by omega) (by omega)
      have hz : (asStr (Lib.decDigits (n / 10))).size ≤ 6 := by rw [asStr_size]; exact hl
      have hz2 : (Utf8.encode (48 + (n : Int) % 10)).size ≤ 1 := by
        rw [show ((n : Int) % 10) = ((n % 10 : Nat) : Int) from rfl, he]; exact Nat.le_refl _
      rw [hd]
      have HE := Lib.hid he
      clear he hd hn hl
      go_enter Tryz.func126, Tryz.ntmps126
      go_wp2_with (go_at_call 126; refine (hi _).mono ?_; rintro e w' ⟨rfl, rfl⟩)
      go_ret
      exact ⟨ret_str (by rw [← asStr_append]; exact congrArg (asStr _ ++ ·) HE.out), rfl⟩

theorem i64_and65535 (x : Int) (h0 : 0 ≤ x) (h1 : x < 2 ^ 40) : Go.bits .and .i64 x 65535 = x % 65536 :=
  bits_mask .i64 40 (by decide) (fun n h0 h1 => by rw [IntKind.wrap_i64]; omega) 16 (by decide) x h0 h1

/-- The digits behind the point, of f parts of 65536: at most so many. -/
def fracL : Nat → Nat → List UInt8
  | 0, _ => []
  | m + 1, f => if f = 0 then [] else UInt8.ofNat (48 + f * 10 / 65536) :: fracL m (f * 10 % 65536)
theorem fracL_le : ∀ m f, (fracL m f).length ≤ m
  | 0, _ => Nat.le_refl _
  | m + 1, f => by
    rw [fracL]
    split
    · simp
    · have := fracL_le m (f * 10 % 65536)
      simp only [List.length_cons]
      omega
theorem fracL_zero (m : Nat) : fracL m 0 = [] := by cases m <;> simp [fracL]
def partA (n : Int) : Nat := if fitsB n then n.natAbs else 0
def partS (n : Int) : List UInt8 := if fitsB n && decide (n < 0) then [45] else []
def partW (n : Int) : List UInt8 := Lib.decDigits (partA n / 65536)
def partR (n : Int) : List UInt8 := fracL 16 (partA n % 65536)

theorem byteCells_snoc (l : List UInt8) (c : UInt8) : Lib.byteCells l ++ [.int .u8 c.toNat] = Lib.byteCells (l ++ [c]) := by simp [Lib.byteCells]

set_option maxHeartbeats 1600000 in
set_option maxRecDepth 100000 in
theorem parts_pos (n : Nat) (w : World) (hn : n ≤ 2147483647) :
    Calls Tryz.prog 87 #[.int .i64 n] w fun e w' => e = .returned (.tuple #[.string (asStr []), .string (asStr (Lib.decDigits (n / 65536))), .string (asStr (fracL 16 (n % 65536)))]) ∧ Below w.heap.size w w' := by
  have hfit : fitsB (n : Int) = true := by simp only [fitsB, Bool.and_eq_true, decide_eq_true_eq]; omega
  have hand := i64_and65535 (n : Int) (by omega) (by omega)
  have hneg : decide ((n : Int) < 0) = false := decide_eq_false (by omega)
  have hmod : (n : Int) % 65536 = ((n % 65536 : Nat) : Int) := by omega
  rw [hmod] at hand
  go_enter Tryz.func87, Tryz.ntmps87
  clear hmod
  go_wp2_with (go_at_call 111; refine (Fits_calls _ _).mono ?_; rintro e w2 ⟨rfl, rfl⟩)
  have hB0 : Lib.IsBuilder 171 5 w.heap.size w.heap.size (Lib.byteCells []) (w.alloc (.cells #[.pointer none, .slice none 0 0] 171)) := Lib.fresh_isBuilder _ _ w
  have HB0 := Lib.hid hB0
  have HB1 := Lib.hid (below_alloc w (.cells #[.pointer none, .slice none 0 0] 171))
  have hf0 : Hid ((n % 65536) * 2 ^ 16 % 65536 = 0) := by show (n % 65536) * 65536 % 65536 = 0; omega
  clear hB0 hand
  go_loopg [6] 16 (fun m v wr => ∃ (f : Nat) (acc : List UInt8), v = .int .i64 f ∧ f < 65536 ∧ m ≤ 16 ∧ Hid (f * 2 ^ m % 65536 = 0) ∧ Hid (acc ++ fracL m f = fracL 16 (n % 65536)) ∧ Hid (acc.length + m = 16) ∧ Hid (Lib.IsBuilder 171 5 w.heap.size w.heap.size (Lib.byteCells acc) wr) ∧ Hid (Below w.heap.size w wr))
  case atStart => exact ⟨n % 65536, [], by go_num, by omega, Nat.le_refl _, hf0, rfl, rfl, HB0, HB1⟩
  case round =>
    obtain ⟨f, acc, rfl, hf, hm, hz, hacc, hlen, hI, hW⟩ := hrel
    by_cases h0 : f = 0
    · subst h0
      have hst : Hid (acc = fracL 16 (n % 65536)) := by
        have := hacc.out
        rw [fracL_zero, List.append_nil] at this
        exact this
      have hd : ∀ W, Calls Tryz.prog 126 #[.int .i64 ((n : Int) / 65536)] W fun e w' => e = .returned (.string (asStr (Lib.decDigits (n / 65536)))) ∧ W = w' := fun W => digits_calls (n / 65536) (n / 65536) W (Nat.le_refl _) (by omega)
      go_wp2_with fail
      refine (hd wr).mono ?_
      rintro e w2 ⟨rfl, rfl⟩
      go_wp2_with fail
      refine (Tryz.Builder_String_any w.heap.size w.heap.size acc wr hI.out hW.out.size).mono ?_
      rintro e w2 ⟨rfl, b2⟩
      have B2 := Lib.hid (hW.out.trans b2)
      clear b2
      go_wp2_with fail
      go_ret3
      exact ⟨by rw [← hst.out]; rfl, B2.out⟩
    · cases gk with
      | zero => exact absurd hz.out (by rw [Nat.pow_zero]; omega)
      | succ m =>
        have hpos : (0 : Int) < f := by omega
        have hand := i64_and65535 ((f : Int) * 10) (by omega) (by omega)
        have hz' : Hid ((f * 10 % 65536) * 2 ^ m % 65536 = 0) := by
          have h1 := hz.out
          show _ = _
          rw [Nat.pow_succ] at h1
          rw [Nat.mod_mul_mod]
          have : f * 10 * 2 ^ m = (f * (2 ^ m * 2)) * 5 := by
            rw [Nat.mul_assoc f 10, Nat.mul_assoc f, Nat.mul_comm 10, Nat.mul_assoc (2 ^ m)]
          rw [this, Nat.mul_mod, h1]
        have hacc' : Hid ((acc ++ [UInt8.ofNat (48 + f * 10 / 65536)]) ++ fracL m (f * 10 % 65536) = fracL 16 (n % 65536)) := by
          have h1 := hacc.out
          rw [fracL, if_neg h0] at h1
          show _ = _
          rw [List.append_assoc]
          exact h1
        have hbyte : Hid (Lib.byteCells acc ++ [.int .u8 (48 + (f : Int) * 10 / 65536)] = Lib.byteCells (acc ++ [UInt8.ofNat (48 + f * 10 / 65536)])) := by
          show _ = _
          rw [← byteCells_snoc]
          congr 3
          rw [UInt8.toNat_ofNat', Nat.mod_eq_of_lt (by omega)]
          omega
        have hl1 : Hid ((Lib.byteCells acc).length + 1 ≤ 140737488355328) := by
          have := hlen.out
          show _ ≤ _
          rw [Lib.byteCells_length]; omega
        have hl2 : Hid ((acc ++ [UInt8.ofNat (48 + f * 10 / 65536)]).length + m = 16) := by
          have := hlen.out
          show _ = _
          rw [List.length_append, List.length_singleton]; omega
        clear h0 hz hacc hlen
        go_wp2_with fail
        refine (builder_writeByte w.heap.size w.heap.size (Lib.byteCells acc) _ wr hI.out hl1.out hW.out.size).mono ?_
        rintro e w2 ⟨rfl, h1, b1⟩
        have H1 := Lib.hid h1
        have B1 := Lib.hid (hW.out.trans b1)
        clear h1 b1
        go_wp2_with fail
        go_roundg m
        case measure => omega
        case rel =>
          refine ⟨f * 10 % 65536, acc ++ [UInt8.ofNat (48 + f * 10 / 65536)], by go_num, by omega, by omega, hz', hacc', hl2, ?_, B1⟩
          rw [← hbyte.out]
          exact H1
set_option maxHeartbeats 1600000 in
set_option maxRecDepth 100000 in
theorem parts_neg (n : Nat) (w : World) (hn : n ≤ 2147483648) (hn0 : 0 < n) :
    Calls Tryz.prog 87 #[.int .i64 (-(n : Int))] w fun e w' => e = .returned (.tuple #[.string (asStr [45]), .string (asStr (Lib.decDigits (n / 65536))), .string (asStr (fracL 16 (n % 65536)))]) ∧ Below w.heap.size w w' := by
  have hfit : fitsB (-(n : Int)) = true := by simp only [fitsB, Bool.and_eq_true, decide_eq_true_eq]; omega
  have hand := i64_and65535 (n : Int) (by omega) (by omega)
  have hneg : decide (-(n : Int) < 0) = true := decide_eq_true (by omega)
  have hmod : (n : Int) % 65536 = ((n % 65536 : Nat) : Int) := by omega
  rw [hmod] at hand
  go_enter Tryz.func87, Tryz.ntmps87
  clear hmod
  go_wp2_with (go_at_call 111; refine (Fits_calls _ _).mono ?_; rintro e w2 ⟨rfl, rfl⟩)
  have hB0 : Lib.IsBuilder 171 5 w.heap.size w.heap.size (Lib.byteCells []) (w.alloc (.cells #[.pointer none, .slice none 0 0] 171)) := Lib.fresh_isBuilder _ _ w
  have HB0 := Lib.hid hB0
  have HB1 := Lib.hid (below_alloc w (.cells #[.pointer none, .slice none 0 0] 171))
  have hf0 : Hid ((n % 65536) * 2 ^ 16 % 65536 = 0) := by show (n % 65536) * 65536 % 65536 = 0; omega
  clear hB0 hand
  go_loopg [6] 16 (fun m v wr => ∃ (f : Nat) (acc : List UInt8), v = .int .i64 f ∧ f < 65536 ∧ m ≤ 16 ∧ Hid (f * 2 ^ m % 65536 = 0) ∧ Hid (acc ++ fracL m f = fracL 16 (n % 65536)) ∧ Hid (acc.length + m = 16) ∧ Hid (Lib.IsBuilder 171 5 w.heap.size w.heap.size (Lib.byteCells acc) wr) ∧ Hid (Below w.heap.size w wr))
  case atStart => exact ⟨n % 65536, [], by go_num, by omega, Nat.le_refl _, hf0, rfl, rfl, HB0, HB1⟩
  case round =>
    obtain ⟨f, acc, rfl, hf, hm, hz, hacc, hlen, hI, hW⟩ := hrel
    by_cases h0 : f = 0
    · subst h0
      have hst : Hid (acc = fracL 16 (n % 65536)) := by
        have := hacc.out
        rw [fracL_zero, List.append_nil] at this
        exact this
      have hd : ∀ W, Calls Tryz.prog 126 #[.int .i64 ((n : Int) / 65536)] W fun e w' => e = .returned (.string (asStr (Lib.decDigits (n / 65536)))) ∧ W = w' := fun W => digits_calls (n / 65536) (n / 65536) W (Nat.le_refl _) (by omega)
      go_wp2_with fail
      refine (hd wr).mono ?_
      rintro e w2 ⟨rfl, rfl⟩
      go_wp2_with fail
      refine (Tryz.Builder_String_any w.heap.size w.heap.size acc wr hI.out hW.out.size).mono ?_
      rintro e w2 ⟨rfl, b2⟩
      have B2 := Lib.hid (hW.out.trans b2)
      clear b2
      go_wp2_with fail
      go_ret3
      exact ⟨by rw [← hst.out]; rfl, B2.out⟩
    · cases gk with
      | zero => exact absurd hz.out (by rw [Nat.pow_zero]; omega)
      | succ m =>
        have hpos : (0 : Int) < f := by omega
        have hand := i64_and65535 ((f : Int) * 10) (by omega) (by omega)
        have hz' : Hid ((f * 10 % 65536) * 2 ^ m % 65536 = 0) := by
          have h1 := hz.out
          show _ = _
          rw [Nat.pow_succ] at h1
          rw [Nat.mod_mul_mod]
          have : f * 10 * 2 ^ m = (f * (2 ^ m * 2)) * 5 := by
            rw [Nat.mul_assoc f 10, Nat.mul_assoc f, Nat.mul_comm 10, Nat.mul_assoc (2 ^ m)]
          rw [this, Nat.mul_mod, h1]
        have hacc' : Hid ((acc ++ [UInt8.ofNat (48 + f * 10 / 65536)]) ++ fracL m (f * 10 % 65536) = fracL 16 (n % 65536)) := by
          have h1 := hacc.out
          rw [fracL, if_neg h0] at h1
          show _ = _
          rw [List.append_assoc]
          exact h1
        have hbyte : Hid (Lib.byteCells acc ++ [.int .u8 (48 + (f : Int) * 10 / 65536)] = Lib.byteCells (acc ++ [UInt8.ofNat (48 + f * 10 / 65536)])) := by
          show _ = _
          rw [← byteCells_snoc]
          congr 3
          rw [UInt8.toNat_ofNat', Nat.mod_eq_of_lt (by omega)]
          omega
        have hl1 : Hid ((Lib.byteCells acc).length + 1 ≤ 140737488355328) := by
          have := hlen.out
          show _ ≤ _
          rw [Lib.byteCells_length]; omega
        have hl2 : Hid ((acc ++ [UInt8.ofNat (48 + f * 10 / 65536)]).length + m = 16) := by
          have := hlen.out
          show _ = _
          rw [List.length_append, List.length_singleton]; omega
        clear h0 hz hacc hlen
        go_wp2_with fail
        refine (builder_writeByte w.heap.size w.heap.size (Lib.byteCells acc) _ wr hI.out hl1.out hW.out.size).mono ?_
        rintro e w2 ⟨rfl, h1, b1⟩
        have H1 := Lib.hid h1
        have B1 := Lib.hid (hW.out.trans b1)
        clear h1 b1
        go_wp2_with fail
        go_roundg m
        case measure => omega
        case rel =>
          refine ⟨f * 10 % 65536, acc ++ [UInt8.ofNat (48 + f * 10 / 65536)], by go_num, by omega, by omega, hz', hacc', hl2, ?_, B1⟩
          rw [← hbyte.out]
          exact H1
set_option maxHeartbeats 1600000 in
set_option maxRecDepth 100000 in
theorem parts_out (n : Int) (w : World) (hfit : fitsB n = false) :
    Calls Tryz.prog 87 #[.int .i64 n] w fun e w' => e = .returned (.tuple #[.string (asStr []), .string (asStr [48]), .string (asStr [])]) ∧ Below w.heap.size w w' := by
  have hand : Go.bits .and .i64 0 65535 = 0 := by decide
  have hB0 : Lib.IsBuilder 171 5 w.heap.size w.heap.size (Lib.byteCells []) (w.alloc (.cells #[.pointer none, .slice none 0 0] 171)) := Lib.fresh_isBuilder _ _ w
  have HB0 := Lib.hid hB0
  have HB1 := Lib.hid (below_alloc w (.cells #[.pointer none, .slice none 0 0] 171))
  have hd : ∀ W, Calls Tryz.prog 126 #[.int .i64 0] W fun e w' => e = .returned (.string (asStr [48])) ∧ W = w' := fun W => by
    have := digits_calls 0 0 W (Nat.le_refl _) (by omega)
    rw [Lib.decDigits, dif_pos (by omega)] at this
    exact this
  clear hB0
  go_enter Tryz.func87, Tryz.ntmps87
  go_wp2_with (go_at_call 111; refine (Fits_calls _ _).mono ?_; rintro e w2 ⟨rfl, rfl⟩)
  go_loopw [6] (fun v wr => v = .int .i64 0 ∧ Hid (wr = w.alloc (.cells #[.pointer none, .slice none 0 0] 171))) (fun _ _ => 0)
  case atStart => exact ⟨rfl, rfl⟩
  case round =>
    obtain ⟨rfl, hw⟩ := hrel
    go_wp2_with fail
    refine (hd wr).mono ?_
    rintro e w2 ⟨rfl, rfl⟩
    go_wp2_with fail
    refine (Tryz.Builder_String_any w.heap.size w.heap.size [] wr (by rw [hw.out]; exact HB0.out) (by rw [hw.out]; simp)).mono ?_
    rintro e w2 ⟨rfl, b2⟩
    have B2 := Lib.hid b2
    clear b2
    go_wp2_with fail
    go_ret3
    exact ⟨rfl, by have := B2.out; rw [hw.out] at this; exact HB1.out.trans this⟩

/-- parts: sign, whole part, what is behind the point. -/
theorem parts_calls (n : Int) (w : World) :
    Calls Tryz.prog 87 #[.int .i64 n] w fun e w' => e = .returned (.tuple #[.string (asStr (partS n)), .string (asStr (partW n)), .string (asStr (partR n))]) ∧ Below w.heap.size w w' := by
  by_cases hf : fitsB n = true
  · have hf2 := hf
    simp only [fitsB, Bool.and_eq_true, decide_eq_true_eq] at hf2
    have ha : partA n = n.natAbs := by rw [partA, if_pos hf]
    by_cases hneg : n < 0
    · have e1 : n = -((n.natAbs : Nat) : Int) := by omega
      have hs : partS n = [45] := by rw [partS, hf, decide_eq_true hneg]; rfl
      have := parts_neg n.natAbs w (by omega) (by omega)
      rw [← e1] at this
      rw [hs, partW, partR, ha]
      exact this
    · have e1 : n = ((n.natAbs : Nat) : Int) := by omega
      have hs : partS n = [] := by rw [partS, hf, decide_eq_false hneg]; rfl
      have := parts_pos n.natAbs w (by omega)
      rw [← e1] at this
      rw [hs, partW, partR, ha]
      exact this
  · have hf' : fitsB n = false := by simpa using hf
    have ha : partA n = 0 := by rw [partA, if_neg hf]
    have hs : partS n = [] := by rw [partS, hf']; rfl
    have hw : partW n = [48] := by rw [partW, ha, Lib.decDigits, dif_pos (by omega)]; rfl
    have hr : partR n = [] := by rw [partR, ha]; exact fracL_zero 16
    rw [hs, hw, hr]
    exact parts_out n w hf'

/-- A real's bytes; a number's. -/
def realL (n : Int) : List UInt8 := partS n ++ partW n ++ [46] ++ (if (partR n).isEmpty then [48] else partR n)
def fixL (n : Int) : List UInt8 := partS n ++ partW n ++ (if (partR n).isEmpty then [] else 46 :: partR n)
theorem partS_le (n : Int) : (partS n).length ≤ 1 := by unfold partS; split <;> simp
theorem partW_le (n : Int) : (partW n).length ≤ 6 := by
  refine decDigits_le 5 _ ?_
  unfold partA
  split
  · rename_i h
    simp only [fitsB, Bool.and_eq_true, decide_eq_true_eq] at h
    omega
  · omega
theorem partR_le (n : Int) : (partR n).length ≤ 16 := fracL_le 16 _

set_option maxHeartbeats 1600000 in
set_option maxRecDepth 100000 in
theorem PrintReal_calls (n : Int) (w : World) : Calls Tryz.prog 150 #[.int .i64 n] w fun e w' => e = .returned (.string (asStr (realL n))) ∧ Below w.heap.size w w' := by
  have hS := partS_le n
  have hW := partW_le n
  have hR := partR_le n
  have hr : realL n = partS n ++ partW n ++ [46] ++ (if (partR n).isEmpty then [48] else partR n) := rfl
  have hp := parts_calls n w
  generalize realL n = R at *
  generalize partS n = s at *
  generalize partW n = wh at *
  generalize partR n = r at *
  have z1 : (asStr s).size ≤ 1 := by rw [asStr_size]; exact hS
  have z2 : (asStr wh).size ≤ 6 := by rw [asStr_size]; exact hW
  have z3 : (asStr r).size ≤ 16 := by rw [asStr_size]; exact hR
  cases r with
  | nil =>
    have hne : (asStr []).toList.isEmpty = true := by rw [Lib.toList_data]; rfl
    have HR := Lib.hid hr
    clear hr
    go_enter Tryz.func150, Tryz.ntmps150
    go_wp2_with fail
    refine hp.mono ?_
    rintro e w1 ⟨rfl, b1⟩
    have B1 := Lib.hid b1
    clear b1 hp
    go_wp2_with fail
    go_ret
    exact ⟨ret_str (by
      rw [HR.out]
      show asStr s ++ asStr wh ++ asStr [46] ++ asStr [48] = asStr (s ++ wh ++ [46] ++ [48])
      simp only [asStr_append]), B1.out⟩
  | cons c r =>
    have hne : (asStr (c :: r)).toList.isEmpty = false := by rw [Lib.toList_data]; rfl
    generalize hcr : c :: r = cr at *
    have hcr2 : cr.isEmpty = false := by rw [← hcr]; rfl
    rw [hcr2, if_neg Bool.false_ne_true] at hr
    have HR := Lib.hid hr
    clear hr hcr hcr2
    go_enter Tryz.func150, Tryz.ntmps150
    go_wp2_with fail
    refine hp.mono ?_
    rintro e w1 ⟨rfl, b1⟩
    have B1 := Lib.hid b1
    clear b1 hp
    go_wp2_with fail
    go_ret
    exact ⟨ret_str (by
      rw [HR.out]
      show asStr s ++ asStr wh ++ asStr [46] ++ asStr cr = asStr (s ++ wh ++ [46] ++ cr)
      simp only [asStr_append]), B1.out⟩

end Go.Proofs.YtdkgfgmmmjpkgaaGreatDoor

namespace Go.Proofs.YtdkgfgmmmjpkgaaGreatDoor
open Go.RowKit Go.Shelf

theorem one_byte (w : World) (x : Int) (c : UInt8) (hx : x = c.toNat) :
    (convert 27 9 (.slice (some ⟨w.heap.size, 0, none⟩) 1 1)).run Tryz.prog (w.alloc (.cells #[.int .u8 x] 5)) = .ok (.string (asStr [c])) (w.alloc (.cells #[.int .u8 x] 5)) := by
  subst hx
  refine run_convert_bytes_back _ 27 9 5 _ 1 [c] Tryz.underlying27 Tryz.underlying5 Tryz.underlying9 fun j hj => ?_
  obtain rfl : j = 0 := by simpa using hj
  rw [Addr.add_lit, Lib.cell_of_heap (heap_alloc_new w _)]
  rfl
theorem decDigits_big (n : Nat) (h : ¬ n < 10) : Lib.decDigits n = Lib.decDigits (n / 10) ++ [UInt8.ofNat (48 + n % 10)] := by rw [Lib.decDigits, dif_neg h]
theorem decDigits_small (n : Nat) (h : n < 10) : Lib.decDigits n = [UInt8.ofNat (48 + n)] := by rw [Lib.decDigits, dif_pos h]
theorem ofNat_toNat (n : Nat) (h : n < 256) : ((UInt8.ofNat n).toNat : Int) = n := by
  rw [UInt8.toNat_ofNat', Nat.mod_eq_of_lt h]

set_option maxHeartbeats 800000 in
set_option maxRecDepth 100000 in
theorem udec_calls (n : Nat) (hn : n ≤ 1000000000000) (w : World) :
    Calls Tryz.prog 37 #[.int .u64 n] w fun e w' => e = .returned (.string (asStr (Lib.decDigits n))) ∧ Below w.heap.size w w' := by
  have hl := decDigits_le 12 n (by omega)
  obtain ⟨D, hD⟩ : ∃ D, D = Lib.decDigits n := ⟨_, rfl⟩
  have HD0 : Hid (Lib.decDigits n ++ [] = D) := by show _ = _; rw [hD, List.append_nil]
  rw [← hD] at hl ⊢
  have HB := Lib.hid (Below.refl w.heap.size w)
  clear hD
  go_enter Tryz.func37, Tryz.ntmps37
  go_wp2_with fail
  go_loopw [0, 3] (fun u s wr => ∃ (m : Nat) (acc : List UInt8), u = .int .u64 m ∧ s = .string (asStr acc) ∧ m ≤ 1000000000000 ∧ Hid (Lib.decDigits m ++ acc = D) ∧ Hid (Below w.heap.size w wr)) (fun u _ _ => (intOf u).toNat)
  case atStart => exact ⟨n, [], rfl, rfl, hn, HD0, HB⟩
  case round =>
    clear HD0 HB hn
    obtain ⟨m, acc, rfl, rfl, hm, hE, hW⟩ := hrel
    have hacc : (asStr acc).size ≤ 13 := by
      rw [asStr_size]
      have := congrArg List.length hE.out
      rw [List.length_append] at this
      omega
    obtain ⟨c, hc⟩ : ∃ c, c = UInt8.ofNat (48 + m % 10) := ⟨_, rfl⟩
    have hone := one_byte wr (48 + (m : Int) % 10) c (by rw [hc, ofNat_toNat _ (by omega)]; omega)
    have hz1 : (asStr [c]).size ≤ 1 := by rw [asStr_size]; exact Nat.le_refl _
    have HC := Lib.hid hc
    have HW2 := Lib.hid (hW.out.trans ((below_alloc wr (.cells #[.int .u8 (48 + (m : Int) % 10)] 5)).mono hW.out.size))
    clear hc
    by_cases h9 : m < 10
    · have HF : Hid (asStr [c] ++ asStr acc = asStr D) := by
        show _ = _
        rw [← hE.out, decDigits_small m h9, asStr_append, HC.out, Nat.mod_eq_of_lt h9]
      have hq : (m : Int) / 10 = 0 := by omega
      go_wp2_with fail
      go_ret
      exact ⟨ret_str HF.out, HW2.out⟩
    · have hq : ((m / 10 : Nat) : Int) = (m : Int) / 10 := by omega
      have hne : ((m : Int) / 10 == 0) = false := beq_eq_false_iff_ne.2 (by omega)
      have HE2 : Hid (Lib.decDigits (m / 10) ++ ([c] ++ acc) = D) := by
        show _ = _
        rw [← hE.out, decDigits_big m h9, List.append_assoc, HC.out]
      have HQ := Lib.hid hq
      clear hq
      go_wp2_with fail
      go_roundw
      case rel => exact ⟨m / 10, [c] ++ acc, by rw [HQ.out], congrArg Value.string (asStr_append _ _), by omega, HE2, HW2⟩
      case measure => simp [intOf]; omega

set_option maxHeartbeats 800000 in
set_option maxRecDepth 100000 in
theorem rDec_calls (n : Int) (h0 : -1000000000000 ≤ n) (h1 : n ≤ 1000000000000) (w : World) :
    Calls Tryz.prog 16 #[.int .i64 n] w fun e w' => e = .returned (.string (asStr (Lib.itoa n))) ∧ Below w.heap.size w w' := by
  by_cases hneg : n < 0
  · have hr : Lib.itoa n = 45 :: Lib.decDigits n.natAbs := by rw [Lib.itoa, if_pos hneg]
    rw [hr]
    have hl := decDigits_le 12 n.natAbs (by omega)
    have hz : (asStr (Lib.decDigits n.natAbs)).size ≤ 13 := by rw [asStr_size]; exact hl
    have hU := Lib.hid (fun W => udec_calls n.natAbs (by omega) W)
    have hk : Hid ((n.natAbs : Int) = -(n + 1) + 1) := by show _ = _; omega
    clear hr hl
    go_enter Tryz.func16, Tryz.ntmps16
    go_wp2_with fail
    rw [← hk.out]
    refine (hU.out _).mono ?_
    rintro e w1 ⟨rfl, q1⟩
    have Q1 := Lib.hid q1
    clear q1
    go_wp2_with fail
    go_ret
    exact ⟨ret_str (asStr_append [45] _), Q1.out⟩
  · have hr : Lib.itoa n = Lib.decDigits n.toNat := by rw [Lib.itoa, if_neg hneg]
    rw [hr]
    have hU := Lib.hid (fun W => udec_calls n.toNat (by omega) W)
    have hk : Hid ((n.toNat : Int) = n) := by show _ = _; omega
    clear hr
    go_enter Tryz.func16, Tryz.ntmps16
    go_wp2_with fail
    rw [← hk.out]
    refine (hU.out _).mono ?_
    rintro e w1 ⟨rfl, q1⟩
    have Q1 := Lib.hid q1
    clear q1
    go_wp2_with fail
    go_ret
    exact ⟨rfl, Q1.out⟩
end Go.Proofs.YtdkgfgmmmjpkgaaGreatDoor

namespace Go.Proofs.YtdkgfgmmmjpkgaaGreatDoor
open Go.RowKit Go.Shelf

theorem itoa_digit (d : Nat) (h : d < 10) : Lib.itoa (d : Int) = [UInt8.ofNat (48 + d)] := by
  rw [Lib.itoa, if_neg (by omega), Int.toNat_natCast, decDigits_small d h]
theorem itoa_nat (d : Nat) : Lib.itoa (d : Int) = Lib.decDigits d := by
  rw [Lib.itoa, if_neg (by omega), Int.toNat_natCast]
/-- What stands behind the sign. -/
def numL (k : Nat) : List UInt8 := Lib.decDigits (k / 65536) ++ (if k % 65536 = 0 then [] else 46 :: fracL 16 (k % 65536))

set_option maxHeartbeats 3200000 in
set_option maxRecDepth 100000 in
theorem r1Print_pos (k : Nat) (hk : k ≤ 2147483647) (w : World) :
    Calls Tryz.prog 57 #[.int .i64 (k : Int)] w fun e w' => e = .returned (.string (asStr (numL k))) ∧ Below w.heap.size w w' := by
  have hfit : fitsB (k : Int) = true := by simp only [fitsB, Bool.and_eq_true, decide_eq_true_eq]; omega
  have hneg : decide ((k : Int) < 0) = false := decide_eq_false (by omega)
  have hmod : ((k % 65536 : Nat) : Int) = (k : Int) % 65536 := by omega
  have hW := decDigits_le 5 (k / 65536) (by omega)
  have HD0 := Lib.hid (show ∀ W, Calls Tryz.prog 16 #[.int .i64 ((k : Int) / 65536)] W fun e w' => e = .returned (.string (asStr (Lib.decDigits (k / 65536)))) ∧ Below W.heap.size W w' from fun W => by
    have := rDec_calls ((k / 65536 : Nat) : Int) (by omega) (by omega) W
    rw [itoa_nat] at this
    exact this)
  obtain ⟨wh, hwh⟩ : ∃ wh, wh = Lib.decDigits (k / 65536) := ⟨_, rfl⟩
  have hnum : numL k = wh ++ (if k % 65536 = 0 then [] else 46 :: fracL 16 (k % 65536)) := by rw [hwh]; rfl
  rw [← hwh] at hW HD0
  have hzw : (asStr wh).size ≤ 6 := by rw [asStr_size]; exact hW
  obtain ⟨T, hT⟩ : ∃ T, T = (numL k) := ⟨_, rfl⟩
  rw [← hT]
  have HB := Lib.hid (Below.refl w.heap.size w)
  have hf0 : Hid ((k % 65536) * 2 ^ 16 % 65536 = 0) := by show (k % 65536) * 65536 % 65536 = 0; omega
  have HMOD := Lib.hid hmod
  clear hwh hmod
  by_cases hr : k % 65536 = 0
  · have hT2 : Hid (([] ++ wh) ++ fracL 16 (k % 65536) = T) := by
      show _ = _
      rw [hT, hnum, if_pos hr, hr, fracL_zero]
      simp
    have hgt : decide (0 < (k : Int) % 65536) = false := decide_eq_false (by omega)
    have hacc : ([] ++ wh : List UInt8).length + 16 ≤ 40 := by simp; omega
    have HACC := Lib.hid hacc
    have hlt : k % 65536 < 65536 := by omega
    have hs0 : Hid ((.string (asStr wh) : Value) = .string (asStr ([] ++ wh))) := congrArg Value.string (by simp only [← asStr_append]; first | rfl | exact (asStr_append [] _).symm.trans rfl)
    clear hT hnum hr hacc
    go_enter Tryz.func57, Tryz.ntmps57
    go_wp2_with (go_at_call 54; refine (rfits_calls _ _).mono ?_; rintro e w2 ⟨rfl, rfl⟩)
    refine (HD0.out _).mono ?_
    rintro e w1 ⟨rfl, q1⟩
    have HB1 := Lib.hid q1
    clear q1
    go_wp2_with fail
    go_loopg [3, 4] 16 (fun m s v wr => ∃ (f : Nat) (acc : List UInt8), s = .string (asStr acc) ∧ v = .int .i64 f ∧ f < 65536 ∧ m ≤ 16 ∧ Hid (f * 2 ^ m % 65536 = 0) ∧ Hid (acc ++ fracL m f = T) ∧ Hid (acc.length + m ≤ 40) ∧ Hid (Below w.heap.size w wr))
    case atStart => exact ⟨k % 65536, [] ++ wh, hs0.out, by rw [HMOD.out], hlt, Nat.le_refl _, hf0, hT2, HACC, HB1⟩
    case round =>
      clear hs0 hgt hlt
      obtain ⟨f, acc, rfl, rfl, hf, hm, hz, hacc, hlen, hW⟩ := hrel
      have hza : (asStr acc).size ≤ 40 := by rw [asStr_size]; have := hlen.out; omega
      by_cases h0 : f = 0
      · subst h0
        have HF : Hid (acc = T) := by
          have := hacc.out
          rw [fracL_zero, List.append_nil] at this
          exact this
        go_wp2_with fail
        go_ret
        exact ⟨ret_str (by rw [HF.out]), hW.out⟩
      · cases gk with
        | zero => exact absurd hz.out (by rw [Nat.pow_zero]; omega)
        | succ m =>
          have hpos : (0 : Int) < f := by omega
          obtain ⟨c, hc⟩ : ∃ c, c = UInt8.ofNat (48 + f * 10 / 65536) := ⟨_, rfl⟩
          have HDD := Lib.hid (show ∀ W, Calls Tryz.prog 16 #[.int .i64 ((f : Int) * 10 / 65536)] W fun e w' => e = .returned (.string (asStr [c])) ∧ Below W.heap.size W w' from fun W => by
            have := rDec_calls ((f * 10 / 65536 : Nat) : Int) (by omega) (by omega) W
            rw [itoa_digit _ (by omega), ← hc] at this
            exact this)
          have hz' : Hid ((f * 10 % 65536) * 2 ^ m % 65536 = 0) := by
            have h1 := hz.out
            show _ = _
            rw [Nat.pow_succ] at h1
            rw [Nat.mod_mul_mod]
            have : f * 10 * 2 ^ m = (f * (2 ^ m * 2)) * 5 := by
              rw [Nat.mul_assoc f 10, Nat.mul_assoc f, Nat.mul_comm 10, Nat.mul_assoc (2 ^ m)]
            rw [this, Nat.mul_mod, h1]
          have hacc' : Hid ((acc ++ [c]) ++ fracL m (f * 10 % 65536) = T) := by
            have h1 := hacc.out
            rw [fracL, if_neg h0] at h1
            show _ = _
            rw [List.append_assoc, hc]
            exact h1
          have hl2 : Hid ((acc ++ [c]).length + m ≤ 40) := by
            have := hlen.out
            show _ ≤ _
            rw [List.length_append, List.length_singleton]; omega
          have hzc : (asStr [c]).size ≤ 1 := by rw [asStr_size]; exact Nat.le_refl _
          clear h0 hz hacc hlen hc
          go_wp2_with fail
          refine (HDD.out _).mono ?_
          rintro e w2 ⟨rfl, q2⟩
          have HW2 := Lib.hid (hW.out.trans (q2.mono hW.out.size))
          clear q2
          go_wp2_with fail
          go_roundg m
          case measure => omega
          case rel => exact ⟨f * 10 % 65536, acc ++ [c], congrArg Value.string (asStr_append _ _), by go_num, by omega, by omega, hz', hacc', hl2, HW2⟩
  · have hT2 : Hid (([] ++ wh ++ [46]) ++ fracL 16 (k % 65536) = T) := by
      show _ = _
      rw [hT, hnum, if_neg hr]
      simp
    have hgt : decide (0 < (k : Int) % 65536) = true := decide_eq_true (by omega)
    have hacc : ([] ++ wh ++ [46] : List UInt8).length + 16 ≤ 40 := by simp; omega
    have HACC := Lib.hid hacc
    have hlt : k % 65536 < 65536 := by omega
    have hs0 : Hid ((.string (asStr wh ++ ⟨#[46]⟩) : Value) = .string (asStr ([] ++ wh ++ [46]))) := congrArg Value.string (by simp only [← asStr_append]; first | rfl | exact (asStr_append [] _).symm.trans rfl)
    clear hT hnum hr hacc
    go_enter Tryz.func57, Tryz.ntmps57
    go_wp2_with (go_at_call 54; refine (rfits_calls _ _).mono ?_; rintro e w2 ⟨rfl, rfl⟩)
    refine (HD0.out _).mono ?_
    rintro e w1 ⟨rfl, q1⟩
    have HB1 := Lib.hid q1
    clear q1
    go_wp2_with fail
    go_loopg [3, 4] 16 (fun m s v wr => ∃ (f : Nat) (acc : List UInt8), s = .string (asStr acc) ∧ v = .int .i64 f ∧ f < 65536 ∧ m ≤ 16 ∧ Hid (f * 2 ^ m % 65536 = 0) ∧ Hid (acc ++ fracL m f = T) ∧ Hid (acc.length + m ≤ 40) ∧ Hid (Below w.heap.size w wr))
    case atStart => exact ⟨k % 65536, [] ++ wh ++ [46], hs0.out, by rw [HMOD.out], hlt, Nat.le_refl _, hf0, hT2, HACC, HB1⟩
    case round =>
      clear hs0 hgt hlt
      obtain ⟨f, acc, rfl, rfl, hf, hm, hz, hacc, hlen, hW⟩ := hrel
      have hza : (asStr acc).size ≤ 40 := by rw [asStr_size]; have := hlen.out; omega
      by_cases h0 : f = 0
      · subst h0
        have HF : Hid (acc = T) := by
          have := hacc.out
          rw [fracL_zero, List.append_nil] at this
          exact this
        go_wp2_with fail
        go_ret
        exact ⟨ret_str (by rw [HF.out]), hW.out⟩
      · cases gk with
        | zero => exact absurd hz.out (by rw [Nat.pow_zero]; omega)
        | succ m =>
          have hpos : (0 : Int) < f := by omega
          obtain ⟨c, hc⟩ : ∃ c, c = UInt8.ofNat (48 + f * 10 / 65536) := ⟨_, rfl⟩
          have HDD := Lib.hid (show ∀ W, Calls Tryz.prog 16 #[.int .i64 ((f : Int) * 10 / 65536)] W fun e w' => e = .returned (.string (asStr [c])) ∧ Below W.heap.size W w' from fun W => by
            have := rDec_calls ((f * 10 / 65536 : Nat) : Int) (by omega) (by omega) W
            rw [itoa_digit _ (by omega), ← hc] at this
            exact this)
          have hz' : Hid ((f * 10 % 65536) * 2 ^ m % 65536 = 0) := by
            have h1 := hz.out
            show _ = _
            rw [Nat.pow_succ] at h1
            rw [Nat.mod_mul_mod]
            have : f * 10 * 2 ^ m = (f * (2 ^ m * 2)) * 5 := by
              rw [Nat.mul_assoc f 10, Nat.mul_assoc f, Nat.mul_comm 10, Nat.mul_assoc (2 ^ m)]
            rw [this, Nat.mul_mod, h1]
          have hacc' : Hid ((acc ++ [c]) ++ fracL m (f * 10 % 65536) = T) := by
            have h1 := hacc.out
            rw [fracL, if_neg h0] at h1
            show _ = _
            rw [List.append_assoc, hc]
            exact h1
          have hl2 : Hid ((acc ++ [c]).length + m ≤ 40) := by
            have := hlen.out
            show _ ≤ _
            rw [List.length_append, List.length_singleton]; omega
          have hzc : (asStr [c]).size ≤ 1 := by rw [asStr_size]; exact Nat.le_refl _
          clear h0 hz hacc hlen hc
          go_wp2_with fail
          refine (HDD.out _).mono ?_
          rintro e w2 ⟨rfl, q2⟩
          have HW2 := Lib.hid (hW.out.trans (q2.mono hW.out.size))
          clear q2
          go_wp2_with fail
          go_roundg m
          case measure => omega
          case rel => exact ⟨f * 10 % 65536, acc ++ [c], congrArg Value.string (asStr_append _ _), by go_num, by omega, by omega, hz', hacc', hl2, HW2⟩
set_option maxHeartbeats 3200000 in
set_option maxRecDepth 100000 in
theorem r1Print_neg (k : Nat) (hk : k ≤ 2147483648) (hk0 : 0 < k) (w : World) :
    Calls Tryz.prog 57 #[.int .i64 (-(k : Int))] w fun e w' => e = .returned (.string (asStr ([45] ++ numL k))) ∧ Below w.heap.size w w' := by
  have hfit : fitsB (-(k : Int)) = true := by simp only [fitsB, Bool.and_eq_true, decide_eq_true_eq]; omega
  have hneg : decide ((-(k : Int)) < 0) = true := decide_eq_true (by omega)
  have hmod : ((k % 65536 : Nat) : Int) = (k : Int) % 65536 := by omega
  have hW := decDigits_le 5 (k / 65536) (by omega)
  have HD0 := Lib.hid (show ∀ W, Calls Tryz.prog 16 #[.int .i64 ((k : Int) / 65536)] W fun e w' => e = .returned (.string (asStr (Lib.decDigits (k / 65536)))) ∧ Below W.heap.size W w' from fun W => by
    have := rDec_calls ((k / 65536 : Nat) : Int) (by omega) (by omega) W
    rw [itoa_nat] at this
    exact this)
  obtain ⟨wh, hwh⟩ : ∃ wh, wh = Lib.decDigits (k / 65536) := ⟨_, rfl⟩
  have hnum : numL k = wh ++ (if k % 65536 = 0 then [] else 46 :: fracL 16 (k % 65536)) := by rw [hwh]; rfl
  rw [← hwh] at hW HD0
  have hzw : (asStr wh).size ≤ 6 := by rw [asStr_size]; exact hW
  obtain ⟨T, hT⟩ : ∃ T, T = ([45] ++ numL k) := ⟨_, rfl⟩
  rw [← hT]
  have HB := Lib.hid (Below.refl w.heap.size w)
  have hf0 : Hid ((k % 65536) * 2 ^ 16 % 65536 = 0) := by show (k % 65536) * 65536 % 65536 = 0; omega
  have HMOD := Lib.hid hmod
  clear hwh hmod
  by_cases hr : k % 65536 = 0
  · have hT2 : Hid (([45] ++ wh) ++ fracL 16 (k % 65536) = T) := by
      show _ = _
      rw [hT, hnum, if_pos hr, hr, fracL_zero]
      simp
    have hgt : decide (0 < (k : Int) % 65536) = false := decide_eq_false (by omega)
    have hacc : ([45] ++ wh : List UInt8).length + 16 ≤ 40 := by simp; omega
    have HACC := Lib.hid hacc
    have hlt : k % 65536 < 65536 := by omega
    have hs0 : Hid ((.string (⟨#[45]⟩ ++ asStr wh) : Value) = .string (asStr ([45] ++ wh))) := congrArg Value.string (by simp only [← asStr_append]; first | rfl | exact (asStr_append [] _).symm.trans rfl)
    clear hT hnum hr hacc
    go_enter Tryz.func57, Tryz.ntmps57
    go_wp2_with (go_at_call 54; refine (rfits_calls _ _).mono ?_; rintro e w2 ⟨rfl, rfl⟩)
    refine (HD0.out _).mono ?_
    rintro e w1 ⟨rfl, q1⟩
    have HB1 := Lib.hid q1
    clear q1
    go_wp2_with fail
    go_loopg [3, 4] 16 (fun m s v wr => ∃ (f : Nat) (acc : List UInt8), s = .string (asStr acc) ∧ v = .int .i64 f ∧ f < 65536 ∧ m ≤ 16 ∧ Hid (f * 2 ^ m % 65536 = 0) ∧ Hid (acc ++ fracL m f = T) ∧ Hid (acc.length + m ≤ 40) ∧ Hid (Below w.heap.size w wr))
    case atStart => exact ⟨k % 65536, [45] ++ wh, hs0.out, by rw [HMOD.out], hlt, Nat.le_refl _, hf0, hT2, HACC, HB1⟩
    case round =>
      clear hs0 hgt hlt
      obtain ⟨f, acc, rfl, rfl, hf, hm, hz, hacc, hlen, hW⟩ := hrel
      have hza : (asStr acc).size ≤ 40 := by rw [asStr_size]; have := hlen.out; omega
      by_cases h0 : f = 0
      · subst h0
        have HF : Hid (acc = T) := by
          have := hacc.out
          rw [fracL_zero, List.append_nil] at this
          exact this
        go_wp2_with fail
        go_ret
        exact ⟨ret_str (by rw [HF.out]), hW.out⟩
      · cases gk with
        | zero => exact absurd hz.out (by rw [Nat.pow_zero]; omega)
        | succ m =>
          have hpos : (0 : Int) < f := by omega
          obtain ⟨c, hc⟩ : ∃ c, c = UInt8.ofNat (48 + f * 10 / 65536) := ⟨_, rfl⟩
          have HDD := Lib.hid (show ∀ W, Calls Tryz.prog 16 #[.int .i64 ((f : Int) * 10 / 65536)] W fun e w' => e = .returned (.string (asStr [c])) ∧ Below W.heap.size W w' from fun W => by
            have := rDec_calls ((f * 10 / 65536 : Nat) : Int) (by omega) (by omega) W
            rw [itoa_digit _ (by omega), ← hc] at this
            exact this)
          have hz' : Hid ((f * 10 % 65536) * 2 ^ m % 65536 = 0) := by
            have h1 := hz.out
            show _ = _
            rw [Nat.pow_succ] at h1
            rw [Nat.mod_mul_mod]
            have : f * 10 * 2 ^ m = (f * (2 ^ m * 2)) * 5 := by
              rw [Nat.mul_assoc f 10, Nat.mul_assoc f, Nat.mul_comm 10, Nat.mul_assoc (2 ^ m)]
            rw [this, Nat.mul_mod, h1]
          have hacc' : Hid ((acc ++ [c]) ++ fracL m (f * 10 % 65536) = T) := by
            have h1 := hacc.out
            rw [fracL, if_neg h0] at h1
            show _ = _
            rw [List.append_assoc, hc]
            exact h1
          have hl2 : Hid ((acc ++ [c]).length + m ≤ 40) := by
            have := hlen.out
            show _ ≤ _
            rw [List.length_append, List.length_singleton]; omega
          have hzc : (asStr [c]).size ≤ 1 := by rw [asStr_size]; exact Nat.le_refl _
          clear h0 hz hacc hlen hc
          go_wp2_with fail
          refine (HDD.out _).mono ?_
          rintro e w2 ⟨rfl, q2⟩
          have HW2 := Lib.hid (hW.out.trans (q2.mono hW.out.size))
          clear q2
          go_wp2_with fail
          go_roundg m
          case measure => omega
          case rel => exact ⟨f * 10 % 65536, acc ++ [c], congrArg Value.string (asStr_append _ _), by go_num, by omega, by omega, hz', hacc', hl2, HW2⟩
  · have hT2 : Hid (([45] ++ wh ++ [46]) ++ fracL 16 (k % 65536) = T) := by
      show _ = _
      rw [hT, hnum, if_neg hr]
      simp
    have hgt : decide (0 < (k : Int) % 65536) = true := decide_eq_true (by omega)
    have hacc : ([45] ++ wh ++ [46] : List UInt8).length + 16 ≤ 40 := by simp; omega
    have HACC := Lib.hid hacc
    have hlt : k % 65536 < 65536 := by omega
    have hs0 : Hid ((.string (⟨#[45]⟩ ++ asStr wh ++ ⟨#[46]⟩) : Value) = .string (asStr ([45] ++ wh ++ [46]))) := congrArg Value.string (by simp only [← asStr_append]; first | rfl | exact (asStr_append [] _).symm.trans rfl)
    clear hT hnum hr hacc
    go_enter Tryz.func57, Tryz.ntmps57
    go_wp2_with (go_at_call 54; refine (rfits_calls _ _).mono ?_; rintro e w2 ⟨rfl, rfl⟩)
    refine (HD0.out _).mono ?_
    rintro e w1 ⟨rfl, q1⟩
    have HB1 := Lib.hid q1
    clear q1
    go_wp2_with fail
    go_loopg [3, 4] 16 (fun m s v wr => ∃ (f : Nat) (acc : List UInt8), s = .string (asStr acc) ∧ v = .int .i64 f ∧ f < 65536 ∧ m ≤ 16 ∧ Hid (f * 2 ^ m % 65536 = 0) ∧ Hid (acc ++ fracL m f = T) ∧ Hid (acc.length + m ≤ 40) ∧ Hid (Below w.heap.size w wr))
    case atStart => exact ⟨k % 65536, [45] ++ wh ++ [46], hs0.out, by rw [HMOD.out], hlt, Nat.le_refl _, hf0, hT2, HACC, HB1⟩
    case round =>
      clear hs0 hgt hlt
      obtain ⟨f, acc, rfl, rfl, hf, hm, hz, hacc, hlen, hW⟩ := hrel
      have hza : (asStr acc).size ≤ 40 := by rw [asStr_size]; have := hlen.out; omega
      by_cases h0 : f = 0
      · subst h0
        have HF : Hid (acc = T) := by
          have := hacc.out
          rw [fracL_zero, List.append_nil] at this
          exact this
        go_wp2_with fail
        go_ret
        exact ⟨ret_str (by rw [HF.out]), hW.out⟩
      · cases gk with
        | zero => exact absurd hz.out (by rw [Nat.pow_zero]; omega)
        | succ m =>
          have hpos : (0 : Int) < f := by omega
          obtain ⟨c, hc⟩ : ∃ c, c = UInt8.ofNat (48 + f * 10 / 65536) := ⟨_, rfl⟩
          have HDD := Lib.hid (show ∀ W, Calls Tryz.prog 16 #[.int .i64 ((f : Int) * 10 / 65536)] W fun e w' => e = .returned (.string (asStr [c])) ∧ Below W.heap.size W w' from fun W => by
            have := rDec_calls ((f * 10 / 65536 : Nat) : Int) (by omega) (by omega) W
            rw [itoa_digit _ (by omega), ← hc] at this
            exact this)
          have hz' : Hid ((f * 10 % 65536) * 2 ^ m % 65536 = 0) := by
            have h1 := hz.out
            show _ = _
            rw [Nat.pow_succ] at h1
            rw [Nat.mod_mul_mod]
            have : f * 10 * 2 ^ m = (f * (2 ^ m * 2)) * 5 := by
              rw [Nat.mul_assoc f 10, Nat.mul_assoc f, Nat.mul_comm 10, Nat.mul_assoc (2 ^ m)]
            rw [this, Nat.mul_mod, h1]
          have hacc' : Hid ((acc ++ [c]) ++ fracL m (f * 10 % 65536) = T) := by
            have h1 := hacc.out
            rw [fracL, if_neg h0] at h1
            show _ = _
            rw [List.append_assoc, hc]
            exact h1
          have hl2 : Hid ((acc ++ [c]).length + m ≤ 40) := by
            have := hlen.out
            show _ ≤ _
            rw [List.length_append, List.length_singleton]; omega
          have hzc : (asStr [c]).size ≤ 1 := by rw [asStr_size]; exact Nat.le_refl _
          clear h0 hz hacc hlen hc
          go_wp2_with fail
          refine (HDD.out _).mono ?_
          rintro e w2 ⟨rfl, q2⟩
          have HW2 := Lib.hid (hW.out.trans (q2.mono hW.out.size))
          clear q2
          go_wp2_with fail
          go_roundg m
          case measure => omega
          case rel => exact ⟨f * 10 % 65536, acc ++ [c], congrArg Value.string (asStr_append _ _), by go_num, by omega, by omega, hz', hacc', hl2, HW2⟩

theorem fixL_num (n : Int) (hf : fitsB n = true) : fixL n = (if n < 0 then [45] else []) ++ numL n.natAbs := by
  have ha : partA n = n.natAbs := by rw [partA, if_pos hf]
  rw [fixL, partS, partW, partR, ha, numL, hf]
  by_cases hr : n.natAbs % 65536 = 0
  · rw [hr, fracL_zero]
    by_cases hn : n < 0 <;> simp [hn]
  · rw [if_neg hr, fracL, if_neg hr]
    by_cases hn : n < 0 <;> simp [hn]
theorem r1Print_calls (n : Int) (hf : fitsB n = true) (w : World) :
    Calls Tryz.prog 57 #[.int .i64 n] w fun e w' => e = .returned (.string (asStr (fixL n))) ∧ Below w.heap.size w w' := by
  have hf2 := hf
  simp only [fitsB, Bool.and_eq_true, decide_eq_true_eq] at hf2
  rw [fixL_num n hf]
  by_cases hn : n < 0
  · rw [if_pos hn]
    have h := r1Print_neg n.natAbs (by omega) (by omega) w
    rw [show -((n.natAbs : Nat) : Int) = n from by omega] at h
    exact h
  · rw [if_neg hn]
    have h := r1Print_pos n.natAbs (by omega) w
    rw [show ((n.natAbs : Nat) : Int) = n from by omega] at h
    exact h
theorem realL_fix (n : Int) : realL n = if (partR n).isEmpty then fixL n ++ [46, 48] else fixL n := by
  rw [realL, fixL]
  by_cases h : (partR n).isEmpty
  · rw [if_pos h, if_pos h, if_pos h]; simp
  · rw [if_neg h, if_neg h, if_neg h]; simp
theorem partR_empty (n : Int) (hf : fitsB n = true) : (partR n).isEmpty = (n.tmod 65536 == 0) := by
  have ha : partA n = n.natAbs := by rw [partA, if_pos hf]
  rw [partR, ha]
  have hm : n.tmod 65536 = 0 ↔ n.natAbs % 65536 = 0 := by
    rw [← Int.natAbs_eq_zero, Int.natAbs_tmod]
    exact Iff.rfl
  by_cases hr : n.natAbs % 65536 = 0
  · rw [hr, fracL_zero, hm.2 hr]; rfl
  · rw [show (n.tmod 65536 == 0) = false from beq_eq_false_iff_ne.2 (fun h => hr (hm.1 h)), fracL, if_neg hr]; rfl

end Go.Proofs.YtdkgfgmmmjpkgaaGreatDoor

namespace Go.Proofs.YtdkgfgmmmjpkgaaGreatDoor
open Go.RowKit

/-- ok, without block r. -/
def but (ok : Nat → Prop) (r : Nat) (k : Nat) : Prop := ok k ∧ k ≠ r

def hexAt (n : Nat) (h : n < 16) : UInt8 := (⟨#[48, 49, 50, 51, 52, 53, 54, 55, 56, 57, 97, 98, 99, 100, 101, 102]⟩ : ByteArray)[n]'h
def hexD (n : Nat) : UInt8 := UInt8.ofNat (if n < 10 then 48 + n else 87 + n)
theorem hexAt_eq : ∀ (n : Nat) (h : n < 16), hexAt n h = hexD n := by decide
def escN (c : UInt8) : Bool := decide (c.toNat < 33) || decide (126 < c.toNat) || decide (0 ≤ Lib.indexByte [40, 41, 60, 62, 91, 93, 123, 125, 47, 37, 35] c)
def nameByte (c : UInt8) : List UInt8 := if escN c then [35, hexD (c.toNat / 16), hexD (c.toNat % 16)] else [c]
theorem nameByte_esc (c : UInt8) (he : escN c = true) (h1 : c.toNat / 16 < 16) (h2 : c.toNat % 16 < 16) : nameByte c = [35, hexAt (c.toNat / 16) h1, hexAt (c.toNat % 16) h2] := by
  rw [nameByte, he, if_pos rfl, hexAt_eq, hexAt_eq]
theorem nameByte_plain (c : UInt8) (he : escN c = false) : nameByte c = [c] := by
  rw [nameByte, he]; rfl
/-- A name's bytes. -/
def nameL (s : List UInt8) : List UInt8 := 47 :: s.flatMap nameByte
theorem nameByte_le (c : UInt8) : (nameByte c).length ≤ 3 := by unfold nameByte; split <;> simp
theorem flat_le (f : UInt8 → List UInt8) (n : Nat) (hf : ∀ c, (f c).length ≤ n) : ∀ s : List UInt8, (s.flatMap f).length ≤ n * s.length
  | [] => by simp
  | c :: r => by
    rw [List.flatMap_cons, List.length_append, List.length_cons]
    have h1 := hf c
    have h2 := flat_le f n hf r
    rw [Nat.mul_add, Nat.mul_one]
    omega
theorem nameL_le (s : List UInt8) : (nameL s).length ≤ 3 * s.length + 1 := by
  have := flat_le nameByte 3 nameByte_le s
  unfold nameL
  simp only [List.length_cons]
  omega
def escT (c : UInt8) : Bool := decide (c.toNat = 40) || decide (c.toNat = 41) || decide (c.toNat = 92)
def textByte (c : UInt8) : List UInt8 :=
  if escT c then [92, c] else if decide (c.toNat < 32) || decide (126 < c.toNat) then [92, UInt8.ofNat (48 + c.toNat / 64), UInt8.ofNat (48 + c.toNat / 8 % 8), UInt8.ofNat (48 + c.toNat % 8)] else [c]
/-- A string's bytes. -/
def textL (s : List UInt8) : List UInt8 := 40 :: s.flatMap textByte ++ [41]
theorem textByte_le (c : UInt8) : (textByte c).length ≤ 4 := by unfold textByte; repeat' split <;> simp
theorem textL_le (s : List UInt8) : (textL s).length ≤ 4 * s.length + 2 := by
  have := flat_le textByte 4 textByte_le s
  unfold textL
  simp only [List.length_cons, List.length_append, List.length_nil]
  omega
theorem flat_take (f : UInt8 → List UInt8) (s : List UInt8) (k : Nat) (h : k < s.length) : (s.take (k + 1)).flatMap f = (s.take k).flatMap f ++ f s[k] := by
  rw [List.take_add_one, List.getElem?_eq_getElem h, List.flatMap_append]
  congr 1
  simp
theorem flat_take_le (f : UInt8 → List UInt8) (n : Nat) (hf : ∀ c, (f c).length ≤ n) (s : List UInt8) (k : Nat) (h : k ≤ s.length) : ((s.take k).flatMap f).length ≤ n * k := by
  have := flat_le f n hf (s.take k)
  rwa [List.length_take, Nat.min_eq_left h] at this
theorem octal_cells (c : UInt8) : Lib.byteCells [92, UInt8.ofNat (48 + c.toNat / 64), UInt8.ofNat (48 + c.toNat / 8 % 8), UInt8.ofNat (48 + c.toNat % 8)] = [.int .u8 92, .int .u8 (48 + (c.toNat : Int) / 64), .int .u8 (48 + (c.toNat : Int) / 8 % 8), .int .u8 (48 + (c.toNat : Int) % 8)] := by
  have hc := c.toNat_lt
  have h : ∀ n, n < 256 → (((UInt8.ofNat n).toNat : Nat) : Int) = (n : Int) := fun n hn => by
    rw [UInt8.toNat_ofNat', Nat.mod_eq_of_lt hn]
  simp only [Lib.byteCells, List.map_cons, List.map_nil]
  rw [h _ (by omega), h _ (by omega), h _ (by omega)]
  rfl
theorem textByte_octal (c : UInt8) (he : escT c = false) (h : c.toNat < 32 ∨ 126 < c.toNat) : textByte c = [92, UInt8.ofNat (48 + c.toNat / 64), UInt8.ofNat (48 + c.toNat / 8 % 8), UInt8.ofNat (48 + c.toNat % 8)] := by
  rw [textByte, he, if_neg (by decide), if_pos (by simpa using h)]
theorem textByte_plain (c : UInt8) (he : escT c = false) (h : 32 ≤ c.toNat) (h2 : c.toNat ≤ 126) : textByte c = [c] := by
  rw [textByte, he, if_neg (by decide), if_neg (by simp; omega)]
end Go.Proofs.YtdkgfgmmmjpkgaaGreatDoor
