/- Frames over a set of block numbers, and a bytes.Buffer whose struct may be the head of a larger block: what the buffer's writers leave, with no word on the program. -/
import Derived.Lib.BufferWrite
import Derived.Lib.BufferOwn
import Derived.WalkKit
namespace Go.Proofs.YtkcdckcckpgliaaDoor
open Go.RowKit

/-- Nothing that lay in w has turned, but blocks that are 'ok'. -/
structure Fr (ok : Nat → Prop) (w w' : World) : Prop where
  os : w'.os = w.os
  tape : w'.tape = w.tape
  output : w'.output = w.output
  size : w.heap.size ≤ w'.heap.size
  block : ∀ k, k < w.heap.size → ¬ ok k → w'.heap[k]? = w.heap[k]?

theorem Fr.refl (ok : Nat → Prop) (w : World) : Fr ok w w := ⟨rfl, rfl, rfl, Nat.le_refl _, fun _ _ _ => rfl⟩
theorem Fr.trans {ok : Nat → Prop} {a b c : World} (h : Fr ok a b) (k : Fr ok b c) : Fr ok a c :=
  ⟨k.os.trans h.os, k.tape.trans h.tape, k.output.trans h.output, Nat.le_trans h.size k.size, fun i hi ho => (k.block i (Nat.lt_of_lt_of_le hi h.size) ho).trans (h.block i hi ho)⟩
theorem Fr.mono {ok ok' : Nat → Prop} {w w' : World} (h : Fr ok w w') (hok : ∀ k, k < w.heap.size → ok k → ok' k) : Fr ok' w w' :=
  ⟨h.os, h.tape, h.output, h.size, fun k hk ho => h.block k hk (fun h1 => ho (hok k hk h1))⟩
theorem Fr.drew {ok : Nat → Prop} {a w : World} (h : Fr ok a w) : Fr ok a w.drew := ⟨h.os, h.tape, h.output, h.size, h.block⟩
theorem Fr.drewN {ok : Nat → Prop} {a w : World} (h : Fr ok a w) (n : Nat) : Fr ok a (w.drewN n) := ⟨h.os, h.tape, h.output, h.size, h.block⟩
theorem Fr.of_below {w w' : World} (ok : Nat → Prop) (h : Below w.heap.size w w') : Fr ok w w' := ⟨h.os, h.tape, h.output, h.size, fun k hk _ => h.block k hk⟩
theorem Fr.alloc {ok : Nat → Prop} {a w : World} (h : Fr ok a w) (o : Obj) : Fr ok a (w.alloc o) :=
  h.trans (Fr.of_below ok ((Below.refl _ _).alloc (Nat.le_refl _) o))
theorem Fr.setCell {ok : Nat → Prop} {a w : World} (h : Fr ok a w) {p : Addr} (hp : a.heap.size ≤ p.block ∨ ok p.block) (v : Value) : Fr ok a (w.setCell p v) :=
  ⟨h.os, h.tape, h.output, by simpa [World.setCell] using h.size, fun k hk ho => (Below.heap_setCell _ _ _ _ (fun e => by
    rcases hp with hp | hp
    · omega
    · exact ho (e ▸ hp))).trans (h.block k hk ho)⟩
theorem Fr.grown {ok : Nat → Prop} {w w' : World} {b : Nat} (h : w.grownBy w' (some b)) (hb : ok b) : Fr ok w w' :=
  ⟨h.os, h.tape, h.output, h.size, fun k hk ho => h.block k hk (fun e => ho (Option.some.inj e ▸ hb))⟩
theorem Fr.grown0 {ok : Nat → Prop} {w w' : World} {row : Option Nat} (h : w.grownBy w' row) (hb : ∀ b, row = some b → ok b) : Fr ok w w' :=
  ⟨h.os, h.tape, h.output, h.size, fun k hk ho => h.block k hk (fun e => ho (hb k e.symm))⟩
theorem Fr.below {B : Nat} {w w' : World} (h : Fr (fun k => B ≤ k) w w') (hB : B ≤ w.heap.size) : Below B w w' :=
  ⟨h.os, h.tape, h.output, h.size, fun k hk => h.block k (by omega) (by show ¬ B ≤ k; omega)⟩
/-- Where every block of w is closed, all of it stands. -/
theorem Fr.below_all {ok : Nat → Prop} {w w' : World} (h : Fr ok w w') (hn : ∀ k, k < w.heap.size → ¬ ok k) : Below w.heap.size w w' :=
  ⟨h.os, h.tape, h.output, h.size, fun k hk => h.block k hk (hn k hk)⟩
theorem Fr.cell {ok : Nat → Prop} {w w' : World} (h : Fr ok w w') {p : Addr} (hp : p.block < w.heap.size) (ho : ¬ ok p.block) : w'.cell? p = w.cell? p := World.cell?_of_block (w := w) (h.block p.block hp ho)
theorem Fr.frozen {ok : Nat → Prop} {w w' : World} (h : Fr ok w w') {p : Addr} (hp : p.block < w.heap.size) (ho : ¬ ok p.block) : w'.frozen? p = w.frozen? p := World.frozen?_of_block (w := w) (h.block p.block hp ho)
theorem Fr.heap {ok : Nat → Prop} {w w' : World} (h : Fr ok w w') {k : Nat} {o : Obj} (hk : w.heap[k]? = some o) (ho : ¬ ok k) : w'.heap[k]? = some o :=
  (h.block k (Array.getElem?_eq_some_iff.1 hk).1 ho).trans hk

theorem head3_set0 (a b c v : Value) (r : Array Value) : (#[a, b, c] ++ r).setIfInBounds 0 v = #[v, b, c] ++ r := by
  rcases r with ⟨l⟩; simp
theorem head3_set1 (a b c v : Value) (r : Array Value) : (#[a, b, c] ++ r).setIfInBounds 1 v = #[a, v, c] ++ r := by
  rcases r with ⟨l⟩; simp
theorem head3_set2 (a b c v : Value) (r : Array Value) : (#[a, b, c] ++ r).setIfInBounds 2 v = #[a, b, v] ++ r := by
  rcases r with ⟨l⟩; simp
theorem head3_get0 (a b c : Value) (r : Array Value) : (#[a, b, c] ++ r)[0]? = some a := by rcases r with ⟨l⟩; simp
theorem head3_get1 (a b c : Value) (r : Array Value) : (#[a, b, c] ++ r)[1]? = some b := by rcases r with ⟨l⟩; simp
theorem head3_get2 (a b c : Value) (r : Array Value) : (#[a, b, c] ++ r)[2]? = some c := by rcases r with ⟨l⟩; simp
/-- Block b: a buffer's three cells, and what stands behind them. -/
def Head (T : TypeId) (rest : Array Value) (b : Nat) (v : Value) (lr : Int) (w : World) : Prop := w.heap[b]? = some (.cells (#[v, .int .i64 0, .int .i8 lr] ++ rest) T (0, 0))
section
variable {T : TypeId} {rest : Array Value} {b : Nat} {v : Value} {lr : Int} {w w' : World}
theorem Head.c0 (h : Head T rest b v lr w) : w.cell? ⟨b, 0, none⟩ = some v := by rw [Lib.cell_of_heap h, head3_get0]
theorem Head.c1 (h : Head T rest b v lr w) : w.cell? ⟨b, 1, none⟩ = some (.int .i64 0) := by rw [Lib.cell_of_heap h, head3_get1]
theorem Head.c2 (h : Head T rest b v lr w) : w.cell? ⟨b, 2, none⟩ = some (.int .i8 lr) := by rw [Lib.cell_of_heap h, head3_get2]
theorem Head.fz (h : Head T rest b v lr w) (i : Nat) : w.frozen? ⟨b, i, none⟩ = false := Lib.frozen_of_heap h i
theorem Head.lt (h : Head T rest b v lr w) : b < w.heap.size := Lib.lt_of_heap h
theorem Head.set0 (h : Head T rest b v lr w) (u : Value) : Head T rest b u lr (w.setCell ⟨b, 0, none⟩ u) := by
  unfold Head; rw [Lib.heap_setCell_same (i := 0) h u, head3_set0]
theorem Head.set1 (h : Head T rest b v lr w) : Head T rest b v lr (w.setCell ⟨b, 1, none⟩ (.int .i64 0)) := by
  unfold Head; rw [Lib.heap_setCell_same (i := 1) h _, head3_set1]
theorem Head.set2 (h : Head T rest b v lr w) (x : Int) : Head T rest b v x (w.setCell ⟨b, 2, none⟩ (.int .i8 x)) := by
  unfold Head; rw [Lib.heap_setCell_same (i := 2) h _, head3_set2]
theorem Head.on (h : Head T rest b v lr w) (hb : w'.heap[b]? = w.heap[b]?) : Head T rest b v lr w' := hb.trans h
end
/-- A buffer that has only been written: it holds the bytes bs; the blocks that it stands on are ok. -/
def BufAt (e T : TypeId) (rest : Array Value) (ok : Nat → Prop) (b : Nat) (bs : List UInt8) (w : World) : Prop :=
  ok b ∧ ((bs = [] ∧ ∃ lr, Head T rest b (.slice none 0 0) lr w) ∨
    ∃ g cap cur lr, Head T rest b (.slice (some ⟨g, 0, none⟩) bs.length cap) lr w ∧ ok g ∧ g ≠ b ∧ w.heap[g]? = some (.cells cur e (0, 0)) ∧ 0 < bs.length ∧ bs.length ≤ cap ∧ cap ≤ maxLen ∧ cur.size = cap ∧ cur.toList.take bs.length = Lib.byteCells bs)
/-- Behind tryGrowByReslice or grow: there is room for n bytes behind the l that are held. -/
def Room (e T : TypeId) (rest : Array Value) (ok : Nat → Prop) (b l n : Nat) (old : List Value) (w : World) : Prop :=
  ∃ g cap cur lr, Head T rest b (.slice (some ⟨g, 0, none⟩) (l + n) cap) lr w ∧ ok g ∧ g ≠ b ∧ w.heap[g]? = some (.cells cur e (0, 0)) ∧ l + n ≤ cap ∧ cap ≤ maxLen ∧ cur.size = cap ∧ cur.toList.take l = old
section
variable {e T : TypeId} {rest : Array Value} {ok ok' : Nat → Prop} {b : Nat} {bs : List UInt8} {w w' : World}
theorem BufAt.fresh (e T : TypeId) (rest : Array Value) (ok : Nat → Prop) (w : World) (h : ok w.heap.size) : BufAt e T rest ok w.heap.size [] (w.alloc (.cells (#[.slice none 0 0, .int .i64 0, .int .i8 0] ++ rest) T)) :=
  ⟨h, .inl ⟨rfl, 0, heap_alloc_new w _⟩⟩
theorem BufAt.ok_ (h : BufAt e T rest ok b bs w) : ok b := h.1
theorem BufAt.lt (h : BufAt e T rest ok b bs w) : b < w.heap.size := by
  rcases h.2 with ⟨_, lr, h⟩ | ⟨_, _, _, lr, h, _⟩
  · exact h.lt
  · exact h.lt
/-- The set of blocks may be made smaller, if only numbers are left out that were not there yet when the buffer was known; or larger. -/
theorem BufAt.imp (h : BufAt e T rest ok b bs w) (hok : ∀ k, k < w.heap.size → ok k → ok' k) : BufAt e T rest ok' b bs w := by
  refine ⟨hok b h.lt h.1, ?_⟩
  rcases h.2 with h | ⟨g, cap, cur, lr, h1, h2, h3, h4, r⟩
  · exact .inl h
  · exact .inr ⟨g, cap, cur, lr, h1, hok g (Lib.lt_of_heap h4) h2, h3, h4, r⟩
theorem BufAt.move (h : BufAt e T rest ok b bs w) (hm : ∀ k, k < w.heap.size → ok k → w'.heap[k]? = w.heap[k]?) : BufAt e T rest ok b bs w' := by
  have hb := h.lt
  refine ⟨h.1, ?_⟩
  rcases h.2 with ⟨h0, lr, h1⟩ | ⟨g, cap, cur, lr, h1, h2, h3, h4, r⟩
  · exact .inl ⟨h0, lr, h1.on (hm b hb h.1)⟩
  · exact .inr ⟨g, cap, cur, lr, h1.on (hm b hb h.1), h2, h3, (hm g (Lib.lt_of_heap h4) h2).trans h4, r⟩
theorem BufAt.below (h : BufAt e T rest ok b bs w) (hb : Below w.heap.size w w') : BufAt e T rest ok b bs w' := h.move fun k hk _ => hb.block k hk
theorem BufAt.alloc (h : BufAt e T rest ok b bs w) (o : Obj) : BufAt e T rest ok b bs (w.alloc o) := h.below ((Below.refl _ _).alloc (Nat.le_refl _) o)
theorem BufAt.drew (h : BufAt e T rest ok b bs w) : BufAt e T rest ok b bs w.drew := h
theorem BufAt.drewN (h : BufAt e T rest ok b bs w) (n : Nat) : BufAt e T rest ok b bs (w.drewN n) := h
theorem BufAt.setCell (h : BufAt e T rest ok b bs w) {p : Addr} (hp : ¬ ok p.block) (v : Value) : BufAt e T rest ok b bs (w.setCell p v) :=
  h.move fun _ _ ho => Below.heap_setCell _ _ _ _ (fun e1 => hp (e1 ▸ ho))
/-- 'b.lastRead = opInvalid'. -/
theorem BufAt.setLast (h : BufAt e T rest ok b bs w) (x : Int) : BufAt e T rest ok b bs (w.setCell ⟨b, 2, none⟩ (.int .i8 x)) := by
  refine ⟨h.1, ?_⟩
  rcases h.2 with ⟨h0, lr, h1⟩ | ⟨g, cap, cur, lr, h1, h2, h3, h4, r⟩
  · exact .inl ⟨h0, x, h1.set2 x⟩
  · exact .inr ⟨g, cap, cur, x, h1.set2 x, h2, h3, by rw [Below.heap_setCell _ _ _ _ h3]; exact h4, r⟩
/-- 'b.buf = b.buf[:l+n]' within the capacity. -/
theorem room_of {g cap n : Nat} {cur : Array Value} {lr : Int} (h1 : Head T rest b (.slice (some ⟨g, 0, none⟩) bs.length cap) lr w) (h2 : ok g) (h3 : g ≠ b) (h4 : w.heap[g]? = some (.cells cur e (0, 0))) (hc : cap ≤ maxLen) (hs : cur.size = cap) (ht : cur.toList.take bs.length = Lib.byteCells bs) (hn : bs.length + n ≤ cap) :
    Room e T rest ok b bs.length n (Lib.byteCells bs) (w.setCell ⟨b, 0, none⟩ (.slice (some ⟨g, 0, none⟩) (bs.length + n) cap)) :=
  ⟨g, cap, cur, lr, h1.set0 _, h2, h3, by rw [Below.heap_setCell _ _ _ _ h3]; exact h4, hn, hc, hs, ht⟩
/-- The last cells are written. -/
theorem Room.written {g cap n : Nat} {cur : Array Value} {lr : Int} {s : List UInt8} (hb : ok b) (h1 : Head T rest b (.slice (some ⟨g, 0, none⟩) (bs.length + n) cap) lr w) (h2 : ok g) (h3 : g ≠ b) (h4 : w.heap[g]? = some (.cells cur e (0, 0))) (hn : bs.length + n ≤ cap) (hc : cap ≤ maxLen) (hs : cur.size = cap)
    (ht : cur.toList.take bs.length = Lib.byteCells bs) (hl : s.length = n) (hn0 : 0 < n) :
    BufAt e T rest ok b (bs ++ s) (w.setRow g (cur.toList.take bs.length ++ Lib.byteCells s ++ cur.toList.drop (bs.length + n)).toArray) := by
  have hlb : (Lib.byteCells bs).length = bs.length := Lib.byteCells_length _
  have hls : (Lib.byteCells s).length = n := by rw [Lib.byteCells_length, hl]
  refine ⟨hb, .inr ⟨g, cap, (cur.toList.take bs.length ++ Lib.byteCells s ++ cur.toList.drop (bs.length + n)).toArray, lr, ?_, h2, h3, setRow_heap w g cur _ e (0, 0) h4, ?_, ?_, hc, ?_, ?_⟩⟩
  · rw [List.length_append, hl]
    exact h1.on (setRow_other _ _ _ _ (Ne.symm h3))
  · rw [List.length_append, hl]; omega
  · rw [List.length_append, hl]; omega
  · have hcl : cur.toList.length = cur.size := Array.length_toList
    rw [List.size_toArray, ht, List.length_append, List.length_append, hlb, hls, List.length_drop, hcl]; omega
  · rw [List.length_append, hl, List.toList_toArray, ht, List.take_append_of_le_length (by rw [List.length_append, hlb, hls]; exact Nat.le_refl _), List.take_of_length_le (by rw [List.length_append, hlb, hls]; exact Nat.le_refl _), Lib.byteCells_append]
theorem Room.poked {g cap : Nat} {cur : Array Value} {lr : Int} (c : UInt8) (hb : ok b) (h1 : Head T rest b (.slice (some ⟨g, 0, none⟩) (bs.length + 1) cap) lr w) (h2 : ok g) (h3 : g ≠ b) (h4 : w.heap[g]? = some (.cells cur e (0, 0))) (hn : bs.length + 1 ≤ cap) (hc : cap ≤ maxLen) (hs : cur.size = cap)
    (ht : cur.toList.take bs.length = Lib.byteCells bs) :
    BufAt e T rest ok b (bs ++ [c]) (w.setCell ⟨g, bs.length, none⟩ (.int .u8 c.toNat)) := by
  have hcl : cur.toList.length = cur.size := Array.length_toList
  have hll : bs.length < cur.toList.length := by omega
  refine ⟨hb, .inr ⟨g, cap, cur.setIfInBounds bs.length (.int .u8 c.toNat), lr, ?_, h2, h3, Lib.heap_setCell_same h4 _, ?_, ?_, hc, ?_, ?_⟩⟩
  · rw [List.length_append, List.length_singleton]
    exact h1.on (Below.heap_setCell _ _ _ _ (Ne.symm h3))
  · simp
  · simpa using hn
  · simpa using hs
  · rw [List.length_append, List.length_singleton, Array.toList_setIfInBounds, List.take_add_one, List.take_set_of_le (Nat.le_refl _), List.getElem?_set_self hll, ht, Lib.byteCells_append]; rfl
theorem grownBy_setRow (w : World) (g : Nat) (r : Array Value) : w.grownBy (w.setRow g r) (some g) := ⟨rfl, rfl, rfl, by simp, fun k _ hk => setRow_other _ _ _ _ (fun e1 => hk (by rw [e1]))⟩
end
end Go.Proofs.YtkcdckcckpgliaaDoor
