/- An object of a file as plain data (PO), and how one reads in memory. -/
import Derived.Test.YtkcdckcckpgliaaDoorBufIO2
namespace Go.Proofs.YtkcdckcckpgliaaDoor
open Go.RowKit

structure PO where
  k : Int
  n : Int
  t : ByteArray
  ks : List ByteArray
  l : List PO
  d : List UInt8

/-- A row of strings. -/
def StrsAt (w : World) (A : Option Addr) (s : List ByteArray) : Prop := s = [] ∨ ∃ b off, A = some ⟨b, off, none⟩ ∧ ∀ i (h : i < s.length), w.cell? ⟨b, off + i, none⟩ = some (.string s[i])
/-- A row of values of 'size' cells each: the cells of each, by number. -/
def RowAt (w : World) (A : Option Addr) (n size : Nat) (cs : Nat → Array Value) : Prop := n = 0 ∨ ∃ b off, A = some ⟨b, off, none⟩ ∧ ∀ i, i < n → ∀ j v, (cs i)[j]? = some v → w.cell? ⟨b, off + i * size + j, none⟩ = some v

/-- The object o lies in memory as these six cells, its rows wherever they lie. -/
inductive ORd (w : World) : PO → Array Value → Prop where
  | mk {k n : Int} {t : ByteArray} {ks : List ByteArray} {l : List PO} {d : List UInt8} {Ak Al Ad : Option Addr} {ck cl cd : Nat} (cs : Nat → Array Value)
    (hks : StrsAt w Ak ks) (hkc : ks.length ≤ ck) (hkm : ck ≤ 140737488355328)
    (hl : ∀ i (h : i < l.length), ORd w l[i] (cs i)) (hc : RowAt w Al l.length 6 cs) (hlc : l.length ≤ cl) (hlm : cl ≤ 140737488355328)
    (hd : BytesAt w Ad d) (hdc : d.length ≤ cd) (hdm : cd ≤ 140737488355328) (ht : t.size ≤ 140737488355328) (hkt : ∀ s, s ∈ ks → s.size ≤ 140737488355328) :
    ORd w ⟨k, n, t, ks, l, d⟩ #[.int .i64 k, .int .i64 n, .string t, .slice Ak ks.length ck, .slice Al l.length cl, .slice Ad d.length cd]

theorem StrsAt.keep {w w' : World} {A : Option Addr} {s : List ByteArray} (h : StrsAt w A s) (hb : Below w.heap.size w w') : StrsAt w' A s := by
  rcases h with h | ⟨b, off, ha, hc⟩
  · exact .inl h
  · exact .inr ⟨b, off, ha, fun i hi => (hb.cell (World.block_lt_of_cell? w _ (hc i hi))).trans (hc i hi)⟩
theorem RowAt.keep {w w' : World} {A : Option Addr} {n size : Nat} {cs : Nat → Array Value} (h : RowAt w A n size cs) (hb : Below w.heap.size w w') : RowAt w' A n size cs := by
  rcases h with h | ⟨b, off, ha, hc⟩
  · exact .inl h
  · exact .inr ⟨b, off, ha, fun i hi j v hj => (hb.cell (World.block_lt_of_cell? w _ (hc i hi j v hj))).trans (hc i hi j v hj)⟩
theorem BytesAt.keep {w w' : World} {A : Option Addr} {s : List UInt8} (h : BytesAt w A s) (hb : Below w.heap.size w w') : BytesAt w' A s := fun j v hj => by
  obtain ⟨a, ha, hc⟩ := h j v hj
  exact ⟨a, ha, (hb.cell (World.block_lt_of_cell? w _ hc)).trans hc⟩
theorem ORd.keep {w w' : World} {o : PO} {v : Array Value} (h : ORd w o v) (hb : Below w.heap.size w w') : ORd w' o v := by
  induction h with
  | mk cs hks hkc hkm hl hc hlc hlm hd hdc hdm ht hkt ih => exact .mk cs (hks.keep hb) hkc hkm ih (hc.keep hb) hlc hlm (hd.keep hb) hdc hdm ht hkt
/-- A box of its own on top: all that was there stands. -/
theorem below_alloc (w : World) (o : Obj) : Below w.heap.size w (w.alloc o) := (Below.refl _ _).alloc (Nat.le_refl _) o
/-- What has been kept since w0, behind a call that keeps all but ok blocks. -/
theorem keeps {w0 w w' : World} {ok : Nat → Prop} (h0 : Below w0.heap.size w0 w) (h : Fr ok w w') (hok : ∀ k, ok k → w0.heap.size ≤ k) : Below w0.heap.size w0 w' :=
  h0.trans ⟨h.os, h.tape, h.output, h.size, fun k hk => h.block k (by have := h0.size; omega) (fun ho => by have := hok k ho; omega)⟩
theorem bcell {W w1 : World} (hb : Below W.heap.size W w1) : (∀ b o, b < W.heap.size → w1.cell? ⟨b, o, none⟩ = W.cell? ⟨b, o, none⟩) ∧ (∀ b o, b < W.heap.size → w1.frozen? ⟨b, o, none⟩ = W.frozen? ⟨b, o, none⟩) :=
  ⟨fun b o h => hb.cell (p := ⟨b, o, none⟩) h, fun b o h => hb.frozen (p := ⟨b, o, none⟩) h⟩
theorem ret_bool {a b : Bool} (h : a = b) : Ending.returned (.bool a) = .returned (.bool b) := by rw [h]
theorem ret_str {a b : ByteArray} (h : a = b) : Ending.returned (.string a) = .returned (.string b) := by rw [h]
theorem ret_int {k : IntKind} {a b : Int} (h : a = b) : Ending.returned (.int k a) = .returned (.int k b) := by rw [h]
/-- One element of a row, laid open. -/
theorem RowAt.elem {w : World} {A : Option Addr} {n size : Nat} {cs : Nat → Array Value} (h : RowAt w A n size cs) (i : Nat) (hi : i < n) :
    ∃ b off, A = some ⟨b, off, none⟩ ∧ ∀ j v, (cs i)[j]? = some v → w.cell? ⟨b, off + i * size + j, none⟩ = some v := by
  rcases h with h | ⟨b, off, ha, hc⟩
  · omega
  · exact ⟨b, off, ha, hc i hi⟩
theorem StrsAt.elem {w : World} {A : Option Addr} {s : List ByteArray} (h : StrsAt w A s) (i : Nat) (hi : i < s.length) :
    ∃ b off, A = some ⟨b, off, none⟩ ∧ w.cell? ⟨b, off + i, none⟩ = some (.string s[i]) := by
  rcases h with h | ⟨b, off, ha, hc⟩
  · rw [h] at hi; simp at hi
  · exact ⟨b, off, ha, hc i hi⟩
end Go.Proofs.YtkcdckcckpgliaaDoor
