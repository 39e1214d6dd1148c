/- Which objects are sound: plain functions; pobj.bare, fix.Fits, pobj.distinct as the machine runs them. -/
import Derived.Test.YtkcdckcckpgliaaDoorRd
import Derived.Test.YtkcdckcckpgliaaDoorName
import Derived.Lib.SlicesS
namespace Go.Proofs.YtkcdckcckpgliaaDoor
open Go.RowKit Go.Shelf

def namedB (s : ByteArray) : Bool := !s.toList.isEmpty && decide (s.size ≤ 127) && decide (Lib.indexByte s.data.toList 0 < 0)
def bareB (o : PO) (n t k l d : Bool) : Bool := (n || o.n == 0) && (t || o.t.toList.isEmpty) && (k || (o.ks.length : Int) == 0) && (l || (o.l.length : Int) == 0) && (d || (o.d.length : Int) == 0)
def fitsB (n : Int) : Bool := decide (-2147483648 ≤ n) && decide (n ≤ 2147483647)
/-- Are all of them names' texts, and each other than those ahead? -/
def distinctB : List ByteArray → List ByteArray → Bool
  | _, [] => true
  | pre, k :: r => namedB k && !Lib.containsS pre k && distinctB (pre ++ [k]) r
def allB (f : PO → Bool) (l : List PO) : Bool := decide (l.length ≤ 65535) && l.all (fun x => f x && !(x.k == 9))
def lengthName : ByteArray := ⟨#[76, 101, 110, 103, 116, 104]⟩
def sndK (deep : Bool) (f : PO → Bool) (o : PO) : Bool :=
  if o.k == 0 then bareB o false false false false false
  else if o.k == 1 then bareB o true false false false false && (o.n == 0 || o.n == 1)
  else if o.k == 2 then bareB o true false false false false && fitsB o.n
  else if o.k == 3 then bareB o true false false false false && fitsB o.n
  else if o.k == 4 then bareB o false true false false false && namedB o.t
  else if o.k == 5 then bareB o false true false false false && decide (o.t.size ≤ 65535)
  else if o.k == 8 then bareB o true false false false false && decide (1 ≤ o.n) && decide (o.n ≤ 4096)
  else if o.k == 6 then deep && bareB o false false false true false && allB f o.l
  else if o.k == 7 then deep && bareB o false false true true false && ((o.ks.length : Int) == o.l.length) && distinctB [] o.ks && allB f o.l
  else if o.k == 9 then deep && bareB o false false true true true && ((o.ks.length : Int) == o.l.length) && distinctB [] o.ks && !Lib.containsS o.ks lengthName && decide (o.d.length ≤ 1048576) && allB f o.l
  else false
/-- Sound, so deep at most (pobj's own function: a stream only at the top). -/
def sndB : Nat → PO → Bool
  | 0, o => sndK false (fun _ => false) o
  | d + 1, o => sndK true (sndB d) o

set_option maxHeartbeats 400000 in
set_option maxRecDepth 100000 in
theorem named_calls (s : ByteArray) (w : World) : Calls Tryd.prog 40 #[.string s] w fun e w' => e = .returned (.bool (namedB s)) ∧ w = w' := by
  go_enter Tryd.func40, Tryd.ntmps40
  go_wp2_with (go_at_call 52; refine (indexByte_any _ 0 _).mono ?_; rintro e w' ⟨rfl, rfl⟩)
  · go_ret; rename_i h; exact ⟨by simp [namedB, h], rfl⟩
  · go_ret; rename_i h h2; exact ⟨by have h3 : s.size ≤ 127 := by omega
                                     simp [namedB, h3], rfl⟩
  · go_ret; rename_i h h2; exact ⟨by have h3 : ¬ s.size ≤ 127 := by omega
                                     simp [namedB, h3], rfl⟩

set_option maxHeartbeats 400000 in
set_option maxRecDepth 100000 in
theorem Fits_calls (n : Int) (w : World) : Calls Tryd.prog 39 #[.int .i64 n] w fun e w' => e = .returned (.bool (fitsB n)) ∧ w = w' := by
  go_enter Tryd.func39, Tryd.ntmps39
  go_wp2
  all_goals go_ret
  all_goals (
    refine ⟨ret_bool ?_, rfl⟩
    rw [Bool.eq_iff_iff]
    simp only [fitsB, Bool.and_eq_true, decide_eq_true_eq, Bool.false_eq_true, false_iff]
    omega)

set_option maxHeartbeats 3200000 in
set_option maxRecDepth 100000 in
theorem bare_calls (k n : Int) (t : ByteArray) (Ak Al Ad : Option Addr) (ck cl cd : Nat) (ks : List ByteArray) (l : List PO) (d : List UInt8) (f1 f2 f3 f4 f5 : Bool) (w : World) :
    Calls Tryd.prog 38 #[.agg #[.int .i64 k, .int .i64 n, .string t, .slice Ak ks.length ck, .slice Al l.length cl, .slice Ad d.length cd], .bool f1, .bool f2, .bool f3, .bool f4, .bool f5] w fun e w' => e = .returned (.bool (bareB ⟨k, n, t, ks, l, d⟩ f1 f2 f3 f4 f5)) ∧ Below w.heap.size w w' := by
  generalize hr : bareB ⟨k, n, t, ks, l, d⟩ f1 f2 f3 f4 f5 = r
  have HR := Lib.hid hr
  clear hr
  cases f1 <;> cases f2 <;> cases f3 <;> cases f4 <;> cases f5
  all_goals (
    go_enter Tryd.func38, Tryd.ntmps38
    go_wp2)
  all_goals go_ret
  all_goals (
    refine ⟨ret_bool ?_, below_alloc _ _⟩
    rw [← HR.out]
    simp [bareB, *])
end Go.Proofs.YtkcdckcckpgliaaDoor
