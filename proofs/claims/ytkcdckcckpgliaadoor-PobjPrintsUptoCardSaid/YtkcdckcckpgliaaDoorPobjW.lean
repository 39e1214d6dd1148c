/- What pobj writes for a name and a string: plain lists of bytes. -/
import Derived.Test.YtkcdckcckpgliaaDoorBufW
import Derived.Lib.Index
namespace Go.Proofs.YtkcdckcckpgliaaDoor
open Go.RowKit

/-- ok, without block r. -/
def but (ok : Nat → Prop) (r : Nat) (k : Nat) : Prop := ok k ∧ k ≠ r

def hexAt (n : Nat) (h : n < 16) : UInt8 := (⟨#[48, 49, 50, 51, 52, 53, 54, 55, 56, 57, 97, 98, 99, 100, 101, 102]⟩ : ByteArray)[n]'h
def hexD (n : Nat) : UInt8 := UInt8.ofNat (if n < 10 then 48 + n else 87 + n)
theorem hexAt_eq : ∀ (n : Nat) (h : n < 16), hexAt n h = hexD n := by decide
def escN (c : UInt8) : Bool := decide (c.toNat < 33) || decide (126 < c.toNat) || decide (0 ≤ Lib.indexByte [40, 41, 60, 62, 91, 93, 123, 125, 47, 37, 35] c)
def nameByte (c : UInt8) : List UInt8 := if escN c then [35, hexD (c.toNat / 16), hexD (c.toNat % 16)] else [c]
theorem nameByte_esc (c : UInt8) (he : escN c = true) (h1 : c.toNat / 16 < 16) (h2 : c.toNat % 16 < 16) : nameByte c = [35, hexAt (c.toNat / 16) h1, hexAt (c.toNat % 16) h2] := by
  rw [nameByte, he, if_pos rfl, hexAt_eq, hexAt_eq]
theorem nameByte_plain (c : UInt8) (he : escN c = false) : nameByte c = [c] := by
  rw [nameByte, he]; rfl
/-- A name's bytes. -/
def nameL (s : List UInt8) : List UInt8 := 47 :: s.flatMap nameByte
theorem nameByte_le (c : UInt8) : (nameByte c).length ≤ 3 := by unfold nameByte; split <;> simp
theorem flat_le (f : UInt8 → List UInt8) (n : Nat) (hf : ∀ c, (f c).length ≤ n) : ∀ s : List UInt8, (s.flatMap f).length ≤ n * s.length
  | [] => by simp
  | c :: r => by
    rw [List.flatMap_cons, List.length_append, List.length_cons]
    have h1 := hf c
    have h2 := flat_le f n hf r
    rw [Nat.mul_add, Nat.mul_one]
    omega
theorem nameL_le (s : List UInt8) : (nameL s).length ≤ 3 * s.length + 1 := by
  have := flat_le nameByte 3 nameByte_le s
  unfold nameL
  simp only [List.length_cons]
  omega
def escT (c : UInt8) : Bool := decide (c.toNat = 40) || decide (c.toNat = 41) || decide (c.toNat = 92)
def textByte (c : UInt8) : List UInt8 :=
  if escT c then [92, c] else if decide (c.toNat < 32) || decide (126 < c.toNat) then [92, UInt8.ofNat (48 + c.toNat / 64), UInt8.ofNat (48 + c.toNat / 8 % 8), UInt8.ofNat (48 + c.toNat % 8)] else [c]
/-- A string's bytes. -/
def textL (s : List UInt8) : List UInt8 := 40 :: s.flatMap textByte ++ [41]
theorem textByte_le (c : UInt8) : (textByte c).length ≤ 4 := by unfold textByte; repeat' split <;> simp
theorem textL_le (s : List UInt8) : (textL s).length ≤ 4 * s.length + 2 := by
  have := flat_le textByte 4 textByte_le s
  unfold textL
  simp only [List.length_cons, List.length_append, List.length_nil]
  omega
theorem flat_take (f : UInt8 → List UInt8) (s : List UInt8) (k : Nat) (h : k < s.length) : (s.take (k + 1)).flatMap f = (s.take k).flatMap f ++ f s[k] := by
  rw [List.take_add_one, List.getElem?_eq_getElem h, List.flatMap_append]
  congr 1
  simp
theorem flat_take_le (f : UInt8 → List UInt8) (n : Nat) (hf : ∀ c, (f c).length ≤ n) (s : List UInt8) (k : Nat) (h : k ≤ s.length) : ((s.take k).flatMap f).length ≤ n * k := by
  have := flat_le f n hf (s.take k)
  rwa [List.length_take, Nat.min_eq_left h] at this
theorem octal_cells (c : UInt8) : Lib.byteCells [92, UInt8.ofNat (48 + c.toNat / 64), UInt8.ofNat (48 + c.toNat / 8 % 8), UInt8.ofNat (48 + c.toNat % 8)] = [.int .u8 92, .int .u8 (48 + (c.toNat : Int) / 64), .int .u8 (48 + (c.toNat : Int) / 8 % 8), .int .u8 (48 + (c.toNat : Int) % 8)] := by
  have hc := c.toNat_lt
  have h : ∀ n, n < 256 → (((UInt8.ofNat n).toNat : Nat) : Int) = (n : Int) := fun n hn => by
    rw [UInt8.toNat_ofNat', Nat.mod_eq_of_lt hn]
  simp only [Lib.byteCells, List.map_cons, List.map_nil]
  rw [h _ (by omega), h _ (by omega), h _ (by omega)]
  rfl
theorem textByte_octal (c : UInt8) (he : escT c = false) (h : c.toNat < 32 ∨ 126 < c.toNat) : textByte c = [92, UInt8.ofNat (48 + c.toNat / 64), UInt8.ofNat (48 + c.toNat / 8 % 8), UInt8.ofNat (48 + c.toNat % 8)] := by
  rw [textByte, he, if_neg (by decide), if_pos (by simpa using h)]
theorem textByte_plain (c : UInt8) (he : escT c = false) (h : 32 ≤ c.toNat) (h2 : c.toNat ≤ 126) : textByte c = [c] := by
  rw [textByte, he, if_neg (by decide), if_neg (by simp; omega)]
end Go.Proofs.YtkcdckcckpgliaaDoor
