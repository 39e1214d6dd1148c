/-
  Lemmas, in their order: Pages as plain data, and what a page is as a content stream: plain lists of bytes. · How a page lies in memory. · The reference's strings as bytes: Text. · pobj.name: a name's bytes, behind what a buffer holds. · pobj.text: a string's bytes, behind what a buffer holds. · Itoa; dec.Print: the bytes of a number. · The writer of a stream in memory: a buffer with what is so behind it. · The writer's lines as the machine writes them: line, digit, dash, path. · The writer's digits and paths as the machine writes them. · The writer's gaps and colours as the machine writes them. · The writer's colours as the machine writes them. · Struct and array values compared, as the machine does it. · The writer's filled and stroked as the machine runs them.
-/
import Derived.Laws.AppendOwn
import Derived.Lib.ConvBytes
import Derived.Laws.BitsLemmas
import Derived.Deep.LoopGhost
import Derived.Deep.RegionWith
import Derived.BigQuiet
import Derived.Deep.QuietTactic
import Derived.Laws.StructEq
import Derived.Test.YtdkgfgmmmjpkgaaGreatDoorProg
import Derived.ChangeKeysEq
import Derived.Test.YtdkgfgmmmjpkgaaGreatDoorM2

namespace Go.Proofs.YtdkgfgmmmjpkgaaGreatDoor
open Go.RowKit

structure SegP where
  k : Int
  x0 : Int
  y0 : Int
  x1 : Int
  y1 : Int
  x2 : Int
  y2 : Int
structure ColP where
  sp : Int
  p0 : Int
  p1 : Int
  p2 : Int
  p3 : Int
structure PenP where
  wd : Int
  cap : Int
  join : Int
  miter : Int
  dash : List Int
  phase : Int
structure ClipP where
  path : List SegP
  eo : Bool
structure ItemP where
  k : Int
  path : List SegP
  col : ColP
  clips : List ClipP
  pen : PenP
  font : Int
  m0 : Int
  m1 : Int
  m2 : Int
  m3 : Int
  m4 : Int
  m5 : Int
  bytes : List UInt8
structure PageP where
  w : Int
  h : Int
  items : List ItemP

/-- Numbers, each with a blank behind it. -/
def numsB (l : List Int) : List UInt8 := l.flatMap fun n => fixL n ++ [32]
def lineB (l : List Int) (op : List UInt8) : List UInt8 := numsB l ++ (op ++ [10])
def segB (s : SegP) : List UInt8 :=
  if s.k == 1 then lineB [s.x0, s.y0] [109]
  else if s.k == 2 then lineB [s.x0, s.y0] [108]
  else if s.k == 3 then lineB [s.x0, s.y0, s.x1, s.y1, s.x2, s.y2] [99]
  else lineB [] [104]
def pathB (l : List SegP) : List UInt8 := l.flatMap segB
def eqSeg (a b : SegP) : Bool := a.k == b.k && (a.x0 == b.x0 && (a.y0 == b.y0 && (a.x1 == b.x1 && (a.y1 == b.y1 && (a.x2 == b.x2 && a.y2 == b.y2)))))
def eqPath : List SegP → List SegP → Bool
  | [], [] => true
  | x :: a, y :: b => eqSeg x y && eqPath a b
  | _, _ => false
def eqClip (a b : ClipP) : Bool := (a.eo == b.eo) && eqPath a.path b.path
def eqClips : List ClipP → List ClipP → Bool
  | [], [] => true
  | x :: a, y :: b => eqClip x y && eqClips a b
  | _, _ => false
def eqInts : List Int → List Int → Bool
  | [], [] => true
  | x :: a, y :: b => (x == y) && eqInts a b
  | _, _ => false
def eqCol (a b : ColP) : Bool := a.sp == b.sp && (a.p0 == b.p0 && (a.p1 == b.p1 && (a.p2 == b.p2 && a.p3 == b.p3)))
def clipB (c : ClipP) : List UInt8 := pathB c.path ++ (if c.eo then [87, 42, 32, 110, 10] else [87, 32, 110, 10])
def colParts (c : ColP) : List Int := [c.p0, c.p1, c.p2, c.p3].take c.sp.toNat
/-- A colour's line: of what fills, or (big) of lines. -/
def colB (c : ColP) (big : Bool) : List UInt8 :=
  lineB (colParts c) (if c.sp == 3 then (if big then [82, 71] else [114, 103]) else if c.sp == 4 then (if big then [75] else [107]) else (if big then [71] else [103]))
def dashItems : Bool → List Int → List UInt8
  | _, [] => []
  | first, n :: r => (if first then [] else [32]) ++ (fixL n ++ dashItems false r)
def dashB (p : PenP) : List UInt8 := [91] ++ dashItems true p.dash ++ [93, 32] ++ lineB [p.phase] [100]
def digB (n : Int) (op : UInt8) : List UInt8 := Lib.itoa n ++ [32, op, 10]
def penB (o p : PenP) : List UInt8 :=
  (if p.wd != o.wd then lineB [p.wd] [119] else []) ++ ((if p.cap != o.cap then digB p.cap 74 else []) ++ ((if p.join != o.join then digB p.join 106 else []) ++ ((if p.miter != o.miter then lineB [p.miter] [77] else []) ++ (if p.phase != o.phase || !eqInts p.dash o.dash then dashB p else []))))
/-- What is so in a stream. -/
structure SoP where
  fill : ColP
  stroke : ColP
  pen : PenP
structure StP where
  so : SoP
  outer : SoP
  clips : List ClipP
def badB (st : StP) (new : List ClipP) : Bool := decide (new.length < st.clips.length) || !eqClips st.clips (new.take st.clips.length)
def boundN (st : StP) (new : List ClipP) : Nat := if badB st new then 0 else st.clips.length
def boundSo (st : StP) (new : List ClipP) : SoP := if badB st new then st.outer else st.so
def boundOpen (st : StP) (new : List ClipP) : Bool := boundN st new == 0 && decide (0 < new.length)
def boundOuter (st : StP) (new : List ClipP) : SoP := if boundOpen st new then boundSo st new else st.outer
def boundB (st : StP) (new : List ClipP) : List UInt8 :=
  (if badB st new then [81, 10] else []) ++ ((if boundOpen st new then [113, 10] else []) ++ (new.drop (boundN st new)).flatMap clipB)
def boundSt (st : StP) (new : List ClipP) : StP := ⟨boundSo st new, boundOuter st new, new⟩
def textItemB (it : ItemP) : List UInt8 :=
  [66, 84, 10, 47, 70] ++ Lib.itoa it.font ++ [32, 49, 32, 84, 102, 10] ++ lineB [it.m0, it.m1, it.m2, it.m3, it.m4, it.m5] [84, 109] ++ textL it.bytes ++ [32, 84, 106, 10, 69, 84, 10]
/-- One item: its bytes behind the clips', and what is so behind it. -/
def paintB (so : SoP) (it : ItemP) : List UInt8 :=
  if it.k == 3 then (if eqCol it.col so.stroke then [] else colB it.col true) ++ (penB so.pen it.pen ++ (pathB it.path ++ [83, 10]))
  else (if eqCol it.col so.fill then [] else colB it.col false) ++ (if it.k == 4 then textItemB it else pathB it.path ++ (if it.k == 1 then [102, 10] else [102, 42, 10]))
def paintSo (so : SoP) (it : ItemP) : SoP :=
  if it.k == 3 then ⟨so.fill, it.col, it.pen⟩ else ⟨it.col, so.stroke, so.pen⟩
def itemB (st : StP) (it : ItemP) : List UInt8 := boundB st it.clips ++ paintB (boundSo st it.clips) it
def itemSt (st : StP) (it : ItemP) : StP := ⟨paintSo (boundSo st it.clips) it, boundOuter st it.clips, it.clips⟩
def black : ColP := ⟨1, 0, 0, 0, 0⟩
def pen0 : PenP := ⟨65536, 0, 0, 655360, [], 0⟩
def so0 : SoP := ⟨black, black, pen0⟩
def st0 : StP := ⟨so0, so0, []⟩
/-- The items' bytes behind what stands; none where that grows too large. -/
def runB : List UInt8 → StP → List ItemP → Option (List UInt8 × StP)
  | acc, st, [] => some (acc, st)
  | acc, st, it :: r => if 1048576 < (acc ++ itemB st it).length then none else runB (acc ++ itemB st it) (itemSt st it) r
def contentB (items : List ItemP) : Option (List UInt8) :=
  match runB [] st0 items with
  | none => none
  | some (acc, st) => if 1048576 < (acc ++ (if st.clips.isEmpty then [] else [81, 10])).length then none else some (acc ++ (if st.clips.isEmpty then [] else [81, 10]))
/-- The fonts that items name. -/
def fontsB (items : List ItemP) : List Int := (items.filter fun it => it.k == 4).map ItemP.font
end Go.Proofs.YtdkgfgmmmjpkgaaGreatDoor

namespace Go.Proofs.YtdkgfgmmmjpkgaaGreatDoor
open Go.RowKit Go.Shelf

def segC (s : SegP) : Array Value := #[.int .i64 s.k, .int .i64 s.x0, .int .i64 s.y0, .int .i64 s.x1, .int .i64 s.y1, .int .i64 s.x2, .int .i64 s.y2]
instance : Inhabited SegP := ⟨⟨0, 0, 0, 0, 0, 0, 0⟩⟩
def PathAt (w : World) (A : Option Addr) (l : List SegP) : Prop := RowAt w A l.length 7 (fun i => segC (l.getD i default))
def IntsAt (w : World) (A : Option Addr) (l : List Int) : Prop := RowAt w A l.length 1 (fun i => #[.int .i64 (l.getD i 0)])
/-- A clip's two cells. -/
def ClipRd (w : World) (c : ClipP) (v : Array Value) : Prop :=
  ∃ A cap, v = #[.slice A c.path.length cap, .bool c.eo] ∧ PathAt w A c.path ∧ c.path.length ≤ cap ∧ cap ≤ maxLen
def ClipsAt (w : World) (A : Option Addr) (l : List ClipP) : Prop :=
  ∃ cs, RowAt w A l.length 2 cs ∧ ∀ i (h : i < l.length), ClipRd w l[i] (cs i)
/-- An item's twenty-two cells. -/
def ItemRd (w : World) (it : ItemP) (v : Array Value) : Prop :=
  ∃ Ap cp Ac cc Ad cd Ab cb, v = #[.int .i64 it.k, .slice Ap it.path.length cp, .int .i64 it.col.sp, .int .i64 it.col.p0, .int .i64 it.col.p1, .int .i64 it.col.p2, .int .i64 it.col.p3, .slice Ac it.clips.length cc,
      .int .i64 it.pen.wd, .int .i64 it.pen.cap, .int .i64 it.pen.join, .int .i64 it.pen.miter, .slice Ad it.pen.dash.length cd, .int .i64 it.pen.phase, .int .i64 it.font, .int .i64 it.m0, .int .i64 it.m1, .int .i64 it.m2, .int .i64 it.m3, .int .i64 it.m4, .int .i64 it.m5, .slice Ab it.bytes.length cb] ∧
    (PathAt w Ap it.path ∧ it.path.length ≤ cp ∧ cp ≤ maxLen) ∧ (ClipsAt w Ac it.clips ∧ it.clips.length ≤ cc ∧ cc ≤ maxLen) ∧ (IntsAt w Ad it.pen.dash ∧ it.pen.dash.length ≤ cd ∧ cd ≤ maxLen) ∧ (BytesAt w Ab it.bytes ∧ it.bytes.length ≤ cb ∧ cb ≤ maxLen)
def ItemsAt (w : World) (A : Option Addr) (l : List ItemP) : Prop :=
  ∃ cs, RowAt w A l.length 22 cs ∧ ∀ i (h : i < l.length), ItemRd w l[i] (cs i)
def PageRd (w : World) (p : PageP) (v : Array Value) : Prop :=
  ∃ A c, v = #[.int .i64 p.w, .int .i64 p.h, .slice A p.items.length c] ∧ ItemsAt w A p.items ∧ p.items.length ≤ c ∧ c ≤ maxLen

theorem PathAt.keep {w w' : World} {A : Option Addr} {l : List SegP} (h : PathAt w A l) (hb : Below w.heap.size w w') : PathAt w' A l := RowAt.keep h hb
theorem IntsAt.keep {w w' : World} {A : Option Addr} {l : List Int} (h : IntsAt w A l) (hb : Below w.heap.size w w') : IntsAt w' A l := RowAt.keep h hb
theorem ClipRd.keep {w w' : World} {c : ClipP} {v : Array Value} (h : ClipRd w c v) (hb : Below w.heap.size w w') : ClipRd w' c v := by
  obtain ⟨A, cap, hv, hp, h1, h2⟩ := h
  exact ⟨A, cap, hv, hp.keep hb, h1, h2⟩
theorem ClipsAt.keep {w w' : World} {A : Option Addr} {l : List ClipP} (h : ClipsAt w A l) (hb : Below w.heap.size w w') : ClipsAt w' A l := by
  obtain ⟨cs, h1, h2⟩ := h
  exact ⟨cs, h1.keep hb, fun i hi => (h2 i hi).keep hb⟩
theorem ItemRd.keep {w w' : World} {it : ItemP} {v : Array Value} (h : ItemRd w it v) (hb : Below w.heap.size w w') : ItemRd w' it v := by
  obtain ⟨Ap, cp, Ac, cc, Ad, cd, Ab, cb, hv, ⟨h1, h2, h3⟩, ⟨h4, h5, h6⟩, ⟨h7, h8, h9⟩, ⟨h10, h11, h12⟩⟩ := h
  exact ⟨Ap, cp, Ac, cc, Ad, cd, Ab, cb, hv, ⟨h1.keep hb, h2, h3⟩, ⟨h4.keep hb, h5, h6⟩, ⟨h7.keep hb, h8, h9⟩, ⟨h10.keep hb, h11, h12⟩⟩
theorem ItemsAt.keep {w w' : World} {A : Option Addr} {l : List ItemP} (h : ItemsAt w A l) (hb : Below w.heap.size w w') : ItemsAt w' A l := by
  obtain ⟨cs, h1, h2⟩ := h
  exact ⟨cs, h1.keep hb, fun i hi => (h2 i hi).keep hb⟩
theorem PageRd.keep {w w' : World} {p : PageP} {v : Array Value} (h : PageRd w p v) (hb : Below w.heap.size w w') : PageRd w' p v := by
  obtain ⟨A, c, hv, h1, h2, h3⟩ := h
  exact ⟨A, c, hv, h1.keep hb, h2, h3⟩
theorem PathAt.elem {w : World} {A : Option Addr} {l : List SegP} (h : PathAt w A l) (i : Nat) (hi : i < l.length) :
    ∃ b off, A = some ⟨b, off, none⟩ ∧ ∀ j v, (segC l[i])[j]? = some v → w.cell? ⟨b, off + i * 7 + j, none⟩ = some v := by
  have := RowAt.elem h i hi
  simpa only [List.getD_eq_getElem?_getD, List.getElem?_eq_getElem hi, Option.getD_some] using this
theorem IntsAt.elem {w : World} {A : Option Addr} {l : List Int} (h : IntsAt w A l) (i : Nat) (hi : i < l.length) :
    ∃ b off, A = some ⟨b, off, none⟩ ∧ w.cell? ⟨b, off + i, none⟩ = some (.int .i64 l[i]) := by
  obtain ⟨b, off, hA, hc⟩ := RowAt.elem h i hi
  refine ⟨b, off, hA, ?_⟩
  have := hc 0 (.int .i64 l[i]) (by simp [List.getD_eq_getElem?_getD, List.getElem?_eq_getElem hi])
  simpa using this
theorem ClipsAt.elem {w : World} {A : Option Addr} {l : List ClipP} (h : ClipsAt w A l) (i : Nat) (hi : i < l.length) :
    ∃ b off Ap cap, A = some ⟨b, off, none⟩ ∧ w.cell? ⟨b, off + i * 2, none⟩ = some (.slice Ap l[i].path.length cap) ∧ w.cell? ⟨b, off + i * 2 + 1, none⟩ = some (.bool l[i].eo) ∧ PathAt w Ap l[i].path ∧ l[i].path.length ≤ cap ∧ cap ≤ maxLen := by
  obtain ⟨cs, h1, h2⟩ := h
  obtain ⟨b, off, hA, hc⟩ := RowAt.elem h1 i hi
  obtain ⟨Ap, cap, hv, hp, h3, h4⟩ := h2 i hi
  rw [hv] at hc
  exact ⟨b, off, Ap, cap, hA, hc 0 _ rfl, hc 1 _ rfl, hp, h3, h4⟩
theorem ItemsAt.elem {w : World} {A : Option Addr} {l : List ItemP} (h : ItemsAt w A l) (i : Nat) (hi : i < l.length) :
    ∃ b off v, A = some ⟨b, off, none⟩ ∧ ItemRd w l[i] v ∧ ∀ j u, v[j]? = some u → w.cell? ⟨b, off + i * 22 + j, none⟩ = some u := by
  obtain ⟨cs, h1, h2⟩ := h
  obtain ⟨b, off, hA, hc⟩ := RowAt.elem h1 i hi
  exact ⟨b, off, cs i, hA, h2 i hi, hc⟩
end Go.Proofs.YtdkgfgmmmjpkgaaGreatDoor

namespace Go.Proofs.YtdkgfgmmmjpkgaaGreatDoor
open Go.RowKit Go.Shelf

/-- What a slice of bytes of one's own holds, as a string. -/
theorem owns_string {w : World} {B n : Nat} {v : Value} {l : List UInt8} (h : w.ownsRow B 5 1 v n (Lib.byteCells l)) (hn : n = l.length) (h0 : 0 < n) :
    ∃ g c, v = .slice (some ⟨g, 0, none⟩) l.length c ∧ (convert 27 9 (.slice (some ⟨g, 0, none⟩) l.length c)).run Tryz.prog w = .ok (.string (asStr l)) w := by
  subst hn
  rcases h.2 with ⟨_, h1⟩ | ⟨g, cap, cur, rfl, _, hg, _, _, _, _⟩
  · omega
  refine ⟨g, cap, rfl, run_convert_bytes_back w 27 9 5 _ cap l Tryz.underlying27 Tryz.underlying5 Tryz.underlying9 fun j hj => ?_⟩
  refine h.cells rfl j _ ?_
  simp [Lib.byteCells, hj]
theorem byteCells_app (a b : List UInt8) : Lib.byteCells a ++ Lib.byteCells b = Lib.byteCells (a ++ b) := by simp [Lib.byteCells]
theorem byteCells_one (l : List UInt8) : ∀ u ∈ Lib.byteCells l, u.oneCell' = true := fun u hu => by
  simp only [Lib.byteCells, List.mem_map] at hu
  obtain ⟨x, -, rfl⟩ := hu
  rfl
/-- A slice written out, on top. -/
theorem owns_fresh (w : World) (B : Nat) (hB : B ≤ w.heap.size) (c : UInt8) (x : Int) (hx : x = c.toNat) :
    (w.alloc (.cells #[.int .u8 x] 5)).ownsRow B 5 1 (.slice (some ⟨w.heap.size, 0, none⟩) 1 1) 1 (Lib.byteCells [c]) := by
  subst hx
  exact ⟨rfl, .inr ⟨w.heap.size, 1, _, rfl, hB, heap_alloc_new w _, Nat.le_refl _, by decide, rfl, rfl⟩⟩
theorem oneCells (l : List Value) (h : l.all (fun u => u.oneCell') = true) : ∀ u ∈ l, u.oneCell' = true := fun u hu => List.all_eq_true.1 h u hu
theorem text_cells (w : World) (cs : Array Value) (T : TypeId) (l : List Value) (h : l = cs.toList) : ∀ j u, l[j]? = some u → (w.alloc (.cells cs T)).cell? ((⟨w.heap.size, 0, none⟩ : Addr).add j) = some u := fun j u hu => by
  subst h
  rw [Addr.add_lit, Nat.zero_add, Lib.cell_of_heap (heap_alloc_new w _)]
  simpa using hu

set_option maxHeartbeats 3200000 in
set_option maxRecDepth 100000 in
theorem rText_calls (s : ByteArray) (w : World) (hs : s.size ≤ 17592186044416) :
    Calls Tryz.prog 32 #[.string s] w fun e w' => e = .returned (.string (asStr (textL s.data.toList))) ∧ Below w.heap.size w w' := by
  obtain ⟨i0, hi, hz0, hz1, hz2⟩ := info_parts infoU8b
  have H0 := Lib.hid (owns_fresh w w.heap.size (Nat.le_refl _) 40 40 rfl)
  have HB := Lib.hid (below_alloc w (.cells #[.int .u8 40] 5))
  have HA : Hid (([40] : List UInt8) = 40 :: (s.data.toList.take 0).flatMap textByte) := rfl
  go_enter Tryz.func32, Tryz.ntmps32
  go_wp2_with fail
  go_loopw [3, 4] (fun v i wr => ∃ (k : Nat) (acc : List UInt8), k ≤ s.size ∧ i = .int .i64 k ∧ Hid (wr.ownsRow w.heap.size 5 1 v acc.length (Lib.byteCells acc)) ∧ Hid (acc = 40 :: (s.data.toList.take k).flatMap textByte) ∧ Hid (Below w.heap.size w wr)) (fun _ i _ => s.size - (intOf i).toNat)
  case atStart => exact ⟨0, [40], Nat.zero_le _, rfl, H0, HA, HB⟩
  case round =>
    clear H0 HB HA
    obtain ⟨k, acc, hk, rfl, hown, hacc, hW⟩ := hrel
    have hal : acc.length ≤ 4 * k + 1 := by
      rw [hacc.out, List.length_cons]
      have := flat_take_le textByte 4 textByte_le s.data.toList k (by rw [size_data]; omega)
      omega
    have HC3 : Hid (∀ m, m ≤ 4 → acc.length + m ≤ maxLen) := fun m hm => by unfold maxLen; omega
    have HC4 : Hid (∀ m, m ≤ 4 → (acc.length + m) * 1 ≤ 140737488355328) := fun m hm => by omega
    have HC5 : Hid (∀ X, w.heap.size ≤ (wr.alloc X).heap.size) := fun X => by have := hW.out.size; simp; omega
    by_cases hlt : k < s.size
    · have hkl : k < s.data.toList.length := by rw [size_data]; exact hlt
      have hstep := flat_take textByte s.data.toList k hkl
      obtain ⟨c, hc⟩ : ∃ c, c = s.data.toList[k] := ⟨_, rfl⟩
      rw [← hc] at hstep
      have hb2 : (s[k]'hlt) = c := by rw [hc]; rfl
      have HS := Lib.hid hstep
      clear hstep hc
      have hcl : c.toNat < 256 := c.toNat_lt
      have hcs : c = 40 ∨ c = 41 ∨ c = 92 ∨ (c.toNat ≠ 40 ∧ c.toNat ≠ 41 ∧ c.toNat ≠ 92) := by
        by_cases h1 : c.toNat = 40
        · exact .inl (UInt8.toNat.inj h1)
        by_cases h2 : c.toNat = 41
        · exact .inr (.inl (UInt8.toNat.inj h2))
        by_cases h3 : c.toNat = 92
        · exact .inr (.inr (.inl (UInt8.toNat.inj h3)))
        exact .inr (.inr (.inr ⟨h1, h2, h3⟩))
      rcases hcs with rfl | rfl | rfl | ⟨n1, n2, n3⟩
      · go_wp2_with (at_builtin; refine wpList_append_own _ rfl _ _ 27 rfl w.heap.size 5 i0 (.int .u8 0) 1 1 Tryz.underlying27 hi hz0 hz1 hz2 rfl (by decide) _ _ _ rfl (hown.out.alloc _) ⟨wr.heap.size, 0, none⟩ 2 2 [.int .u8 92, .int .u8 40] rfl rfl (text_cells wr _ _ _ rfl) (oneCells _ rfl) (HC3.out 2 (by decide)) (HC4.out 2 (by decide)) (HC5.out _) ?_)
        intro v' w2 hown' hgrow _
        have hnew : Hid (w2.ownsRow w.heap.size 5 1 v' (acc ++ [92, 40]).length (Lib.byteCells (acc ++ [92, 40]))) := by
          show World.ownsRow _ _ _ _ _ _ _
          rw [← byteCells_app, List.length_append]
          exact hown'
        have hW2 : Hid (Below w.heap.size w w2) := (hW.out.alloc hW.out.size _).grown hgrow (by have := hW.out.size; simp; omega) (fun q hq => (hown.out.lt q hq).1)
        have hacc2 : Hid (acc ++ [92, 40] = 40 :: (s.data.toList.take (k + 1)).flatMap textByte) := by
          show _ = _
          rw [HS.out, hacc.out, show textByte 40 = [92, 40] from by decide]
          rfl
        clear hown' hgrow hown hacc hW
        go_wp2_with fail
        go_roundw
        case rel => exact ⟨k + 1, acc ++ [92, 40], by omega, by go_num, hnew, hacc2, hW2⟩
        case measure => simp [intOf]; omega
      · go_wp2_with (at_builtin; refine wpList_append_own _ rfl _ _ 27 rfl w.heap.size 5 i0 (.int .u8 0) 1 1 Tryz.underlying27 hi hz0 hz1 hz2 rfl (by decide) _ _ _ rfl (hown.out.alloc _) ⟨wr.heap.size, 0, none⟩ 2 2 [.int .u8 92, .int .u8 41] rfl rfl (text_cells wr _ _ _ rfl) (oneCells _ rfl) (HC3.out 2 (by decide)) (HC4.out 2 (by decide)) (HC5.out _) ?_)
        intro v' w2 hown' hgrow _
        have hnew : Hid (w2.ownsRow w.heap.size 5 1 v' (acc ++ [92, 41]).length (Lib.byteCells (acc ++ [92, 41]))) := by
          show World.ownsRow _ _ _ _ _ _ _
          rw [← byteCells_app, List.length_append]
          exact hown'
        have hW2 : Hid (Below w.heap.size w w2) := (hW.out.alloc hW.out.size _).grown hgrow (by have := hW.out.size; simp; omega) (fun q hq => (hown.out.lt q hq).1)
        have hacc2 : Hid (acc ++ [92, 41] = 40 :: (s.data.toList.take (k + 1)).flatMap textByte) := by
          show _ = _
          rw [HS.out, hacc.out, show textByte 41 = [92, 41] from by decide]
          rfl
        clear hown' hgrow hown hacc hW
        go_wp2_with fail
        go_roundw
        case rel => exact ⟨k + 1, acc ++ [92, 41], by omega, by go_num, hnew, hacc2, hW2⟩
        case measure => simp [intOf]; omega
      · go_wp2_with (at_builtin; refine wpList_append_own _ rfl _ _ 27 rfl w.heap.size 5 i0 (.int .u8 0) 1 1 Tryz.underlying27 hi hz0 hz1 hz2 rfl (by decide) _ _ _ rfl (hown.out.alloc _) ⟨wr.heap.size, 0, none⟩ 2 2 [.int .u8 92, .int .u8 92] rfl rfl (text_cells wr _ _ _ rfl) (oneCells _ rfl) (HC3.out 2 (by decide)) (HC4.out 2 (by decide)) (HC5.out _) ?_)
        intro v' w2 hown' hgrow _
        have hnew : Hid (w2.ownsRow w.heap.size 5 1 v' (acc ++ [92, 92]).length (Lib.byteCells (acc ++ [92, 92]))) := by
          show World.ownsRow _ _ _ _ _ _ _
          rw [← byteCells_app, List.length_append]
          exact hown'
        have hW2 : Hid (Below w.heap.size w w2) := (hW.out.alloc hW.out.size _).grown hgrow (by have := hW.out.size; simp; omega) (fun q hq => (hown.out.lt q hq).1)
        have hacc2 : Hid (acc ++ [92, 92] = 40 :: (s.data.toList.take (k + 1)).flatMap textByte) := by
          show _ = _
          rw [HS.out, hacc.out, show textByte 92 = [92, 92] from by decide]
          rfl
        clear hown' hgrow hown hacc hW
        go_wp2_with fail
        go_roundw
        case rel => exact ⟨k + 1, acc ++ [92, 92], by omega, by go_num, hnew, hacc2, hW2⟩
        case measure => simp [intOf]; omega
      have m1 : ((c.toNat : Int) == 40) = false := beq_eq_false_iff_ne.2 (by omega)
      have m2 : ((c.toNat : Int) == 41) = false := beq_eq_false_iff_ne.2 (by omega)
      have m3 : ((c.toNat : Int) == 92) = false := beq_eq_false_iff_ne.2 (by omega)
      have he : escT c = false := by
        rw [Bool.eq_false_iff]
        simp only [escT, ne_eq, Bool.or_eq_true, decide_eq_true_eq]
        omega
      have HEsc := Lib.hid he
      clear he
      by_cases h32 : c.toNat < 32 ∨ 126 < c.toNat
      · have hoc := octal_cells c
        have HO := Lib.hid (textByte_octal c HEsc.out h32)
        obtain ⟨news, hnews⟩ : ∃ news, news = [92, UInt8.ofNat (48 + c.toNat / 64), UInt8.ofNat (48 + c.toNat / 8 % 8), UInt8.ofNat (48 + c.toNat % 8)] := ⟨_, rfl⟩
        have hnl : news.length = 4 := by rw [hnews]; rfl
        rw [← hnews] at hoc HO
        have HOC := Lib.hid hoc
        have HNL := Lib.hid hnl
        clear hoc hnews hnl
        by_cases h33 : c.toNat < 32
        · have hlt32 : (c.toNat : Int) < 32 := by omega
          go_wp2_with (at_builtin; refine wpList_append_own _ rfl _ _ 27 rfl w.heap.size 5 i0 (.int .u8 0) 1 1 Tryz.underlying27 hi hz0 hz1 hz2 rfl (by decide) _ _ _ rfl (hown.out.alloc _) ⟨wr.heap.size, 0, none⟩ 4 4 [.int .u8 92, .int .u8 (48 + (c.toNat : Int) / 64), .int .u8 (48 + (c.toNat : Int) / 8 % 8), .int .u8 (48 + (c.toNat : Int) % 8)] rfl rfl (text_cells wr _ _ _ rfl) (oneCells _ rfl) (HC3.out 4 (by decide)) (HC4.out 4 (by decide)) (HC5.out _) ?_)
          intro v' w2 hown' hgrow _
          have hnew : Hid (w2.ownsRow w.heap.size 5 1 v' (acc ++ news).length (Lib.byteCells (acc ++ news))) := by
            show World.ownsRow _ _ _ _ _ _ _
            rw [← byteCells_app, List.length_append]
            exact HNL.out ▸ HOC.out ▸ hown'
          have hW2 : Hid (Below w.heap.size w w2) := (hW.out.alloc hW.out.size _).grown hgrow (by have := hW.out.size; simp; omega) (fun q hq => (hown.out.lt q hq).1)
          have hacc2 : Hid (acc ++ news = 40 :: (s.data.toList.take (k + 1)).flatMap textByte) := by
            show _ = _
            rw [HS.out, hacc.out, HO.out]
            rfl
          clear hown' hgrow hown hacc hW
          go_wp2_with fail
          go_roundw
          case rel => exact ⟨k + 1, acc ++ news, by omega, by go_num, hnew, hacc2, hW2⟩
          case measure => simp [intOf]; omega
        · have hlt32 : ¬ (c.toNat : Int) < 32 := by omega
          have hlt126 : 126 < (c.toNat : Int) := by omega
          go_wp2_with (at_builtin; refine wpList_append_own _ rfl _ _ 27 rfl w.heap.size 5 i0 (.int .u8 0) 1 1 Tryz.underlying27 hi hz0 hz1 hz2 rfl (by decide) _ _ _ rfl (hown.out.alloc _) ⟨wr.heap.size, 0, none⟩ 4 4 [.int .u8 92, .int .u8 (48 + (c.toNat : Int) / 64), .int .u8 (48 + (c.toNat : Int) / 8 % 8), .int .u8 (48 + (c.toNat : Int) % 8)] rfl rfl (text_cells wr _ _ _ rfl) (oneCells _ rfl) (HC3.out 4 (by decide)) (HC4.out 4 (by decide)) (HC5.out _) ?_)
          intro v' w2 hown' hgrow _
          have hnew : Hid (w2.ownsRow w.heap.size 5 1 v' (acc ++ news).length (Lib.byteCells (acc ++ news))) := by
            show World.ownsRow _ _ _ _ _ _ _
            rw [← byteCells_app, List.length_append]
            exact HNL.out ▸ HOC.out ▸ hown'
          have hW2 : Hid (Below w.heap.size w w2) := (hW.out.alloc hW.out.size _).grown hgrow (by have := hW.out.size; simp; omega) (fun q hq => (hown.out.lt q hq).1)
          have hacc2 : Hid (acc ++ news = 40 :: (s.data.toList.take (k + 1)).flatMap textByte) := by
            show _ = _
            rw [HS.out, hacc.out, HO.out]
            rfl
          clear hown' hgrow hown hacc hW
          go_wp2_with fail
          go_roundw
          case rel => exact ⟨k + 1, acc ++ news, by omega, by go_num, hnew, hacc2, hW2⟩
          case measure => simp [intOf]; omega
      · have hlt32 : ¬ (c.toNat : Int) < 32 := by omega
        have hlt126 : ¬ 126 < (c.toNat : Int) := by omega
        have HP := Lib.hid (textByte_plain c HEsc.out (by omega) (by omega))
        go_wp2_with (at_builtin; refine wpList_append_own _ rfl _ _ 27 rfl w.heap.size 5 i0 (.int .u8 0) 1 1 Tryz.underlying27 hi hz0 hz1 hz2 rfl (by decide) _ _ _ rfl (hown.out.alloc _) ⟨wr.heap.size, 0, none⟩ 1 1 [.int .u8 (c.toNat : Int)] rfl rfl (text_cells wr _ _ _ rfl) (oneCells _ rfl) (HC3.out 1 (by decide)) (HC4.out 1 (by decide)) (HC5.out _) ?_)
        intro v' w2 hown' hgrow _
        have hnew : Hid (w2.ownsRow w.heap.size 5 1 v' (acc ++ [c]).length (Lib.byteCells (acc ++ [c]))) := by
          show World.ownsRow _ _ _ _ _ _ _
          rw [← byteCells_app, List.length_append]
          exact hown'
        have hW2 : Hid (Below w.heap.size w w2) := (hW.out.alloc hW.out.size _).grown hgrow (by have := hW.out.size; simp; omega) (fun q hq => (hown.out.lt q hq).1)
        have hacc2 : Hid (acc ++ [c] = 40 :: (s.data.toList.take (k + 1)).flatMap textByte) := by
          show _ = _
          rw [HS.out, hacc.out, HP.out]
          rfl
        clear hown' hgrow hown hacc hW
        go_wp2_with fail
        go_roundw
        case rel => exact ⟨k + 1, acc ++ [c], by omega, by go_num, hnew, hacc2, hW2⟩
        case measure => simp [intOf]; omega
    · obtain rfl : k = s.size := by omega
      have hF : Hid (acc ++ [41] = textL s.data.toList) := by
        show _ = _
        rw [hacc.out, ← size_data, List.take_length]
        rfl
      go_wp2_with (at_builtin; refine wpList_append_own _ rfl _ _ 27 rfl w.heap.size 5 i0 (.int .u8 0) 1 1 Tryz.underlying27 hi hz0 hz1 hz2 rfl (by decide) _ _ _ rfl (hown.out.alloc _) ⟨wr.heap.size, 0, none⟩ 1 1 [.int .u8 41] rfl rfl (text_cells wr _ _ _ rfl) (oneCells _ rfl) (HC3.out 1 (by decide)) (HC4.out 1 (by decide)) (HC5.out _) ?_)
      intro v' w2 hown' hgrow _
      have hnew : w2.ownsRow w.heap.size 5 1 v' (acc ++ [41]).length (Lib.byteCells (acc ++ [41])) := by
        rw [← byteCells_app, List.length_append]
        exact hown'
      have hW2 : Hid (Below w.heap.size w w2) := (hW.out.alloc hW.out.size _).grown hgrow (by have := hW.out.size; simp; omega) (fun q hq => (hown.out.lt q hq).1)
      obtain ⟨g, c, rfl, hcv⟩ := owns_string hnew rfl (by simp)
      have hl : (acc ++ [41]).length = acc.length + 1 := by simp
      rw [hl] at hcv ⊢
      clear hown' hgrow hown hacc hW hnew hl
      go_wp2_with fail
      go_ret
      exact ⟨ret_str (by rw [hF.out]), hW2.out⟩
end Go.Proofs.YtdkgfgmmmjpkgaaGreatDoor

namespace Go.Proofs.YtdkgfgmmmjpkgaaGreatDoor
open Go.RowKit Go.Shelf
theorem bytesWorld_below' (w : World) (e : TypeId) (s : ByteArray) : Below w.heap.size w (Lib.bytesWorld w e s) := ⟨rfl, rfl, rfl, by rw [Lib.bytesWorld_size]; omega, fun j hj => Lib.bytesWorld_at_old _ _ _ j hj⟩
variable {T : TypeId} {rest : Array Value} {ok : Nat → Prop} {b : Nat} {bs : List UInt8}
theorem indexByte_any (s : ByteArray) (c : Int) (w : World) :
    Calls Tryz.prog 168 #[.string s, .int .u8 c] w fun e w' => e = .returned (.int .i64 (Lib.indexByte s.data.toList c.toNat.toUInt8)) ∧ w = w' :=
  (Tryz.strings_IndexByte s c w).mono fun _ _ ⟨h, h1⟩ => ⟨h, h1.symm⟩
set_option maxHeartbeats 3200000 in
set_option maxRecDepth 100000 in
theorem name_calls (s : ByteArray) (w : World) (h : BufAt 5 T rest ok b bs w) (hok : ∀ k, w.heap.size ≤ k → ok k) (hs : s.size ≤ 140737488355328) (hlim : bs.length + 3 * s.size + 1 ≤ 140737488355328) :
    Calls Tryz.prog 151 #[.pointer (some ⟨b, 0, none⟩), .string s] w fun e w' => e = .returned (.tuple #[]) ∧ BufAt 5 T rest ok b (bs ++ nameL s.data.toList) w' ∧ Fr ok w w' := by
  have hcv := fun W : World => Lib.run_convert_string_bytes (P := Tryz.prog) W 9 27 5 s Tryz.underlying9 Tryz.underlying27 Tryz.underlying5
  go_enter Tryz.func151, Tryz.ntmps151
  go_wp2_with (go_at_call 118; refine (writeByte_any (T := T) (rest := rest) (ok := ok) (bs := bs) 47 _ ?_ ?_ ?_).mono ?_)
  · exact h
  · exact hok
  · omega
  rintro e W1 ⟨rfl, h1, f1⟩
  have H1 := Lib.hid h1
  have F1 := Lib.hid f1
  clear h1 f1
  go_wp2
  have hsz : (Lib.bytesWorld W1 5 s).heap.size = W1.heap.size + 1 := Lib.bytesWorld_size _ _ _
  obtain ⟨r, hr⟩ : ∃ r, r = W1.heap.size := ⟨_, rfl⟩
  have hb0 : BufAt 5 T rest (but ok r) b (bs ++ [47]) (Lib.bytesWorld W1 5 s) := by
    refine BufAt.below (w := W1) (BufAt.imp H1.out fun k hk ho => ⟨ho, by omega⟩) ?_
    exact bytesWorld_below' _ _ _
  have hc0 : ∀ j, j < s.size → (Lib.bytesWorld W1 5 s).cell? ⟨r, j, none⟩ = some (.int .u8 (s.data.toList.getD j 0).toNat) := fun j hj => by rw [hr]; exact Lib.bytesWorld_cell _ _ _ _ hj
  have h12 : Fr ok W1 (Lib.bytesWorld W1 5 s) := Fr.of_below ok (bytesWorld_below' _ _ _)
  rw [← hr]
  generalize Lib.bytesWorld W1 5 s = W2 at hb0 hc0 hsz h12 ⊢
  have hrl : r < W2.heap.size := by omega
  have HC := Lib.hid hc0
  have HB := Lib.hid hb0
  have HR := Lib.hid hr
  have H12 := Lib.hid h12
  have hok2 : ∀ k, W2.heap.size ≤ k → but ok r k := fun k hk => ⟨hok k (by have := Fr.size F1.out; omega), by omega⟩
  have HO := Lib.hid hok2
  clear hb0 hc0 hsz hr hok2 h12
  go_loopw [5, 11] (fun _ v wr => ∃ k : Nat, k ≤ s.size ∧ v = .int .i64 k ∧ Hid (BufAt 5 T rest (but ok r) b (bs ++ [47] ++ (s.data.toList.take k).flatMap nameByte) wr) ∧ Hid (Fr (but ok r) W2 wr)) (fun _ v _ => s.size - (intOf v).toNat)
  case atStart => exact ⟨0, Nat.zero_le _, rfl, by simpa using HB, Fr.refl _ _⟩
  case round =>
    obtain ⟨k, hk, rfl, hB, hF⟩ := hrel
    by_cases hlt : k < s.size
    · have hcell : wr.cell? ⟨r, k, none⟩ = some (.int .u8 (s.data.toList.getD k 0).toNat) := (Fr.cell (p := ⟨r, k, none⟩) (Hid.out hF) hrl (fun h => h.2 rfl)).trans (HC.out k hlt)
      have hkl : k < s.data.toList.length := by rw [size_data]; exact hlt
      have hgd : s.data.toList.getD k 0 = s.data.toList[k] := by rw [List.getD_eq_getElem?_getD, List.getElem?_eq_getElem hkl]; rfl
      have hstep := flat_take nameByte s.data.toList k hkl
      have hlen := flat_take_le nameByte 3 nameByte_le s.data.toList k (by rw [size_data]; omega)
      rw [hgd] at hcell
      generalize s.data.toList[k] = c at hcell hstep
      have HS := Lib.hid hstep
      clear hstep hgd hkl
      have hcl : c.toNat < 256 := c.toNat_lt
      have hand : Go.bits .and .u8 (c.toNat : Int) 15 = (c.toNat : Int) % 16 := u8_and15 (x := (c.toNat : Int)) (by omega) (by omega)
      have k1 : (c.toNat : Int) / 16 < 16 := by omega
      have k2 : 0 ≤ (c.toNat : Int) / 16 := by omega
      have k3 : (c.toNat : Int) % 16 < 16 := by omega
      have k4 : 0 ≤ (c.toNat : Int) % 16 := by omega
      go_wp2_with (go_at_call 168; refine (indexByte_any _ _ _).mono ?_; rintro e w' ⟨rfl, rfl⟩)
      rotate_left
      · have he : escN c = false := by
          rw [Bool.eq_false_iff]
          simp only [escN, ne_eq, Bool.or_eq_true, decide_eq_true_eq]
          omega
        refine (writeByte_any (T := T) (rest := rest) (ok := but ok r) (bs := bs ++ [47] ++ (s.data.toList.take k).flatMap nameByte) c wr (Hid.out hB) (fun q hq => HO.out q (by have := Fr.size (Hid.out hF); omega)) (by simp only [List.length_append, List.length_cons, List.length_nil]; omega)).mono ?_
        rintro e w4 ⟨rfl, h4, f4⟩
        have hfin : BufAt 5 T rest (but ok r) b (bs ++ [47] ++ (s.data.toList.take (k + 1)).flatMap nameByte) w4 := by
          rw [HS.out, nameByte, he, ← List.append_assoc]; exact h4
        have HN := Lib.hid hfin
        have HM := Lib.hid (Fr.trans (Hid.out hF) f4)
        clear h4 f4 hfin hcell hand k1 k2 k3 k4 he
        go_wp2
        go_roundw
        case rel => exact ⟨k + 1, by omega, by go_num, HN, HM⟩
        case measure => simp [intOf]; omega
      all_goals (
        have he : escN c = true := by
          simp only [escN, Bool.or_eq_true, decide_eq_true_eq]
          omega
        go_region_with (
          go_at_call 84
          go_loud (refine (write_any (T := T) (rest := rest) (ok := but ok r) (bs := bs ++ [47] ++ (s.data.toList.take k).flatMap nameByte) [35, hexAt (c.toNat / 16) (by omega), hexAt (c.toNat % 16) (by omega)] ⟨wr.heap.size, 0, none⟩ 3 _ ?_ ?_ ?_ ?_ (Nat.succ_pos _) ?_).mono ?_)
          · exact BufAt.drew (BufAt.alloc (Hid.out hB) _)
          · intro q hq; exact HO.out q (by have := Fr.size (Hid.out hF); simp at hq; omega)
          · show wr.heap.size ≠ b
            have := BufAt.lt (Hid.out hB); omega
          · intro j v hj
            exact Lib.cells_of_row (heap_alloc_new wr _) 3 j v hj
          · simp only [List.length_append, List.length_cons, List.length_nil]; omega
          rintro e w4 ⟨rfl, h4, f4⟩
          have H4 := Lib.hid h4
          have F4 := Lib.hid f4
          clear h4 f4 hcell)
        all_goals (
          go_wp2
          go_roundw
          case rel => exact ⟨k + 1, by omega, by go_num, (by rw [HS.out, nameByte_esc c he (by omega) (by omega), ← List.append_assoc]; exact H4), Lib.hid (Fr.trans ((Fr.alloc (Hid.out hF) _).drew) F4.out)⟩
          case measure => simp [intOf]; omega))
    · obtain rfl : k = s.size := by omega
      go_wp2
      go_end0
      refine ⟨rfl, ?_, ?_⟩
      · have h2 := BufAt.imp (ok' := ok) (Hid.out hB) fun q _ h => h.1
        rw [← size_data, List.take_length, List.append_assoc] at h2
        exact h2
      · exact (Fr.trans F1.out H12.out).trans (Fr.mono (Hid.out hF) fun q _ h => h.1)
end Go.Proofs.YtdkgfgmmmjpkgaaGreatDoor

namespace Go.Proofs.YtdkgfgmmmjpkgaaGreatDoor
open Go.RowKit Go.Shelf
variable {T : TypeId} {rest : Array Value} {ok : Nat → Prop} {b : Nat} {bs : List UInt8}
set_option maxHeartbeats 3200000 in
set_option maxRecDepth 100000 in
theorem text_calls (s : ByteArray) (w : World) (h : BufAt 5 T rest ok b bs w) (hok : ∀ k, w.heap.size ≤ k → ok k) (hs : s.size ≤ 140737488355328) (hlim : bs.length + 4 * s.size + 2 ≤ 140737488355328) :
    Calls Tryz.prog 152 #[.pointer (some ⟨b, 0, none⟩), .string s] w fun e w' => e = .returned (.tuple #[]) ∧ BufAt 5 T rest ok b (bs ++ textL s.data.toList) w' ∧ Fr ok w w' := by
  have hcv := fun W : World => Lib.run_convert_string_bytes (P := Tryz.prog) W 9 27 5 s Tryz.underlying9 Tryz.underlying27 Tryz.underlying5
  go_enter Tryz.func152, Tryz.ntmps152
  go_wp2_with (go_at_call 118; refine (writeByte_any (T := T) (rest := rest) (ok := ok) (bs := bs) 40 _ ?_ ?_ ?_).mono ?_)
  · exact h
  · exact hok
  · omega
  rintro e W1 ⟨rfl, h1, f1⟩
  have H1 := Lib.hid h1
  have F1 := Lib.hid f1
  clear h1 f1
  go_wp2
  have hsz : (Lib.bytesWorld W1 5 s).heap.size = W1.heap.size + 1 := Lib.bytesWorld_size _ _ _
  obtain ⟨r, hr⟩ : ∃ r, r = W1.heap.size := ⟨_, rfl⟩
  have hb0 : BufAt 5 T rest (but ok r) b (bs ++ [40]) (Lib.bytesWorld W1 5 s) := by
    refine BufAt.below (w := W1) (BufAt.imp H1.out fun k hk ho => ⟨ho, by omega⟩) ?_
    exact bytesWorld_below' _ _ _
  have hc0 : ∀ j, j < s.size → (Lib.bytesWorld W1 5 s).cell? ⟨r, j, none⟩ = some (.int .u8 (s.data.toList.getD j 0).toNat) := fun j hj => by rw [hr]; exact Lib.bytesWorld_cell _ _ _ _ hj
  have h12 : Fr ok W1 (Lib.bytesWorld W1 5 s) := Fr.of_below ok (bytesWorld_below' _ _ _)
  rw [← hr]
  generalize Lib.bytesWorld W1 5 s = W2 at hb0 hc0 hsz h12 ⊢
  have hrl : r < W2.heap.size := by omega
  have HC := Lib.hid hc0
  have HB := Lib.hid hb0
  have HR := Lib.hid hr
  have H12 := Lib.hid h12
  have hok2 : ∀ k, W2.heap.size ≤ k → but ok r k := fun k hk => ⟨hok k (by have := Fr.size F1.out; omega), by omega⟩
  have HO := Lib.hid hok2
  clear hb0 hc0 hsz hr hok2 h12
  go_loopw [5, 11] (fun _ v wr => ∃ k : Nat, k ≤ s.size ∧ v = .int .i64 k ∧ Hid (BufAt 5 T rest (but ok r) b (bs ++ [40] ++ (s.data.toList.take k).flatMap textByte) wr) ∧ Hid (Fr (but ok r) W2 wr)) (fun _ v _ => s.size - (intOf v).toNat)
  case atStart => exact ⟨0, Nat.zero_le _, rfl, by simpa using HB, Fr.refl _ _⟩
  case round =>
    obtain ⟨k, hk, rfl, hB, hF⟩ := hrel
    by_cases hlt : k < s.size
    · have hcell : wr.cell? ⟨r, k, none⟩ = some (.int .u8 (s.data.toList.getD k 0).toNat) := (Fr.cell (p := ⟨r, k, none⟩) (Hid.out hF) hrl (fun h => h.2 rfl)).trans (HC.out k hlt)
      have hkl : k < s.data.toList.length := by rw [size_data]; exact hlt
      have hgd : s.data.toList.getD k 0 = s.data.toList[k] := by rw [List.getD_eq_getElem?_getD, List.getElem?_eq_getElem hkl]; rfl
      have hstep := flat_take textByte s.data.toList k hkl
      have hlen := flat_take_le textByte 4 textByte_le s.data.toList k (by rw [size_data]; omega)
      rw [hgd] at hcell
      generalize s.data.toList[k] = c at hcell hstep
      have HS := Lib.hid hstep
      clear hstep hgd hkl
      have hcl : c.toNat < 256 := c.toNat_lt
      have hand : Go.bits .and .u8 (c.toNat : Int) 7 = (c.toNat : Int) % 8 := u8_and7 (x := (c.toNat : Int)) (by omega) (by omega)
      have hcs : c = 40 ∨ c = 41 ∨ c = 92 ∨ (c.toNat ≠ 40 ∧ c.toNat ≠ 41 ∧ c.toNat ≠ 92) := by
        by_cases h1 : c.toNat = 40
        · exact .inl (UInt8.toNat.inj h1)
        by_cases h2 : c.toNat = 41
        · exact .inr (.inl (UInt8.toNat.inj h2))
        by_cases h3 : c.toNat = 92
        · exact .inr (.inr (.inl (UInt8.toNat.inj h3)))
        exact .inr (.inr (.inr ⟨h1, h2, h3⟩))
      rcases hcs with rfl | rfl | rfl | ⟨n1, n2, n3⟩
      · clear hand
        go_wp2_with fail
        refine (write_any (T := T) (rest := rest) (ok := but ok r) (bs := bs ++ [40] ++ (s.data.toList.take k).flatMap textByte) [92, 40] ⟨wr.heap.size, 0, none⟩ 2 _ ?_ ?_ ?_ ?_ (Nat.succ_pos _) ?_).mono ?_
        · exact BufAt.alloc (Hid.out hB) _
        · intro q hq; exact HO.out q (by have := Fr.size (Hid.out hF); simp at hq; omega)
        · show wr.heap.size ≠ b
          have := BufAt.lt (Hid.out hB); omega
        · intro j v hj
          exact Lib.cells_of_row (heap_alloc_new wr _) 2 j v hj
        · simp only [List.length_append, List.length_cons, List.length_nil]; omega
        rintro e w4 ⟨rfl, h4, f4⟩
        have H4 := Lib.hid h4
        have F4 := Lib.hid f4
        clear h4 f4
        go_wp2
        go_roundw
        case rel => exact ⟨k + 1, by omega, by go_num, (by rw [HS.out, show textByte 40 = [92, 40] from by decide, ← List.append_assoc]; exact H4), Lib.hid (Fr.trans (Fr.alloc (Hid.out hF) _) F4.out)⟩
        case measure => simp [intOf]; omega
      · clear hand
        go_wp2_with fail
        refine (write_any (T := T) (rest := rest) (ok := but ok r) (bs := bs ++ [40] ++ (s.data.toList.take k).flatMap textByte) [92, 41] ⟨wr.heap.size, 0, none⟩ 2 _ ?_ ?_ ?_ ?_ (Nat.succ_pos _) ?_).mono ?_
        · exact BufAt.alloc (Hid.out hB) _
        · intro q hq; exact HO.out q (by have := Fr.size (Hid.out hF); simp at hq; omega)
        · show wr.heap.size ≠ b
          have := BufAt.lt (Hid.out hB); omega
        · intro j v hj
          exact Lib.cells_of_row (heap_alloc_new wr _) 2 j v hj
        · simp only [List.length_append, List.length_cons, List.length_nil]; omega
        rintro e w4 ⟨rfl, h4, f4⟩
        have H4 := Lib.hid h4
        have F4 := Lib.hid f4
        clear h4 f4
        go_wp2
        go_roundw
        case rel => exact ⟨k + 1, by omega, by go_num, (by rw [HS.out, show textByte 41 = [92, 41] from by decide, ← List.append_assoc]; exact H4), Lib.hid (Fr.trans (Fr.alloc (Hid.out hF) _) F4.out)⟩
        case measure => simp [intOf]; omega
      · clear hand
        go_wp2_with fail
        refine (write_any (T := T) (rest := rest) (ok := but ok r) (bs := bs ++ [40] ++ (s.data.toList.take k).flatMap textByte) [92, 92] ⟨wr.heap.size, 0, none⟩ 2 _ ?_ ?_ ?_ ?_ (Nat.succ_pos _) ?_).mono ?_
        · exact BufAt.alloc (Hid.out hB) _
        · intro q hq; exact HO.out q (by have := Fr.size (Hid.out hF); simp at hq; omega)
        · show wr.heap.size ≠ b
          have := BufAt.lt (Hid.out hB); omega
        · intro j v hj
          exact Lib.cells_of_row (heap_alloc_new wr _) 2 j v hj
        · simp only [List.length_append, List.length_cons, List.length_nil]; omega
        rintro e w4 ⟨rfl, h4, f4⟩
        have H4 := Lib.hid h4
        have F4 := Lib.hid f4
        clear h4 f4
        go_wp2
        go_roundw
        case rel => exact ⟨k + 1, by omega, by go_num, (by rw [HS.out, show textByte 92 = [92, 92] from by decide, ← List.append_assoc]; exact H4), Lib.hid (Fr.trans (Fr.alloc (Hid.out hF) _) F4.out)⟩
        case measure => simp [intOf]; omega
      have m1 : ((c.toNat : Int) == 40) = false := beq_eq_false_iff_ne.2 (by omega)
      have m2 : ((c.toNat : Int) == 41) = false := beq_eq_false_iff_ne.2 (by omega)
      have m3 : ((c.toNat : Int) == 92) = false := beq_eq_false_iff_ne.2 (by omega)
      have he : escT c = false := by
        rw [Bool.eq_false_iff]
        simp only [escT, ne_eq, Bool.or_eq_true, decide_eq_true_eq]
        omega
      have HEsc := Lib.hid he
      clear he
      go_wp2_with fail
      rotate_left
      · have h32 : 32 ≤ c.toNat ∧ c.toNat ≤ 126 := by omega
        have HO2 := Lib.hid h32
        refine (writeByte_any (T := T) (rest := rest) (ok := but ok r) (bs := bs ++ [40] ++ (s.data.toList.take k).flatMap textByte) c wr (Hid.out hB) (fun q hq => HO.out q (by have := Fr.size (Hid.out hF); omega)) (by simp only [List.length_append, List.length_cons, List.length_nil]; omega)).mono ?_
        rintro e w4 ⟨rfl, h4, f4⟩
        have H4 := Lib.hid h4
        have F4 := Lib.hid f4
        clear h4 f4
        go_wp2_with fail
        go_roundw
        case rel => exact ⟨k + 1, by omega, by go_num, (by rw [HS.out, textByte_plain c HEsc.out HO2.out.1 HO2.out.2, ← List.append_assoc]; exact H4), Lib.hid (Fr.trans (Hid.out hF) F4.out)⟩
        case measure => simp [intOf]; omega
      all_goals (
        refine (write_any (T := T) (rest := rest) (ok := but ok r) (bs := bs ++ [40] ++ (s.data.toList.take k).flatMap textByte) [92, UInt8.ofNat (48 + c.toNat / 64), UInt8.ofNat (48 + c.toNat / 8 % 8), UInt8.ofNat (48 + c.toNat % 8)] ⟨wr.heap.size, 0, none⟩ 4 _ ?_ ?_ ?_ ?_ (Nat.succ_pos _) ?_).mono ?_
        · exact BufAt.alloc (Hid.out hB) _
        · intro q hq; exact HO.out q (by have := Fr.size (Hid.out hF); simp at hq; omega)
        · show wr.heap.size ≠ b
          have := BufAt.lt (Hid.out hB); omega
        · intro j v hj
          rw [octal_cells] at hj
          exact Lib.cells_of_row (heap_alloc_new wr _) 4 j v hj
        · simp only [List.length_append, List.length_cons, List.length_nil]; omega
        rintro e w4 ⟨rfl, h4, f4⟩
        have H4 := Lib.hid h4
        have F4 := Lib.hid f4
        have hor : c.toNat < 32 ∨ 126 < c.toNat := by omega
        have HO2 := Lib.hid hor
        clear h4 f4 hor
        go_wp2_with fail
        go_roundw
        case rel => exact ⟨k + 1, by omega, by go_num, (by rw [HS.out, textByte_octal c HEsc.out HO2.out, ← List.append_assoc]; exact H4), Lib.hid (Fr.trans (Fr.alloc (Hid.out hF) _) F4.out)⟩
        case measure => simp [intOf]; omega)
    · obtain rfl : k = s.size := by omega
      go_wp2_with fail
      refine (writeByte_any (T := T) (rest := rest) (ok := but ok r) (bs := bs ++ [40] ++ (s.data.toList.take s.size).flatMap textByte) 41 wr (Hid.out hB) (fun q hq => HO.out q (by have := Fr.size (Hid.out hF); omega)) (by
        have := flat_take_le textByte 4 textByte_le s.data.toList s.size (by rw [size_data]; omega)
        simp only [List.length_append, List.length_cons, List.length_nil]; omega)).mono ?_
      rintro e w4 ⟨rfl, h4, f4⟩
      have H4 := Lib.hid h4
      have F4 := Lib.hid f4
      clear h4 f4
      go_wp2_with fail
      go_end0
      refine ⟨rfl, ?_, ?_⟩
      · have h2 := BufAt.imp (ok' := ok) H4.out fun q _ h => h.1
        rw [← size_data, List.take_length, List.append_assoc, List.append_assoc] at h2
        exact h2
      · exact (Fr.trans F1.out H12.out).trans ((Fr.mono (Hid.out hF) fun q _ h => h.1).trans (Fr.mono F4.out fun q _ h => h.1))
end Go.Proofs.YtdkgfgmmmjpkgaaGreatDoor

namespace Go.Proofs.YtdkgfgmmmjpkgaaGreatDoor
open Go.RowKit Go.Shelf

theorem asStr_data (l : List UInt8) : (asStr l).data.toList = l := by simp [asStr]
theorem itoa_le (n : Int) (h : n.natAbs < 18446744073709551616) : (Lib.itoa n).length ≤ 21 := by
  have hl := decDigits_le 19 n.natAbs (by omega)
  unfold Lib.itoa
  split
  · simp only [List.length_cons]; omega
  · rw [show n.toNat = n.natAbs from by omega]; omega
theorem itoa_calls (n : Int) (h0 : -9223372036854775808 ≤ n) (h1 : n ≤ 9223372036854775807) (w : World) (ht : Tab w) :
    Calls Tryz.prog 82 #[.int .i64 n] w fun e w' => e = .returned (.string (asStr (Lib.itoa n))) ∧ Below w.heap.size w w' :=
  (Tryz.strconv_Itoa n h0 h1 w ht).mono fun e w' ⟨he, k, os, hw⟩ => ⟨he, by
    subst hw
    exact ⟨rfl, rfl, rfl, by simp [Sort.grow], fun j hj => by
      show (w.heap ++ os)[j]? = w.heap[j]?
      rw [Array.getElem?_append_left hj]⟩⟩
theorem fixL_le (n : Int) : (fixL n).length ≤ 24 := by
  have h1 := partS_le n
  have h2 := partW_le n
  have h3 := partR_le n
  rw [fixL]
  split <;> simp only [List.length_append, List.length_cons, List.length_nil] <;> omega

set_option maxHeartbeats 1600000 in
set_option maxRecDepth 100000 in
theorem Print_fix (n : Int) (w : World) : Calls Tryz.prog 49 #[.int .i64 n] w fun e w' => e = .returned (.string (asStr (fixL n))) ∧ Below w.heap.size w w' := by
  have hS := partS_le n
  have hW := partW_le n
  have hR := partR_le n
  have hr : fixL n = partS n ++ partW n ++ (if (partR n).isEmpty then [] else 46 :: partR n) := rfl
  have hp := parts_calls n w
  generalize fixL n = R at *
  generalize partS n = s at *
  generalize partW n = wh at *
  generalize partR n = r at *
  have z1 : (asStr s).size ≤ 1 := by rw [asStr_size]; exact hS
  have z2 : (asStr wh).size ≤ 6 := by rw [asStr_size]; exact hW
  have z3 : (asStr r).size ≤ 16 := by rw [asStr_size]; exact hR
  cases r with
  | nil =>
    have hne : (asStr []).toList.isEmpty = true := by rw [Lib.toList_data]; rfl
    have HR := Lib.hid hr
    clear hr
    go_enter Tryz.func49, Tryz.ntmps49
    go_wp2_with fail
    refine hp.mono ?_
    rintro e w1 ⟨rfl, b1⟩
    have B1 := Lib.hid b1
    clear b1 hp
    go_wp2_with fail
    go_ret
    exact ⟨ret_str (by
      rw [HR.out]
      show asStr s ++ asStr wh = asStr (s ++ wh ++ [])
      rw [List.append_nil, asStr_append]), B1.out⟩
  | cons c r =>
    have hne : (asStr (c :: r)).toList.isEmpty = false := by rw [Lib.toList_data]; rfl
    generalize hcr : c :: r = cr at *
    have hcr2 : cr.isEmpty = false := by rw [← hcr]; rfl
    rw [hcr2, if_neg Bool.false_ne_true] at hr
    have HR := Lib.hid hr
    clear hr hcr hcr2
    go_enter Tryz.func49, Tryz.ntmps49
    go_wp2_with fail
    refine hp.mono ?_
    rintro e w1 ⟨rfl, b1⟩
    have B1 := Lib.hid b1
    clear b1 hp
    go_wp2_with fail
    go_ret
    exact ⟨ret_str (by
      rw [HR.out]
      show asStr s ++ asStr wh ++ asStr [46] ++ asStr cr = asStr (s ++ wh ++ 46 :: cr)
      simp only [asStr_append, List.append_assoc]
      rfl), B1.out⟩
end Go.Proofs.YtdkgfgmmmjpkgaaGreatDoor

namespace Go.Proofs.YtdkgfgmmmjpkgaaGreatDoor
open Go.RowKit Go.Shelf

theorem head3_getj (a b c : Value) (r : Array Value) (j : Nat) : (#[a, b, c] ++ r)[3 + j]? = r[j]? := by
  rcases r with ⟨l⟩
  simp [Nat.add_comm 3 j]
theorem head3_setj (a b c v : Value) (r : Array Value) (j : Nat) : (#[a, b, c] ++ r).setIfInBounds (3 + j) v = #[a, b, c] ++ r.setIfInBounds j v := by
  rcases r with ⟨l⟩
  simp [Nat.add_comm 3 j]
section
variable {e T : TypeId} {rest : Array Value} {ok : Nat → Prop} {b : Nat} {bs : List UInt8} {w w' : World} {v : Value} {lr : Int}
theorem Head.rest_cell (h : Head T rest b v lr w) (j : Nat) (x : Value) (hj : rest[j]? = some x) : w.cell? ⟨b, 3 + j, none⟩ = some x := by rw [Lib.cell_of_heap h, head3_getj, hj]
theorem Head.set_rest (h : Head T rest b v lr w) (j : Nat) (x : Value) : Head T (rest.setIfInBounds j x) b v lr (w.setCell ⟨b, 3 + j, none⟩ x) := by
  unfold Head; rw [Lib.heap_setCell_same (i := 3 + j) h _, head3_setj]
theorem BufAt.rest_cell (h : BufAt e T rest ok b bs w) (j : Nat) (x : Value) (hj : rest[j]? = some x) : w.cell? ⟨b, 3 + j, none⟩ = some x := by
  rcases h.2 with ⟨_, lr, h⟩ | ⟨_, _, _, lr, h, _⟩
  · exact h.rest_cell j x hj
  · exact h.rest_cell j x hj
theorem BufAt.fz (h : BufAt e T rest ok b bs w) (i : Nat) : w.frozen? ⟨b, i, none⟩ = false := by
  rcases h.2 with ⟨_, lr, h⟩ | ⟨_, _, _, lr, h, _⟩
  · exact h.fz i
  · exact h.fz i
theorem BufAt.set_rest (h : BufAt e T rest ok b bs w) (j : Nat) (x : Value) : BufAt e T (rest.setIfInBounds j x) ok b bs (w.setCell ⟨b, 3 + j, none⟩ x) := by
  refine ⟨h.1, ?_⟩
  rcases h.2 with ⟨h0, lr, h1⟩ | ⟨g, cap, cur, lr, h1, h2, h3, h4, r⟩
  · exact .inl ⟨h0, lr, h1.set_rest j x⟩
  · exact .inr ⟨g, cap, cur, lr, h1.set_rest j x, h2, h3, (Below.heap_setCell _ _ _ _ h3).trans h4, r⟩
end

def colC (c : ColP) : List Value := [.int .i64 c.sp, .int .i64 c.p0, .int .i64 c.p1, .int .i64 c.p2, .int .i64 c.p3]
def penC (p : PenP) (A : Option Addr) (c : Nat) : List Value := [.int .i64 p.wd, .int .i64 p.cap, .int .i64 p.join, .int .i64 p.miter, .slice A p.dash.length c, .int .i64 p.phase]
def soC (s : SoP) (A : Option Addr) (c : Nat) : List Value := colC s.fill ++ (colC s.stroke ++ penC s.pen A c)
/-- What stands behind the buffer. -/
def restC (st : StP) (Ad : Option Addr) (cd : Nat) (Ao : Option Addr) (co : Nat) (Ac : Option Addr) (cc : Nat) (vf : Value) : Array Value :=
  (soC st.so Ad cd ++ (soC st.outer Ao co ++ [.slice Ac st.clips.length cc, vf])).toArray
def DashAt (w0 : World) (A : Option Addr) (c : Nat) (p : PenP) : Prop := IntsAt w0 A p.dash ∧ p.dash.length ≤ c ∧ c ≤ maxLen
/-- The writer at block b: the bytes bs, what is so, the fonts. -/
def DrAt (T : TypeId) (w0 : World) (ok : Nat → Prop) (b : Nat) (bs : List UInt8) (st : StP) (fs : List Int) (w : World) : Prop :=
  ∃ Ad cd Ao co Ac cc vf, BufAt 5 T (restC st Ad cd Ao co Ac cc vf) (fun k => ok k ∧ some k ≠ vf.ownBlock) b bs w ∧
    (DashAt w0 Ad cd st.so.pen ∧ DashAt w0 Ao co st.outer.pen) ∧ (ClipsAt w0 Ac st.clips ∧ st.clips.length ≤ cc ∧ cc ≤ maxLen) ∧
    w.ownsRow w0.heap.size 3 1 vf fs.length (fs.map (Value.int .i64)) ∧ ∀ k, vf.ownBlock = some k → ok k
end Go.Proofs.YtdkgfgmmmjpkgaaGreatDoor

namespace Go.Proofs.YtdkgfgmmmjpkgaaGreatDoor
open Go.RowKit Go.Shelf
variable {T : TypeId} {rest : Array Value} {ok : Nat → Prop} {b : Nat} {bs : List UInt8}

theorem numsB_take (l : List Int) (k : Nat) (h : k < l.length) : numsB (l.take (k + 1)) = numsB (l.take k) ++ (fixL l[k] ++ [32]) := by
  rw [numsB, numsB, List.take_add_one, List.getElem?_eq_getElem h, List.flatMap_append]
  simp
theorem numsB_le : ∀ l : List Int, (numsB l).length ≤ 25 * l.length
  | [] => by simp [numsB]
  | x :: r => by
    have h1 := numsB_le r
    have h2 := fixL_le x
    have h3 : numsB (x :: r) = fixL x ++ [32] ++ numsB r := by simp [numsB]
    rw [h3]
    simp only [List.length_append, List.length_cons, List.length_nil]
    omega

set_option maxHeartbeats 3200000 in
set_option maxRecDepth 100000 in
theorem line_calls (op : ByteArray) (l : List Int) (A : Option Addr) (c : Nat) (w : World) (hop : op.size ≤ 16) (h : BufAt 5 T rest ok b bs w) (hok : ∀ k, w.heap.size ≤ k → ok k)
    (hA : IntsAt w A l) (hno : ∀ a, A = some a → l ≠ [] → ¬ ok a.block) (hlim : bs.length + 25 * l.length + 20 ≤ 140737488355328) :
    Calls Tryz.prog 21 #[.pointer (some ⟨b, 0, none⟩), .string op, .slice A l.length c] w fun e w' => e = .returned (.tuple #[]) ∧ BufAt 5 T rest ok b (bs ++ lineB l op.data.toList) w' ∧ Fr ok w w' := by
  have HOK := Lib.hid (show ∀ W : World, Fr ok w W → ∀ q, W.heap.size ≤ q → ok q from fun W hW q hq => hok q (by have := hW.size; omega))
  have HCE := Lib.hid (show ∀ W : World, Fr ok w W → ∀ i (hi : i < l.length), ∃ lb off, A = some ⟨lb, off, none⟩ ∧ W.cell? ⟨lb, off + i, none⟩ = some (.int .i64 l[i]) from fun W hW i hi => by
    obtain ⟨lb, off, ha, hc⟩ := hA.elem i hi
    have hn : ¬ ok lb := hno _ ha (fun he => by rw [he] at hi; simp at hi)
    exact ⟨lb, off, ha, (hW.cell (p := ⟨lb, off + i, none⟩) (World.block_lt_of_cell? w _ hc) hn).trans hc⟩)
  have HB := Lib.hid h
  have HF := Lib.hid (Fr.refl ok w)
  have HS0 : Hid (bs = bs ++ numsB (l.take 0)) := by show _ = _; simp [numsB]
  clear h hok hA hno
  go_enter Tryz.func21, Tryz.ntmps21
  go_wp2_with fail
  go_loopw [7, 10] (fun _ v wr => ∃ (k : Nat) (acc : List UInt8), k ≤ l.length ∧ v = .int .i64 k ∧ Hid (acc = bs ++ numsB (l.take k)) ∧ Hid (BufAt 5 T rest ok b acc wr) ∧ Hid (Fr ok w wr)) (fun _ v _ => l.length - (intOf v).toNat)
  case atStart => exact ⟨0, bs, Nat.zero_le _, rfl, HS0, HB, HF⟩
  case round =>
    clear HS0 HB HF
    obtain ⟨k, acc, hk, rfl, hacc, hB, hF⟩ := hrel
    have hal : acc.length ≤ bs.length + 25 * k := by
      have h1 := numsB_le (l.take k)
      rw [hacc.out, List.length_append]
      rw [List.length_take, Nat.min_eq_left hk] at h1
      omega
    by_cases hlt : k < l.length
    · obtain ⟨lb, off, hAl, hcell⟩ := HCE.out wr hF.out k hlt
      have hstep := numsB_take l k hlt
      have hfx := fixL_le l[k]
      generalize l[k] = n at *
      have HP := Lib.hid (fun W => Print_fix n W)
      obtain ⟨F, hFx⟩ : ∃ F, F = fixL n := ⟨_, rfl⟩
      rw [← hFx] at hstep hfx HP
      have hz : (asStr F).size ≤ 24 := by rw [asStr_size]; exact hfx
      have hnext : Hid (acc ++ (F ++ [32]) = bs ++ numsB (l.take (k + 1))) := by show _ = _; rw [hstep, hacc.out, List.append_assoc]
      have HWS := Lib.hid (show ∀ W, Fr ok w W → BufAt 5 T rest ok b acc W → Calls Tryz.prog 48 #[.pointer (some ⟨b, 0, none⟩), .string (asStr F ++ ⟨#[32]⟩)] W fun e w' => e = .returned (.tuple #[.int .i64 (asStr F ++ ⟨#[32]⟩).size, .nilIface]) ∧ BufAt 5 T rest ok b (acc ++ (F ++ [32])) w' ∧ Fr ok w w' from fun W hW hBW => by
        have h1 := writeString_any (T := T) (rest := rest) (ok := ok) (bs := acc) (asStr F ++ ⟨#[32]⟩) W hBW (HOK.out W hW) (by rw [ByteArray.size_append, asStr_size]; show acc.length + (F.length + 1) ≤ _; omega)
        refine h1.mono fun e w' h' => ⟨h'.1, ?_, hW.trans h'.2.2⟩
        have h2 := h'.2.1
        rw [ByteArray.data_append, Array.toList_append, asStr_data] at h2
        exact h2)
      subst hAl
      clear hstep hfx hFx
      go_wp2_with fail
      go_region_with (first
        | (go_at_call 49
           go_loud (refine (HP.out _).mono ?_)
           rintro e w1 ⟨rfl, q1⟩
           have BW := Lib.hid (BufAt.below (BufAt.drew hB.out) q1)
           have FW := Lib.hid ((Fr.drew hF.out).trans (Fr.of_below ok q1))
           clear q1 hcell)
        | (go_at_call 48
           go_loud (refine (HWS.out _ FW.out BW.out).mono ?_)
           rintro e w2 ⟨rfl, b2, f2⟩
           have B2 := Lib.hid b2
           have F2 := Lib.hid f2
           clear b2 f2))
      all_goals (
        go_wp2_with fail
        go_roundw
        case rel => exact ⟨k + 1, _, by omega, by go_num, hnext, B2, F2⟩
        case measure => simp [intOf]; omega)
    · obtain rfl : k = l.length := by omega
      have hfull : acc = bs ++ numsB l := by rw [hacc.out, List.take_length]
      have hos : (op ++ ⟨#[10]⟩).data.toList = op.data.toList ++ [10] := by rw [ByteArray.data_append, Array.toList_append]
      have HFULL := Lib.hid hfull
      have HOS := Lib.hid hos
      have HWS := Lib.hid (writeString_any (T := T) (rest := rest) (ok := ok) (bs := acc) (op ++ ⟨#[10]⟩) wr hB.out (HOK.out wr hF.out) (by rw [ByteArray.size_append]; show acc.length + (op.size + 1) ≤ _; omega))
      clear hfull hos
      go_wp2_with fail
      refine HWS.out.mono ?_
      rintro e w2 ⟨rfl, b2, f2⟩
      have B2 := Lib.hid b2
      have F2 := Lib.hid (hF.out.trans f2)
      clear b2 f2
      go_wp2_with fail
      go_end0
      refine ⟨rfl, ?_, F2.out⟩
      have h1 := B2.out
      rw [HOS.out, HFULL.out, List.append_assoc] at h1
      exact h1
end Go.Proofs.YtdkgfgmmmjpkgaaGreatDoor

namespace Go.Proofs.YtdkgfgmmmjpkgaaGreatDoor
open Go.RowKit Go.Shelf
variable {T : TypeId} {rest : Array Value} {ok : Nat → Prop} {b : Nat} {bs : List UInt8}

set_option maxHeartbeats 1600000 in
set_option maxRecDepth 100000 in
theorem digit_calls (n : Int) (op : UInt8) (w : World) (hn : 0 ≤ n ∧ n ≤ 2) (ht : Tab w) (h : BufAt 5 T rest ok b bs w) (hok : ∀ k, w.heap.size ≤ k → ok k) (hlim : bs.length + 24 ≤ 140737488355328) :
    Calls Tryz.prog 78 #[.pointer (some ⟨b, 0, none⟩), .int .i64 n, .string ⟨#[op]⟩] w fun e w' => e = .returned (.tuple #[]) ∧ BufAt 5 T rest ok b (bs ++ digB n op) w' ∧ Fr ok w w' := by
  have HOK := Lib.hid (show ∀ W : World, Fr ok w W → ∀ q, W.heap.size ≤ q → ok q from fun W hW q hq => hok q (by have := hW.size; omega))
  have hil := itoa_le n (by omega)
  have HI := Lib.hid (itoa_calls n (by omega) (by omega) w.drew (ht.keep (below_drew' (Below.refl _ _))))
  obtain ⟨F, hFx⟩ : ∃ F, F = Lib.itoa n := ⟨_, rfl⟩
  have hdig : digB n op = F ++ [32, op, 10] := by rw [hFx]; rfl
  rw [← hFx] at hil HI
  rw [hdig]
  have hz : (asStr F).size ≤ 21 := by rw [asStr_size]; exact hil
  have HB := Lib.hid h
  have HWS := Lib.hid (show ∀ W, Fr ok w W → BufAt 5 T rest ok b bs W → Calls Tryz.prog 48 #[.pointer (some ⟨b, 0, none⟩), .string (asStr F ++ ⟨#[32]⟩ ++ ⟨#[op]⟩ ++ ⟨#[10]⟩)] W fun e w' => e = .returned (.tuple #[.int .i64 (asStr F ++ ⟨#[32]⟩ ++ ⟨#[op]⟩ ++ ⟨#[10]⟩).size, .nilIface]) ∧ BufAt 5 T rest ok b (bs ++ (F ++ [32, op, 10])) w' ∧ Fr ok w w' from fun W hW hBW => by
    have h1 := writeString_any (T := T) (rest := rest) (ok := ok) (bs := bs) (asStr F ++ ⟨#[32]⟩ ++ ⟨#[op]⟩ ++ ⟨#[10]⟩) W hBW (HOK.out W hW) (by
      rw [show asStr F ++ ⟨#[32]⟩ ++ ⟨#[op]⟩ ++ ⟨#[10]⟩ = asStr (F ++ [32] ++ [op] ++ [10]) from by simp only [← asStr_append]; rfl, asStr_size]
      simp only [List.length_append, List.length_cons, List.length_nil]
      omega)
    refine h1.mono fun e w' h' => ⟨h'.1, ?_, hW.trans h'.2.2⟩
    have h2 := h'.2.1
    rw [show (asStr F ++ ⟨#[32]⟩ ++ ⟨#[op]⟩ ++ ⟨#[10]⟩).data.toList = F ++ [32, op, 10] from by
      rw [show asStr F ++ ⟨#[32]⟩ ++ ⟨#[op]⟩ ++ ⟨#[10]⟩ = asStr (F ++ [32] ++ [op] ++ [10]) from by simp only [← asStr_append]; rfl, asStr_data]
      simp] at h2
    exact h2)
  have A1 := fun W : World => run_string_add_sum (P := Tryz.prog) W (asStr F) ⟨#[32]⟩ (by show _ + 1 ≤ _; omega)
  have A2 := fun W : World => run_string_add_sum (P := Tryz.prog) W (asStr F ++ ⟨#[32]⟩) ⟨#[op]⟩ (by rw [ByteArray.size_append]; show _ + 1 + 1 ≤ _; omega)
  have A3 := fun W : World => run_string_add_sum (P := Tryz.prog) W (asStr F ++ ⟨#[32]⟩ ++ ⟨#[op]⟩) ⟨#[10]⟩ (by rw [ByteArray.size_append, ByteArray.size_append]; show _ + 1 + 1 + 1 ≤ _; omega)
  clear h hok hil hFx hdig ht
  go_enter Tryz.func78, Tryz.ntmps78
  go_region_with (first
    | (go_at_call 82
       go_loud (refine HI.out.mono ?_)
       rintro e w1 ⟨rfl, q1⟩
       have BW := Lib.hid (BufAt.below (BufAt.drew HB.out) q1)
       have FW := Lib.hid ((Fr.drew (Fr.refl ok w)).trans (Fr.of_below ok q1))
       clear q1)
    | (go_at_call 48
       go_loud (refine (HWS.out _ FW.out BW.out).mono ?_)
       rintro e w2 ⟨rfl, b2, f2⟩
       have B2 := Lib.hid b2
       have F2 := Lib.hid f2
       clear b2 f2))
  all_goals (
    go_wp2_with fail
    go_end0
    exact ⟨rfl, B2.out, F2.out⟩)

theorem ints_fresh (w : World) (cs : Array Value) (T : TypeId) (l : List Int) (h : cs = (l.map (Value.int .i64)).toArray) : IntsAt (w.alloc (.cells cs T)) (some ⟨w.heap.size, 0, none⟩) l := by
  subst h
  refine .inr ⟨w.heap.size, 0, rfl, fun i hi j v hj => ?_⟩
  have hj0 : j = 0 := by
    have := (Array.getElem?_eq_some_iff.1 hj).1
    simpa using this
  subst hj0
  have hv : v = .int .i64 (l.getD i 0) := by simpa using hj.symm
  rw [Lib.cell_of_heap (heap_alloc_new w _), hv]
  simp [List.getD_eq_getElem?_getD, hi]
theorem pathB_take (l : List SegP) (k : Nat) (h : k < l.length) : pathB (l.take (k + 1)) = pathB (l.take k) ++ segB l[k] := by
  rw [pathB, pathB, List.take_add_one, List.getElem?_eq_getElem h, List.flatMap_append]
  simp
theorem lineB_le (l : List Int) (op : List UInt8) : (lineB l op).length ≤ 25 * l.length + op.length + 1 := by
  have := numsB_le l
  rw [lineB]
  simp only [List.length_append, List.length_cons, List.length_nil]
  omega
theorem segB_le (s : SegP) : (segB s).length ≤ 160 := by
  unfold segB
  split
  · have := lineB_le [s.x0, s.y0] [109]; simp only [List.length_cons, List.length_nil] at this; omega
  split
  · have := lineB_le [s.x0, s.y0] [108]; simp only [List.length_cons, List.length_nil] at this; omega
  split
  · have := lineB_le [s.x0, s.y0, s.x1, s.y1, s.x2, s.y2] [99]; simp only [List.length_cons, List.length_nil] at this; omega
  · have := lineB_le [] [104]; simp only [List.length_cons, List.length_nil] at this; omega
theorem pathB_le : ∀ l : List SegP, (pathB l).length ≤ 160 * l.length
  | [] => by simp [pathB]
  | x :: r => by
    have h1 := pathB_le r
    have h2 := segB_le x
    have h3 : pathB (x :: r) = segB x ++ pathB r := rfl
    rw [h3]
    simp only [List.length_append, List.length_cons]
    omega

set_option maxHeartbeats 3200000 in
set_option maxRecDepth 100000 in
theorem path_calls (l : List SegP) (A : Option Addr) (c : Nat) (w0 w : World) (h : BufAt 5 T rest ok b bs w) (hok : ∀ k, w.heap.size ≤ k → ok k) (hA : PathAt w0 A l) (h0 : Below w0.heap.size w0 w) (hok0 : ∀ k, ok k → w0.heap.size ≤ k) (hlim : bs.length + 160 * l.length + 1000 ≤ 70368744177664) :
    Calls Tryz.prog 45 #[.pointer (some ⟨b, 0, none⟩), .slice A l.length c] w fun e w' => e = .returned (.tuple #[]) ∧ BufAt 5 T rest ok b (bs ++ pathB l) w' ∧ Fr ok w w' := by
  have HOK := Lib.hid (show ∀ W : World, Fr ok w W → ∀ q, W.heap.size ≤ q → ok q from fun W hW q hq => hok q (by have := hW.size; omega))
  have HCE := Lib.hid (show ∀ W : World, Fr ok w W → ∀ i (hi : i < l.length), ∃ lb off, A = some ⟨lb, off, none⟩ ∧ ∀ j v, (segC l[i])[j]? = some v → W.cell? ⟨lb, off + i * 7 + j, none⟩ = some v from fun W hW i hi => (hA.keep (keeps h0 hW hok0)).elem i hi)
  have HL := Lib.hid (show ∀ (op : ByteArray) (ns : List Int) (acc : List UInt8) (cs : Array Value) (wr W : World) (r m : Nat), r = W.heap.size → m = ns.length → Fr ok w wr → BufAt 5 T rest ok b acc wr → wr.heap.size ≤ W.heap.size → Fr ok wr W → (∀ k, k < wr.heap.size → W.heap[k]? = wr.heap[k]?) → cs = (ns.map (Value.int .i64)).toArray → op.size ≤ 16 → acc.length + 25 * ns.length + 20 ≤ 140737488355328 →
      Calls Tryz.prog 21 #[.pointer (some ⟨b, 0, none⟩), .string op, .slice (some ⟨r, 0, none⟩) m m] (W.alloc (.cells cs 3)) fun e w' => e = .returned (.tuple #[]) ∧ BufAt 5 T rest ok b (acc ++ lineB ns op.data.toList) w' ∧ Fr ok w w' from fun op ns acc cs wr W r m hr hm hwr hB hsz hF hkeep hcs hop hl => by
    subst hr
    subst hm
    have hB2 : BufAt 5 T rest (but ok W.heap.size) b acc (W.alloc (.cells cs 3)) := ((hB.imp (ok' := but ok W.heap.size) fun q hq ho => ⟨ho, by omega⟩).move (w' := W) fun k hk _ => hkeep k hk).alloc _
    refine (line_calls (T := T) (rest := rest) (ok := but ok W.heap.size) (bs := acc) op ns (some ⟨W.heap.size, 0, none⟩) ns.length (W.alloc (.cells cs 3)) hop hB2 (fun q hq => ⟨HOK.out W (hwr.trans hF) q (by simp at hq; omega), by simp at hq; omega⟩) (ints_fresh W cs _ ns hcs) (fun a ha _ hn => by cases ha; exact hn.2 rfl) hl).mono fun e w' h' => ⟨h'.1, h'.2.1.imp fun q _ ho => ho.1, ?_⟩
    exact hwr.trans ((hF.alloc _).trans (h'.2.2.mono fun q _ ho => ho.1)))
  have HL0 := Lib.hid (show ∀ (op : ByteArray) (acc : List UInt8) (wr W : World), Fr ok w wr → BufAt 5 T rest ok b acc wr → Fr ok wr W → (∀ k, k < wr.heap.size → W.heap[k]? = wr.heap[k]?) → op.size ≤ 16 → acc.length + 20 ≤ 140737488355328 →
      Calls Tryz.prog 21 #[.pointer (some ⟨b, 0, none⟩), .string op, .slice none 0 0] W fun e w' => e = .returned (.tuple #[]) ∧ BufAt 5 T rest ok b (acc ++ lineB [] op.data.toList) w' ∧ Fr ok w w' from fun op acc wr W hwr hB hF hkeep hop hl => by
    refine (line_calls (T := T) (rest := rest) (ok := ok) (bs := acc) op [] none 0 W hop (hB.move (w' := W) fun k hk _ => hkeep k hk) (HOK.out W (hwr.trans hF)) (.inl rfl) (fun a ha => by cases ha) hl).mono fun e w' h' => ⟨h'.1, h'.2.1, (hwr.trans hF).trans h'.2.2⟩)
  have HB := Lib.hid h
  have HF := Lib.hid (Fr.refl ok w)
  have HS0 : Hid (bs = bs ++ pathB (l.take 0)) := by show _ = _; simp [pathB]
  clear h hok hA h0 hok0
  go_enter Tryz.func45, Tryz.ntmps45
  go_wp2_with fail
  go_loopw [9] (fun v wr => ∃ (k : Nat) (acc : List UInt8), k ≤ l.length ∧ v = .int .i64 k ∧ Hid (acc = bs ++ pathB (l.take k)) ∧ Hid (BufAt 5 T rest ok b acc wr) ∧ Hid (Fr ok w wr)) (fun v _ => l.length - (intOf v).toNat)
  case atStart => exact ⟨0, bs, Nat.zero_le _, rfl, HS0, HB, HF⟩
  case round =>
    clear HS0 HB HF
    obtain ⟨k, acc, hk, rfl, hacc, hB, hF⟩ := hrel
    have hal : acc.length ≤ bs.length + 160 * k := by
      have h1 := pathB_le (l.take k)
      rw [hacc.out, List.length_append]
      rw [List.length_take, Nat.min_eq_left hk] at h1
      omega
    by_cases hlt : k < l.length
    · obtain ⟨lb, off, hAl, hcell⟩ := HCE.out wr hF.out k hlt
      have hstep := pathB_take l k hlt
      generalize l[k] = s at *
      obtain ⟨sk, x0, y0, x1, y1, x2, y2⟩ := s
      have e0 := hcell 0 (.int .i64 sk) rfl
      have e1 := hcell 1 (.int .i64 x0) rfl
      have e2 := hcell 2 (.int .i64 y0) rfl
      have e3 := hcell 3 (.int .i64 x1) rfl
      have e4 := hcell 4 (.int .i64 y1) rfl
      have e5 := hcell 5 (.int .i64 x2) rfl
      have e6 := hcell 6 (.int .i64 y2) rfl
      simp only [Nat.add_zero] at e0
      subst hAl
      clear hcell
      have HST := Lib.hid hstep
      clear hstep
      by_cases k1 : sk = 1
      · subst k1
        have hseg : Hid (acc ++ lineB [x0, y0] [109] = bs ++ pathB (l.take (k + 1))) := by
          show _ = _
          rw [HST.out, hacc.out, List.append_assoc]
          rfl
        go_wp2_with fail
        refine (HL.out ⟨#[109]⟩ [x0, y0] acc #[.int .i64 x0, .int .i64 y0] wr _ _ _ ?_ rfl hF.out hB.out ?_ ?_ ?_ rfl (by decide) (by simp only [List.length_cons, List.length_nil]; omega)).mono ?_
        · simp only [World.size_alloc]
        · simp only [World.size_alloc]; omega
        · exact (Fr.alloc (Fr.alloc (Fr.refl ok wr) _) _)
        · exact fun q hq => (Lib.alloc_old _ _ q (by simp only [World.size_alloc]; omega)).trans (Lib.alloc_old _ _ q hq)
        rintro e w2 ⟨rfl, b2, f2⟩
        have B2 := Lib.hid b2
        have F2 := Lib.hid f2
        clear b2 f2 e0 e1 e2 e3 e4 e5 e6
        go_wp2_with fail
        go_roundw
        case rel => exact ⟨k + 1, _, by omega, by go_num, hseg, B2, F2⟩
        case measure => simp [intOf]; omega
      by_cases k2 : sk = 2
      · subst k2
        have hseg : Hid (acc ++ lineB [x0, y0] [108] = bs ++ pathB (l.take (k + 1))) := by
          show _ = _
          rw [HST.out, hacc.out, List.append_assoc]
          rfl
        go_wp2_with fail
        refine (HL.out ⟨#[108]⟩ [x0, y0] acc #[.int .i64 x0, .int .i64 y0] wr _ _ _ ?_ rfl hF.out hB.out ?_ ?_ ?_ rfl (by decide) (by simp only [List.length_cons, List.length_nil]; omega)).mono ?_
        · simp only [World.size_alloc]
        · simp only [World.size_alloc]; omega
        · exact (Fr.alloc (Fr.alloc (Fr.refl ok wr) _) _)
        · exact fun q hq => (Lib.alloc_old _ _ q (by simp only [World.size_alloc]; omega)).trans (Lib.alloc_old _ _ q hq)
        rintro e w2 ⟨rfl, b2, f2⟩
        have B2 := Lib.hid b2
        have F2 := Lib.hid f2
        clear b2 f2 e0 e1 e2 e3 e4 e5 e6
        go_wp2_with fail
        go_roundw
        case rel => exact ⟨k + 1, _, by omega, by go_num, hseg, B2, F2⟩
        case measure => simp [intOf]; omega
      by_cases k3 : sk = 3
      · subst k3
        have hseg : Hid (acc ++ lineB [x0, y0, x1, y1, x2, y2] [99] = bs ++ pathB (l.take (k + 1))) := by
          show _ = _
          rw [HST.out, hacc.out, List.append_assoc]
          rfl
        go_wp2_with fail
        refine (HL.out ⟨#[99]⟩ [x0, y0, x1, y1, x2, y2] acc #[.int .i64 x0, .int .i64 y0, .int .i64 x1, .int .i64 y1, .int .i64 x2, .int .i64 y2] wr _ _ _ ?_ rfl hF.out hB.out ?_ ?_ ?_ rfl (by decide) (by simp only [List.length_cons, List.length_nil]; omega)).mono ?_
        · simp only [World.size_alloc]
        · simp only [World.size_alloc]; omega
        · exact (Fr.alloc (Fr.alloc (Fr.refl ok wr) _) _)
        · exact fun q hq => (Lib.alloc_old _ _ q (by simp only [World.size_alloc]; omega)).trans (Lib.alloc_old _ _ q hq)
        rintro e w2 ⟨rfl, b2, f2⟩
        have B2 := Lib.hid b2
        have F2 := Lib.hid f2
        clear b2 f2 e0 e1 e2 e3 e4 e5 e6
        go_wp2_with fail
        go_roundw
        case rel => exact ⟨k + 1, _, by omega, by go_num, hseg, B2, F2⟩
        case measure => simp [intOf]; omega
      have m1 : (sk == 1) = false := beq_eq_false_iff_ne.2 k1
      have HK1 := Lib.hid k1
      clear k1
      have m2 : (sk == 2) = false := beq_eq_false_iff_ne.2 k2
      have HK2 := Lib.hid k2
      clear k2
      have m3 : (sk == 3) = false := beq_eq_false_iff_ne.2 k3
      have HK3 := Lib.hid k3
      clear k3
      have hseg : Hid (acc ++ lineB [] [104] = bs ++ pathB (l.take (k + 1))) := by
        show _ = _
        rw [HST.out, hacc.out, List.append_assoc, segB, if_neg (by rw [m1]; decide), if_neg (by rw [m2]; decide), if_neg (by rw [m3]; decide)]
      go_wp2_with fail
      refine (HL0.out ⟨#[104]⟩ acc wr _ hF.out hB.out ?_ ?_ (by decide) (by omega)).mono ?_
      · exact (Fr.alloc (Fr.alloc (Fr.refl ok wr) _) _)
      · exact fun q hq => (Lib.alloc_old _ _ q (by simp only [World.size_alloc]; omega)).trans (Lib.alloc_old _ _ q hq)
      rintro e w2 ⟨rfl, b2, f2⟩
      have B2 := Lib.hid b2
      have F2 := Lib.hid f2
      clear b2 f2 e0 e1 e2 e3 e4 e5 e6
      go_wp2_with fail
      go_roundw
      case rel => exact ⟨k + 1, _, by omega, by go_num, hseg, B2, F2⟩
      case measure => simp [intOf]; omega
    · obtain rfl : k = l.length := by omega
      have hfull : Hid (acc = bs ++ pathB l) := by show _ = _; rw [hacc.out, List.take_length]
      go_wp2_with fail
      go_end0
      exact ⟨rfl, hfull.out ▸ hB.out, hF.out⟩
end Go.Proofs.YtdkgfgmmmjpkgaaGreatDoor

namespace Go.Proofs.YtdkgfgmmmjpkgaaGreatDoor
open Go.RowKit Go.Shelf
variable {T : TypeId} {rest : Array Value} {ok : Nat → Prop} {b : Nat} {bs : List UInt8}

def penA (p : PenP) (A : Option Addr) (c : Nat) : Array Value := #[.int .i64 p.wd, .int .i64 p.cap, .int .i64 p.join, .int .i64 p.miter, .slice A p.dash.length c, .int .i64 p.phase]
def colA (c : ColP) : Array Value := #[.int .i64 c.sp, .int .i64 c.p0, .int .i64 c.p1, .int .i64 c.p2, .int .i64 c.p3]
theorem own_cell {ok : Nat → Prop} {w W : World} {X : Array Value} {T : TypeId} (h : Fr (but ok w.heap.size) (w.alloc (.cells X T)) W) (j : Nat) (v : Value) (hj : X[j]? = some v) : W.cell? ⟨w.heap.size, j, none⟩ = some v := by
  rw [h.cell (p := ⟨w.heap.size, j, none⟩) (by simp) (fun hb => hb.2 rfl), Lib.cell_of_heap (heap_alloc_new w _)]
  exact hj
theorem writeByte_at (c : UInt8) (z : Int) (hz : z = c.toNat) (w : World) (h : BufAt 5 T rest ok b bs w) (hok : ∀ k, w.heap.size ≤ k → ok k) (hlim : bs.length + 1 ≤ 140737488355328) :
    Calls Tryz.prog 118 #[.pointer (some ⟨b, 0, none⟩), .int .u8 z] w fun e w' => e = .returned .nilIface ∧ BufAt 5 T rest ok b (bs ++ [c]) w' ∧ Fr ok w w' := by
  subst hz
  exact writeByte_any c w h hok hlim
theorem dashItems_step (l : List Int) (k : Nat) (h : k < l.length) : dashItems (k == 0) (l.drop k) = (if (k == 0) then [] else [32]) ++ (fixL l[k] ++ dashItems (k + 1 == 0) (l.drop (k + 1))) := by
  rw [List.drop_eq_getElem_cons h, dashItems]
  rfl
theorem dashItems_le : ∀ (f : Bool) (l : List Int), (dashItems f l).length ≤ 25 * l.length
  | _, [] => by simp [dashItems]
  | f, x :: r => by
    have h1 := dashItems_le false r
    have h2 := fixL_le x
    rw [dashItems]
    cases f <;> simp only [List.length_append, List.length_cons, List.length_nil, if_true, Bool.false_eq_true, if_false] <;> omega

set_option maxHeartbeats 3200000 in
set_option maxRecDepth 100000 in
theorem dash_calls (p : PenP) (A : Option Addr) (c : Nat) (w0 w : World) (h : BufAt 5 T rest ok b bs w) (hok : ∀ k, w.heap.size ≤ k → ok k) (hA : IntsAt w0 A p.dash) (h0 : Below w0.heap.size w0 w) (hok0 : ∀ k, ok k → w0.heap.size ≤ k) (hlim : bs.length + 25 * p.dash.length + 1000 ≤ 70368744177664) :
    Calls Tryz.prog 80 #[.pointer (some ⟨b, 0, none⟩), .agg (penA p A c)] w fun e w' => e = .returned (.tuple #[]) ∧ BufAt 5 T rest ok b (bs ++ dashB p) w' ∧ Fr ok w w' := by
  obtain ⟨wd, cap, join, miter, l, phase⟩ := p
  unfold penA
  simp only at hA hlim ⊢
  obtain ⟨X, hX⟩ : ∃ X, X = #[Value.int .i64 wd, .int .i64 cap, .int .i64 join, .int .i64 miter, .slice A l.length c, .int .i64 phase] := ⟨_, rfl⟩
  have HOK := Lib.hid (show ∀ W : World, (w.alloc (.cells X 47)).heap.size ≤ W.heap.size → ∀ q, W.heap.size ≤ q → but ok w.heap.size q from fun W hW q hq => by simp at hW; exact ⟨hok q (by omega), by omega⟩)
  have HB1 := Lib.hid (show BufAt 5 T rest (but ok w.heap.size) b bs (w.alloc (.cells X 47)) from (h.imp (ok' := but ok w.heap.size) fun q hq ho => ⟨ho, by omega⟩).alloc _)
  have HF1 := Lib.hid (Fr.refl (but ok w.heap.size) (w.alloc (.cells X 47)))
  have HCE := Lib.hid (show ∀ W : World, Fr (but ok w.heap.size) (w.alloc (.cells X 47)) W → ∀ i (hi : i < l.length), ∃ lb off, A = some ⟨lb, off, none⟩ ∧ W.cell? ⟨lb, off + i, none⟩ = some (.int .i64 l[i]) from fun W hW i hi => (hA.keep (keeps (h0.trans ((below_alloc w _).mono h0.size)) hW (fun q hq => hok0 q hq.1))).elem i hi)
  have HOC := Lib.hid (show ∀ W : World, Fr (but ok w.heap.size) (w.alloc (.cells X 47)) W → W.cell? ⟨w.heap.size, 4, none⟩ = some (.slice A l.length c) ∧ W.cell? ⟨w.heap.size, 5, none⟩ = some (.int .i64 phase) from fun W hW => ⟨own_cell hW 4 _ (by rw [hX]; rfl), own_cell hW 5 _ (by rw [hX]; rfl)⟩)
  have HFA := Lib.hid (show ∀ W : World, Fr (but ok w.heap.size) (w.alloc (.cells X 47)) W → Fr ok w W from fun W hW => (Fr.alloc (Fr.refl ok w) _).trans (hW.mono fun q _ ho => ho.1))
  obtain ⟨D, hD⟩ : ∃ D, D = dashItems true l := ⟨_, rfl⟩
  have hDl : D.length ≤ 25 * l.length := by rw [hD]; exact dashItems_le _ _
  have HD0 : Hid ((bs ++ [91]) ++ dashItems (0 == 0) (l.drop 0) = (bs ++ [91]) ++ D) := by show _ = _; rw [hD]; rfl
  have hdb : dashB ⟨wd, cap, join, miter, l, phase⟩ = [91] ++ D ++ [93, 32] ++ lineB [phase] [100] := by rw [hD]; rfl
  rw [hdb]
  clear h hok hA h0 hok0 hD hdb
  have HX := Lib.hid hX
  rw [← hX]
  clear hX
  go_enter Tryz.func80, Tryz.ntmps80
  rw [HX.out]
  go_wp2_with fail
  rw [← HX.out]
  refine (writeByte_at (T := T) (rest := rest) (ok := but ok w.heap.size) (bs := bs) 91 _ rfl _ HB1.out (HOK.out _ (Nat.le_refl _)) (by omega)).mono ?_
  rintro e w1 ⟨rfl, b1, f1⟩
  have B1 := Lib.hid b1
  have F1 := Lib.hid f1
  obtain ⟨c4, -⟩ := HOC.out w1 f1
  clear b1 f1
  go_wp2_with fail
  clear c4
  go_loopw [4, 5, 13] (fun _ _ v wr => ∃ (k : Nat) (acc : List UInt8), k ≤ l.length ∧ v = .int .i64 k ∧ Hid (acc ++ dashItems (k == 0) (l.drop k) = (bs ++ [91]) ++ D) ∧ Hid (BufAt 5 T rest (but ok w.heap.size) b acc wr) ∧ Hid (Fr (but ok w.heap.size) (w.alloc (.cells X 47)) wr)) (fun _ _ v _ => l.length - (intOf v).toNat)
  case atStart => exact ⟨0, bs ++ [91], Nat.zero_le _, rfl, HD0, B1, F1⟩
  case round =>
    clear HD0 HB1 HF1 B1 F1
    obtain ⟨k, acc, hk, rfl, hacc, hB, hF⟩ := hrel
    have hal : acc.length ≤ bs.length + 1 + D.length := by
      have := congrArg List.length hacc.out
      simp only [List.length_append, List.length_cons, List.length_nil] at this
      omega
    by_cases hlt : k < l.length
    · obtain ⟨lb, off, hAl, hcell⟩ := HCE.out wr hF.out k hlt
      have hstep := dashItems_step l k hlt
      have hfx := fixL_le l[k]
      generalize l[k] = n at *
      have HP := Lib.hid (fun W => Print_fix n W)
      obtain ⟨F, hFx⟩ : ∃ F, F = fixL n := ⟨_, rfl⟩
      rw [← hFx] at hstep hfx HP
      have hz : (asStr F).size ≤ 24 := by rw [asStr_size]; exact hfx
      have HST := Lib.hid hstep
      have HWS := Lib.hid (show ∀ acc W, acc.length ≤ bs.length + 2 + D.length → Fr (but ok w.heap.size) (w.alloc (.cells X 47)) W → BufAt 5 T rest (but ok w.heap.size) b acc W → Calls Tryz.prog 48 #[.pointer (some ⟨b, 0, none⟩), .string (asStr F)] W fun e w' => e = .returned (.tuple #[.int .i64 (asStr F).size, .nilIface]) ∧ BufAt 5 T rest (but ok w.heap.size) b (acc ++ F) w' ∧ Fr (but ok w.heap.size) (w.alloc (.cells X 47)) w' from fun acc W hacl hW hBW => by
        have h1 := writeString_any (T := T) (rest := rest) (ok := but ok w.heap.size) (bs := acc) (asStr F) W hBW (HOK.out W hW.size) (by rw [asStr_size]; omega)
        refine h1.mono fun e w' h' => ⟨h'.1, ?_, hW.trans h'.2.2⟩
        have h2 := h'.2.1
        rw [asStr_data] at h2
        exact h2)
      subst hAl
      clear hstep hfx hFx
      rcases Nat.eq_zero_or_pos k with hk0 | hk0
      · have hnext : Hid ((acc ++ F) ++ dashItems (k + 1 == 0) (l.drop (k + 1)) = (bs ++ [91]) ++ D) := by
          show _ = _
          rw [← hacc.out, HST.out, hk0, List.append_assoc]
          rfl
        have hgt : decide (0 < k) = false := decide_eq_false (by omega)
        have HK := Lib.hid hk0
        clear hk0
        go_wp2_with fail
        clear hcell
        go_region_with (first
          | (go_at_call 49
             go_loud (refine (HP.out _).mono ?_)
             rintro e w2 ⟨rfl, q2⟩
             have BW := Lib.hid (BufAt.below (BufAt.drew hB.out) q2)
             have FW := Lib.hid ((Fr.drew hF.out).trans (Fr.of_below (but ok w.heap.size) q2))
             clear q2)
          | (go_at_call 48
             go_loud (refine (HWS.out _ _ (by first | omega | (simp only [List.length_append, List.length_cons, List.length_nil]; omega)) FW.out BW.out).mono ?_)
             rintro e w3 ⟨rfl, b3, f3⟩
             have B3 := Lib.hid b3
             have F3 := Lib.hid f3
             clear b3 f3))
        all_goals (
          go_wp2_with fail
          go_roundw
          case rel => exact ⟨k + 1, _, by omega, by go_num, hnext, B3, F3⟩
          case measure => simp [intOf]; omega)
      · have hnext : Hid ((acc ++ [32] ++ F) ++ dashItems (k + 1 == 0) (l.drop (k + 1)) = (bs ++ [91]) ++ D) := by
          show _ = _
          rw [← hacc.out, HST.out, if_neg (by simp; omega)]
          simp only [List.append_assoc]
        have hgt : decide (0 < k) = true := decide_eq_true (by omega)
        have HK := Lib.hid hk0
        clear hk0
        go_wp2_with fail
        refine (writeByte_at (T := T) (rest := rest) (ok := but ok w.heap.size) (bs := acc) 32 _ rfl _ hB.out (HOK.out _ hF.out.size) (by omega)).mono ?_
        rintro e w1 ⟨rfl, b1, f1⟩
        have B1 := Lib.hid b1
        have F1 := Lib.hid (hF.out.trans f1)
        clear b1 f1 hcell
        go_wp2_with fail
        go_region_with (first
          | (go_at_call 49
             go_loud (refine (HP.out _).mono ?_)
             rintro e w2 ⟨rfl, q2⟩
             have BW := Lib.hid (BufAt.below (BufAt.drew B1.out) q2)
             have FW := Lib.hid ((Fr.drew F1.out).trans (Fr.of_below (but ok w.heap.size) q2))
             clear q2)
          | (go_at_call 48
             go_loud (refine (HWS.out _ _ (by first | omega | (simp only [List.length_append, List.length_cons, List.length_nil]; omega)) FW.out BW.out).mono ?_)
             rintro e w3 ⟨rfl, b3, f3⟩
             have B3 := Lib.hid b3
             have F3 := Lib.hid f3
             clear b3 f3))
        all_goals (
          go_wp2_with fail
          go_roundw
          case rel => exact ⟨k + 1, _, by omega, by go_num, hnext, B3, F3⟩
          case measure => simp [intOf]; omega)
    · obtain rfl : k = l.length := by omega
      have hfull : Hid (acc = (bs ++ [91]) ++ D) := by
        have h1 := hacc.out
        rw [List.drop_of_length_le (Nat.le_refl _)] at h1
        have h2 : acc = (bs ++ [91]) ++ D := by simpa [dashItems] using h1
        exact h2
      go_wp2_with fail
      refine (writeString_any (T := T) (rest := rest) (ok := but ok w.heap.size) (bs := acc) ⟨#[93, 32]⟩ wr hB.out (HOK.out _ hF.out.size) (by show acc.length + 2 ≤ _; omega)).mono ?_
      rintro e w2 ⟨rfl, b2, f2⟩
      have B2 := Lib.hid b2
      have F2 := Lib.hid (hF.out.trans f2)
      obtain ⟨-, c5⟩ := HOC.out w2 F2.out
      clear b2 f2
      go_wp2_with fail
      have hw2 : w.heap.size < w2.heap.size := by have := F2.out.size; simp at this; omega
      refine (line_calls (T := T) (rest := rest) (ok := but (but ok w.heap.size) w2.heap.size) (bs := acc ++ [93, 32]) ⟨#[100]⟩ [phase] (some ⟨w2.heap.size, 0, none⟩) 1 _ (by decide) ((B2.out.imp (ok' := but (but ok w.heap.size) w2.heap.size) fun q hq ho => ⟨ho, by omega⟩).alloc _) (fun q hq => ⟨HOK.out w2 F2.out.size q (by simp at hq; omega), by simp at hq; omega⟩) (ints_fresh w2 _ _ [phase] rfl) (fun a ha _ hn => by cases ha; exact hn.2 rfl) (by simp only [List.length_append, List.length_cons, List.length_nil]; omega)).mono ?_
      rintro e w3 ⟨rfl, b3, f3⟩
      have B3 := Lib.hid (BufAt.imp (ok' := ok) b3 fun q _ ho => ho.1.1)
      have F3 := Lib.hid (HFA.out w3 (F2.out.trans ((Fr.alloc (Fr.refl _ w2) _).trans (f3.mono fun q _ ho => ho.1))))
      clear b3 f3 c5
      go_wp2_with fail
      go_end0
      refine ⟨rfl, ?_, F3.out⟩
      have h1 := B3.out
      rw [hfull.out] at h1
      simp only [List.append_assoc] at h1 ⊢
      exact h1
end Go.Proofs.YtdkgfgmmmjpkgaaGreatDoor

namespace Go.Proofs.YtdkgfgmmmjpkgaaGreatDoor
open Go.RowKit Go.Shelf

section
variable {T : TypeId} {rest : Array Value} {ok : Nat → Prop} {b : Nat} {bs : List UInt8}
/-- Some cells of a block on top, read as a row. -/
theorem ints_part (w W : World) (cs : Array Value) (T : TypeId) (k : Nat) (l : List Int) (h : ∀ i (hi : i < l.length), cs[k + i]? = some (.int .i64 l[i])) (hW : W.heap[w.heap.size]? = (w.alloc (.cells cs T)).heap[w.heap.size]?) : IntsAt W (some ⟨w.heap.size, k, none⟩) l := by
  refine .inr ⟨w.heap.size, k, rfl, fun i hi j v hj => ?_⟩
  have hj0 : j = 0 := by
    have := (Array.getElem?_eq_some_iff.1 hj).1
    simpa using this
  subst hj0
  have hv : v = .int .i64 l[i] := by
    have : v = .int .i64 (l.getD i 0) := by simpa using hj.symm
    rw [this, List.getD_eq_getElem?_getD, List.getElem?_eq_getElem hi]
    rfl
  rw [Lib.cell_of_heap (hW.trans (heap_alloc_new w _)), hv, Nat.mul_one, Nat.add_zero]
  exact h i hi
set_option maxHeartbeats 1600000 in
set_option maxRecDepth 100000 in
theorem color_1 (p0 p1 p2 p3 : Int) (s0 s1 s2 : ByteArray) (w : World) (hs : s0.size ≤ 16) (h : BufAt 5 T rest ok b bs w) (hok : ∀ k, w.heap.size ≤ k → ok k) (hlim : bs.length + 200 ≤ 70368744177664) :
    Calls Tryz.prog 77 #[.pointer (some ⟨b, 0, none⟩), .agg #[.int .i64 1, .int .i64 p0, .int .i64 p1, .int .i64 p2, .int .i64 p3], .agg #[.string s0, .string s1, .string s2]] w fun e w' => e = .returned (.tuple #[]) ∧ BufAt 5 T rest ok b (bs ++ lineB [p0] s0.data.toList) w' ∧ Fr ok w w' := by
  have HL := Lib.hid (fun X Y => line_calls (T := T) (rest := rest) (ok := but ok w.heap.size) (bs := bs) s0 [p0] (some ⟨w.heap.size, 1, none⟩) 4 ((w.alloc (.cells #[.int .i64 1, .int .i64 p0, .int .i64 p1, .int .i64 p2, .int .i64 p3] X)).alloc Y) hs (((h.imp (ok' := but ok w.heap.size) fun q hq ho => ⟨ho, by omega⟩).alloc _).alloc _) (fun q hq => by simp at hq; exact ⟨hok q (by omega), by omega⟩) (ints_part w _ #[.int .i64 1, .int .i64 p0, .int .i64 p1, .int .i64 p2, .int .i64 p3] X 1 [p0] (fun i hi => by
      match i, hi with
      | 0, _ => rfl
      ) (Lib.alloc_old _ _ _ (by simp))) (fun a ha _ hn => by cases ha; exact hn.2 rfl) (by simp only [List.length_cons, List.length_nil]; omega))
  clear h hok hlim
  go_enter Tryz.func77, Tryz.ntmps77
  go_wp2_with fail
  refine (HL.out _ _).mono ?_
  rintro e w1 ⟨rfl, b1, f1⟩
  have B1 := Lib.hid (BufAt.imp (ok' := ok) b1 fun q _ ho => ho.1)
  have F1 := Lib.hid ((Fr.alloc (Fr.alloc (Fr.refl ok w) _) _).trans (f1.mono fun q _ ho => ho.1))
  clear b1 f1
  go_wp2_with fail
  go_end0
  exact ⟨rfl, B1.out, F1.out⟩
set_option maxHeartbeats 1600000 in
set_option maxRecDepth 100000 in
theorem color_3 (p0 p1 p2 p3 : Int) (s0 s1 s2 : ByteArray) (w : World) (hs : s1.size ≤ 16) (h : BufAt 5 T rest ok b bs w) (hok : ∀ k, w.heap.size ≤ k → ok k) (hlim : bs.length + 200 ≤ 70368744177664) :
    Calls Tryz.prog 77 #[.pointer (some ⟨b, 0, none⟩), .agg #[.int .i64 3, .int .i64 p0, .int .i64 p1, .int .i64 p2, .int .i64 p3], .agg #[.string s0, .string s1, .string s2]] w fun e w' => e = .returned (.tuple #[]) ∧ BufAt 5 T rest ok b (bs ++ lineB [p0, p1, p2] s1.data.toList) w' ∧ Fr ok w w' := by
  have HL := Lib.hid (fun X Y => line_calls (T := T) (rest := rest) (ok := but ok w.heap.size) (bs := bs) s1 [p0, p1, p2] (some ⟨w.heap.size, 1, none⟩) 4 ((w.alloc (.cells #[.int .i64 3, .int .i64 p0, .int .i64 p1, .int .i64 p2, .int .i64 p3] X)).alloc Y) hs (((h.imp (ok' := but ok w.heap.size) fun q hq ho => ⟨ho, by omega⟩).alloc _).alloc _) (fun q hq => by simp at hq; exact ⟨hok q (by omega), by omega⟩) (ints_part w _ #[.int .i64 3, .int .i64 p0, .int .i64 p1, .int .i64 p2, .int .i64 p3] X 1 [p0, p1, p2] (fun i hi => by
      match i, hi with
      | 0, _ => rfl
      | 1, _ => rfl
      | 2, _ => rfl
      ) (Lib.alloc_old _ _ _ (by simp))) (fun a ha _ hn => by cases ha; exact hn.2 rfl) (by simp only [List.length_cons, List.length_nil]; omega))
  clear h hok hlim
  go_enter Tryz.func77, Tryz.ntmps77
  go_wp2_with fail
  refine (HL.out _ _).mono ?_
  rintro e w1 ⟨rfl, b1, f1⟩
  have B1 := Lib.hid (BufAt.imp (ok' := ok) b1 fun q _ ho => ho.1)
  have F1 := Lib.hid ((Fr.alloc (Fr.alloc (Fr.refl ok w) _) _).trans (f1.mono fun q _ ho => ho.1))
  clear b1 f1
  go_wp2_with fail
  go_end0
  exact ⟨rfl, B1.out, F1.out⟩
set_option maxHeartbeats 1600000 in
set_option maxRecDepth 100000 in
theorem color_4 (p0 p1 p2 p3 : Int) (s0 s1 s2 : ByteArray) (w : World) (hs : s2.size ≤ 16) (h : BufAt 5 T rest ok b bs w) (hok : ∀ k, w.heap.size ≤ k → ok k) (hlim : bs.length + 200 ≤ 70368744177664) :
    Calls Tryz.prog 77 #[.pointer (some ⟨b, 0, none⟩), .agg #[.int .i64 4, .int .i64 p0, .int .i64 p1, .int .i64 p2, .int .i64 p3], .agg #[.string s0, .string s1, .string s2]] w fun e w' => e = .returned (.tuple #[]) ∧ BufAt 5 T rest ok b (bs ++ lineB [p0, p1, p2, p3] s2.data.toList) w' ∧ Fr ok w w' := by
  have HL := Lib.hid (fun X Y => line_calls (T := T) (rest := rest) (ok := but ok w.heap.size) (bs := bs) s2 [p0, p1, p2, p3] (some ⟨w.heap.size, 1, none⟩) 4 ((w.alloc (.cells #[.int .i64 4, .int .i64 p0, .int .i64 p1, .int .i64 p2, .int .i64 p3] X)).alloc Y) hs (((h.imp (ok' := but ok w.heap.size) fun q hq ho => ⟨ho, by omega⟩).alloc _).alloc _) (fun q hq => by simp at hq; exact ⟨hok q (by omega), by omega⟩) (ints_part w _ #[.int .i64 4, .int .i64 p0, .int .i64 p1, .int .i64 p2, .int .i64 p3] X 1 [p0, p1, p2, p3] (fun i hi => by
      match i, hi with
      | 0, _ => rfl
      | 1, _ => rfl
      | 2, _ => rfl
      | 3, _ => rfl
      ) (Lib.alloc_old _ _ _ (by simp))) (fun a ha _ hn => by cases ha; exact hn.2 rfl) (by simp only [List.length_cons, List.length_nil]; omega))
  clear h hok hlim
  go_enter Tryz.func77, Tryz.ntmps77
  go_wp2_with fail
  refine (HL.out _ _).mono ?_
  rintro e w1 ⟨rfl, b1, f1⟩
  have B1 := Lib.hid (BufAt.imp (ok' := ok) b1 fun q _ ho => ho.1)
  have F1 := Lib.hid ((Fr.alloc (Fr.alloc (Fr.refl ok w) _) _).trans (f1.mono fun q _ ho => ho.1))
  clear b1 f1
  go_wp2_with fail
  go_end0
  exact ⟨rfl, B1.out, F1.out⟩
end

/-- A colour's operators, as its writer is handed them. -/
theorem color_calls {T : TypeId} {rest : Array Value} {ok : Nat → Prop} {b : Nat} {bs : List UInt8} (c : ColP) (big : Bool) (s0 s1 s2 : ByteArray) (hs0 : s0.data.toList = if big then [71] else [103]) (hs1 : s1.data.toList = if big then [82, 71] else [114, 103]) (hs2 : s2.data.toList = if big then [75] else [107])
    (hz : s0.size ≤ 16 ∧ s1.size ≤ 16 ∧ s2.size ≤ 16) (hsp : c.sp = 1 ∨ c.sp = 3 ∨ c.sp = 4) (w : World) (h : BufAt 5 T rest ok b bs w) (hok : ∀ k, w.heap.size ≤ k → ok k) (hlim : bs.length + 200 ≤ 70368744177664) :
    Calls Tryz.prog 77 #[.pointer (some ⟨b, 0, none⟩), .agg (colA c), .agg #[.string s0, .string s1, .string s2]] w fun e w' => e = .returned (.tuple #[]) ∧ BufAt 5 T rest ok b (bs ++ colB c big) w' ∧ Fr ok w w' := by
  obtain ⟨sp, p0, p1, p2, p3⟩ := c
  simp only at hsp
  rcases hsp with rfl | rfl | rfl
  · have h1 := color_1 p0 p1 p2 p3 s0 s1 s2 w hz.1 h hok hlim
    rw [hs0] at h1
    exact h1
  · have h1 := color_3 p0 p1 p2 p3 s0 s1 s2 w hz.2.1 h hok hlim
    rw [hs1] at h1
    exact h1
  · have h1 := color_4 p0 p1 p2 p3 s0 s1 s2 w hz.2.2 h hok hlim
    rw [hs2] at h1
    exact h1
end Go.Proofs.YtdkgfgmmmjpkgaaGreatDoor

namespace Go.Proofs.YtdkgfgmmmjpkgaaGreatDoor
open Go.RowKit

theorem infoI : (Tryz.prog.info? 3).map (fun i => i.size) = some 1 := by kernel_rfl
theorem infoPt : (Tryz.prog.info? 54).map (fun i => i.size) = some 2 := by kernel_rfl
theorem cellsI' : Tryz.prog.cellsOf 3 = 1 := by kernel_rfl
theorem cellsPt : Tryz.prog.cellsOf 54 = 2 := by kernel_rfl
theorem fields_col : (Tryz.prog.fieldsOf 44).toList.map (fun f => (f.name, f.type, f.offset)) = [("Space", 3, 0), ("Part", 42, 1)] := by kernel_rfl
theorem eq_int (d : Nat) (a b : Int) (w : World) : (Op.equalIn (d + 1) 3 (.int .i64 a) (.int .i64 b)).run Tryz.prog w = .ok (a == b) w := run_equalIn_int w d _ _ _ a b Tryz.underlying3
theorem part_int (cs : Array Value) (k : Nat) (a : Int) (w : World) (h : cs[k]? = some (.int .i64 a)) : (part 3 cs k).run Tryz.prog w = .ok (.int .i64 a) w := by
  simp [part, Tryz.isAgg3, h]
theorem items_ints (d : Nat) (xs ys : Array Value) (w : World) : ∀ (is : List Nat) (us vs : List Int), us.length = is.length → vs.length = is.length → (∀ (j i : Nat) (a : Int), is[j]? = some i → us[j]? = some a → xs[i * 1]? = some (.int .i64 a)) → (∀ (j i : Nat) (a : Int), is[j]? = some i → vs[j]? = some a → ys[i * 1]? = some (.int .i64 a)) →
    (Op.eqItems (d + 1) 3 1 xs ys is).run Tryz.prog w = .ok ((us.zip vs).all fun p => p.1 == p.2) w
  | [], us, vs, h1, h2, _, _ => by
    obtain rfl := List.eq_nil_of_length_eq_zero h1
    obtain rfl := List.eq_nil_of_length_eq_zero h2
    simp [Op.eqItems]
  | i :: is, [], _, h1, _, _, _ => by simp at h1
  | i :: is, _, [], _, h2, _, _ => by simp at h2
  | i :: is, a :: us, b :: vs, h1, h2, h3, h4 => by
    have ih := items_ints d xs ys w is us vs (by simpa using h1) (by simpa using h2) (fun j i' a' hj ha => h3 (j + 1) i' a' (by simpa using hj) (by simpa using ha)) (fun j i' a' hj ha => h4 (j + 1) i' a' (by simpa using hj) (by simpa using ha))
    simp only [Op.eqItems, Sem.run_bind, part_int xs (i * 1) a w (h3 0 i a rfl rfl), part_int ys (i * 1) b w (h4 0 i b rfl rfl), Result.andThen_ok, eq_int]
    by_cases hab : a = b
    · subst hab
      simp only [beq_self_eq_true, Bool.not_true, Bool.false_eq_true, if_false]
      rw [ih]
      simp
    · have : (a == b) = false := beq_eq_false_iff_ne.2 hab
      simp [this]
set_option maxRecDepth 100000 in
theorem eq_arr4 (d : Nat) (a0 a1 a2 a3 b0 b1 b2 b3 : Int) (w : World) :
    (Op.equalIn (d + 2) 42 (.agg #[.int .i64 a0, .int .i64 a1, .int .i64 a2, .int .i64 a3]) (.agg #[.int .i64 b0, .int .i64 b1, .int .i64 b2, .int .i64 b3])).run Tryz.prog w = .ok (a0 == b0 && (a1 == b1 && (a2 == b2 && a3 == b3))) w := by
  obtain ⟨i, hi, -⟩ := Option.map_eq_some_iff.1 infoI
  rw [run_equalIn_array (w := w) (d + 1) _ _ Tryz.underlying42 hi, cellsI']
  rw [items_ints d _ _ w (List.range 4) [a0, a1, a2, a3] [b0, b1, b2, b3] rfl rfl (fun j i a hj ha => ?_) (fun j i a hj ha => ?_)]
  · simp [List.all]
  · match j, hj, ha with
    | 0, hj, ha | 1, hj, ha | 2, hj, ha | 3, hj, ha => cases hj; cases ha; rfl
  · match j, hj, ha with
    | 0, hj, ha | 1, hj, ha | 2, hj, ha | 3, hj, ha => cases hj; cases ha; rfl
theorem under_col : Tryz.prog.underlying 44 = some (.struct (Tryz.prog.fieldsOf 44)) := by kernel_rfl
theorem held_col : Tryz.prog.stoodInHeld 44 = false := by kernel_rfl
theorem two_of_map {α β : Type} {g : α → β} {l : List α} {x y : β} (h : l.map g = [x, y]) : ∃ a b, l = [a, b] ∧ g a = x ∧ g b = y := by
  match l, h with
  | [a, b], h =>
    simp only [List.map_cons, List.map_nil, List.cons.injEq, and_true] at h
    exact ⟨a, b, rfl, h.1, h.2⟩
theorem fieldsL_col : ∃ f g : Field, (Tryz.prog.fieldsOf 44).toList = [f, g] ∧ f.name ≠ "_" ∧ g.name ≠ "_" ∧ f.type = 3 ∧ g.type = 42 ∧ f.offset = 0 ∧ g.offset = 1 := by
  obtain ⟨f, g, h, hf, hg⟩ := two_of_map fields_col
  simp only [Prod.mk.injEq] at hf hg
  exact ⟨f, g, h, by rw [hf.1]; decide, by rw [hg.1]; decide, hf.2.1, hg.2.1, hf.2.2, hg.2.2⟩
theorem size_arr4 : (Tryz.prog.info? 42).map (fun i => i.size) = some 4 := by kernel_rfl
set_option maxRecDepth 100000 in
theorem eq_col (d : Nat) (a0 a1 a2 a3 a4 b0 b1 b2 b3 b4 : Int) (w : World) :
    (Op.equalIn (d + 3) 44 (.agg #[.int .i64 a0, .int .i64 a1, .int .i64 a2, .int .i64 a3, .int .i64 a4]) (.agg #[.int .i64 b0, .int .i64 b1, .int .i64 b2, .int .i64 b3, .int .i64 b4])).run Tryz.prog w = .ok (eqCol ⟨a0, a1, a2, a3, a4⟩ ⟨b0, b1, b2, b3, b4⟩) w := by
  obtain ⟨i, hi, -⟩ := Option.map_eq_some_iff.1 size_arr4
  rw [run_equalIn_struct w (d + 2) _ _ _ under_col held_col]
  obtain ⟨f, g, hfs, hf, hg, hft, hgt, hfo, hgo⟩ := fieldsL_col
  rw [hfs]
  have e1 : ∀ x0 x1 x2 x3 x4 : Value, (part 42 #[x0, x1, x2, x3, x4] 1).run Tryz.prog w = .ok (.agg #[x1, x2, x3, x4]) w := fun x0 x1 x2 x3 x4 => by
    simp only [part, Sem.run_bind, Tryz.isAgg42, Result.andThen_ok, if_true, run_sizeOf w hi]
    rfl
  have e0 : ∀ (x0 : Int) (x1 x2 x3 x4 : Value), (part 3 #[.int .i64 x0, x1, x2, x3, x4] 0).run Tryz.prog w = .ok (.int .i64 x0) w := fun x0 x1 x2 x3 x4 => part_int _ 0 x0 w rfl
  simp only [Op.eqFields, hf, hg, hft, hgt, hfo, hgo, ne_eq, not_false_eq_true, if_true, Sem.run_bind, e0, eq_int, Result.andThen_ok]
  by_cases h0 : a0 = b0
  · subst h0
    cases hh : (a1 == b1 && (a2 == b2 && (a3 == b3 && a4 == b4))) <;> simp [eqCol, hh, e1, eq_arr4]
  · have : (a0 == b0) = false := beq_eq_false_iff_ne.2 h0
    simp [this, eqCol]
theorem neq_col (a0 a1 a2 a3 a4 b0 b1 b2 b3 b4 : Int) (w : World) :
    (binOp .neq 44 (.agg #[.int .i64 a0, .int .i64 a1, .int .i64 a2, .int .i64 a3, .int .i64 a4]) (.agg #[.int .i64 b0, .int .i64 b1, .int .i64 b2, .int .i64 b3, .int .i64 b4])).run Tryz.prog w = .ok (.bool (!(eqCol ⟨a0, a1, a2, a3, a4⟩ ⟨b0, b1, b2, b3, b4⟩))) w := by
  rw [run_neq_struct, eq_col 9997]
  rfl
end Go.Proofs.YtdkgfgmmmjpkgaaGreatDoor

namespace Go.Proofs.YtdkgfgmmmjpkgaaGreatDoor
open Go.RowKit Go.Shelf

theorem eqCol_eq (a c : ColP) (h : eqCol a c = true) : a = c := by
  obtain ⟨a0, a1, a2, a3, a4⟩ := a
  obtain ⟨c0, c1, c2, c3, c4⟩ := c
  simp only [eqCol, Bool.and_eq_true, beq_iff_eq] at h
  obtain ⟨rfl, rfl, rfl, rfl, rfl⟩ := h
  rfl
theorem owns_keep {w w' : World} {B : Nat} {e : TypeId} {size : Nat} {v : Value} {n : Nat} {xs : List Value} (h : w.ownsRow B e size v n xs) (hk : ∀ k, v.ownBlock = some k → w'.heap[k]? = w.heap[k]?) : w'.ownsRow B e size v n xs := by
  refine ⟨h.1, ?_⟩
  rcases h.2 with hn | ⟨g, cap, cur, rfl, hb, hg, r⟩
  · exact .inl hn
  · exact .inr ⟨g, cap, cur, rfl, hb, (hk g rfl).trans hg, r⟩
/-- The blocks that the buffer may touch: those that may turn, without the fonts' own. -/
def okF (ok : Nat → Prop) (vf : Value) (k : Nat) : Prop := ok k ∧ some k ≠ vf.ownBlock

set_option maxHeartbeats 1600000 in
set_option maxRecDepth 100000 in
theorem filled_calls {T : TypeId} {ok : Nat → Prop} {b : Nat} {bs : List UInt8} (c : ColP) (hsp : c.sp = 1 ∨ c.sp = 3 ∨ c.sp = 4) (w0 w : World) (st : StP) (fs : List Int) (h : DrAt T w0 ok b bs st fs w) (hok : ∀ k, w.heap.size ≤ k → ok k) (hlim : bs.length + 300 ≤ 70368744177664) :
    Calls Tryz.prog 46 #[.pointer (some ⟨b, 0, none⟩), .agg (colA c)] w fun e w' => e = .returned (.tuple #[]) ∧ DrAt T w0 ok b (bs ++ (if eqCol c st.so.fill then [] else colB c false)) ⟨⟨c, st.so.stroke, st.so.pen⟩, st.outer, st.clips⟩ fs w' ∧ Fr ok w w' := by
  obtain ⟨Ad, cd, Ao, co, Ac, cc, vf, hB, hD, hC, hf, hfo⟩ := h
  obtain ⟨⟨fill, stroke, pen⟩, outer, clips⟩ := st
  simp only at hD hC ⊢
  have hbn : some b ≠ vf.ownBlock := hB.ok_.2
  have hokb : ok b := hB.ok_.1
  have HN := Lib.hid (show ∀ W : World, w.heap.size ≤ W.heap.size → ∀ q, W.heap.size ≤ q → okF ok vf q from fun W hW q hq => ⟨hok q (by omega), fun he => by have := hf.lt q he.symm; omega⟩)
  have hblt := hB.lt
  obtain ⟨f0, f1, f2, f3, f4⟩ := fill
  obtain ⟨c0, c1, c2, c3, c4⟩ := c
  have d0 := hB.rest_cell 0 (.int .i64 f0) rfl
  have d1 := hB.rest_cell 1 (.int .i64 f1) rfl
  have d2 := hB.rest_cell 2 (.int .i64 f2) rfl
  have d3 := hB.rest_cell 3 (.int .i64 f3) rfl
  have d4 := hB.rest_cell 4 (.int .i64 f4) rfl
  simp only [Nat.add_zero, Nat.reduceAdd] at d0 d1 d2 d3 d4
  have HNE := fun W : World => neq_col c0 c1 c2 c3 c4 f0 f1 f2 f3 f4 W
  have HEQ := Lib.hid (eqCol_eq ⟨c0, c1, c2, c3, c4⟩ ⟨f0, f1, f2, f3, f4⟩)
  generalize eqCol ⟨c0, c1, c2, c3, c4⟩ ⟨f0, f1, f2, f3, f4⟩ = e at *
  have HF := Lib.hid hf
  have HFO := Lib.hid hfo
  have HD := Lib.hid hD
  have HC := Lib.hid hC
  have HBN := Lib.hid hbn
  have HOB := Lib.hid hokb
  have HCOL := Lib.hid (fun X n => color_calls (T := T) (rest := restC ⟨⟨⟨f0, f1, f2, f3, f4⟩, stroke, pen⟩, outer, clips⟩ Ad cd Ao co Ac cc vf) (ok := but (okF ok vf) w.heap.size) (b := b) (bs := bs) ⟨c0, c1, c2, c3, c4⟩ false ⟨#[103]⟩ ⟨#[114, 103]⟩ ⟨#[107]⟩ rfl rfl rfl ⟨by decide, by decide, by decide⟩ hsp ((w.alloc X).drewN n) (((hB.imp (ok' := but (okF ok vf) w.heap.size) fun q hq ho => ⟨ho, by omega⟩).alloc X).below (below_drewN (Below.refl _ _) n)) (fun q hq => ⟨HN.out ((w.alloc X).drewN n) (by show _ ≤ (w.alloc X).heap.size; simp) q hq, by have : (w.alloc X).heap.size ≤ q := hq; simp at this; omega⟩) (by omega))
  have HBW := Lib.hid hB
  clear hB hD hC hf hfo hbn hokb hsp
  unfold colA
  simp only
  go_enter Tryz.func46, Tryz.ntmps46
  go_wp2_with fail
  go_quiet (fail)
  cases e with
  | true =>
    go_wp2_with fail
    go_end0
    cases HEQ.out (by first | rfl | trivial)
    refine ⟨rfl, ?_, (Fr.alloc (Fr.refl ok w) _).drewN nq⟩
    exact ⟨Ad, cd, Ao, co, Ac, cc, vf, (HBW.out.alloc _).below (below_drewN (Below.refl _ _) nq), HD.out, HC.out, owns_keep HF.out (fun q hq => Lib.alloc_old _ _ q (HF.out.lt q hq).2), HFO.out⟩
  | false =>
    go_wp2_with fail
    refine (HCOL.out _ nq).mono ?_
    rintro e w1 ⟨rfl, b1, f1'⟩
    have B1 := Lib.hid (BufAt.imp (ok' := okF ok vf) b1 fun q _ ho => ho.1)
    have f2' := (Fr.drewN (Fr.refl (but (okF ok vf) w.heap.size) (w.alloc (.cells #[.int .i64 c0, .int .i64 c1, .int .i64 c2, .int .i64 c3, .int .i64 c4] 44))) nq).trans f1'
    have s0 := own_cell f2' 0 _ rfl
    have s1 := own_cell f2' 1 _ rfl
    have s2 := own_cell f2' 2 _ rfl
    have s3 := own_cell f2' 3 _ rfl
    have s4 := own_cell f2' 4 _ rfl
    have F1 := Lib.hid ((Fr.alloc (Fr.refl (okF ok vf) w) _).trans (f2'.mono fun q _ ho => ho.1))
    have e0 := b1.rest_cell 0 (.int .i64 f0) rfl
    have e1 := b1.rest_cell 1 (.int .i64 f1) rfl
    have e2 := b1.rest_cell 2 (.int .i64 f2) rfl
    have e3 := b1.rest_cell 3 (.int .i64 f3) rfl
    have e4 := b1.rest_cell 4 (.int .i64 f4) rfl
    simp only [Nat.add_zero, Nat.reduceAdd] at e0 e1 e2 e3 e4
    have z3 := b1.fz 3
    have z4 := b1.fz 4
    have z5 := b1.fz 5
    have z6 := b1.fz 6
    have z7 := b1.fz 7
    clear b1 f1' f2'
    go_wp2_with fail
    go_end0
    have hb5 := ((((B1.out.set_rest 0 (.int .i64 c0)).set_rest 1 (.int .i64 c1)).set_rest 2 (.int .i64 c2)).set_rest 3 (.int .i64 c3)).set_rest 4 (.int .i64 c4)
    have hokb : okF ok vf b := ⟨HOB.out, HBN.out⟩
    have hfr := ((((F1.out.setCell (p := ⟨b, 3, none⟩) (.inr hokb) (.int .i64 c0)).setCell (p := ⟨b, 4, none⟩) (.inr hokb) (.int .i64 c1)).setCell (p := ⟨b, 5, none⟩) (.inr hokb) (.int .i64 c2)).setCell (p := ⟨b, 6, none⟩) (.inr hokb) (.int .i64 c3)).setCell (p := ⟨b, 7, none⟩) (.inr hokb) (.int .i64 c4)
    exact ⟨rfl, ⟨Ad, cd, Ao, co, Ac, cc, vf, hb5, HD.out, HC.out, owns_keep HF.out (fun q hq => hfr.block q (HF.out.lt q hq).2 (fun ho => ho.2 hq.symm)), HFO.out⟩, hfr.mono fun q _ ho => ho.1⟩
set_option maxHeartbeats 1600000 in
set_option maxRecDepth 100000 in
theorem stroked_calls {T : TypeId} {ok : Nat → Prop} {b : Nat} {bs : List UInt8} (c : ColP) (hsp : c.sp = 1 ∨ c.sp = 3 ∨ c.sp = 4) (w0 w : World) (st : StP) (fs : List Int) (h : DrAt T w0 ok b bs st fs w) (hok : ∀ k, w.heap.size ≤ k → ok k) (hlim : bs.length + 300 ≤ 70368744177664) :
    Calls Tryz.prog 43 #[.pointer (some ⟨b, 0, none⟩), .agg (colA c)] w fun e w' => e = .returned (.tuple #[]) ∧ DrAt T w0 ok b (bs ++ (if eqCol c st.so.stroke then [] else colB c true)) ⟨⟨st.so.fill, c, st.so.pen⟩, st.outer, st.clips⟩ fs w' ∧ Fr ok w w' := by
  obtain ⟨Ad, cd, Ao, co, Ac, cc, vf, hB, hD, hC, hf, hfo⟩ := h
  obtain ⟨⟨fill, stroke, pen⟩, outer, clips⟩ := st
  simp only at hD hC ⊢
  have hbn : some b ≠ vf.ownBlock := hB.ok_.2
  have hokb : ok b := hB.ok_.1
  have HN := Lib.hid (show ∀ W : World, w.heap.size ≤ W.heap.size → ∀ q, W.heap.size ≤ q → okF ok vf q from fun W hW q hq => ⟨hok q (by omega), fun he => by have := hf.lt q he.symm; omega⟩)
  have hblt := hB.lt
  obtain ⟨f0, f1, f2, f3, f4⟩ := stroke
  obtain ⟨c0, c1, c2, c3, c4⟩ := c
  have d0 := hB.rest_cell 5 (.int .i64 f0) rfl
  have d1 := hB.rest_cell 6 (.int .i64 f1) rfl
  have d2 := hB.rest_cell 7 (.int .i64 f2) rfl
  have d3 := hB.rest_cell 8 (.int .i64 f3) rfl
  have d4 := hB.rest_cell 9 (.int .i64 f4) rfl
  simp only [Nat.reduceAdd] at d0 d1 d2 d3 d4
  have HNE := fun W : World => neq_col c0 c1 c2 c3 c4 f0 f1 f2 f3 f4 W
  have HEQ := Lib.hid (eqCol_eq ⟨c0, c1, c2, c3, c4⟩ ⟨f0, f1, f2, f3, f4⟩)
  generalize eqCol ⟨c0, c1, c2, c3, c4⟩ ⟨f0, f1, f2, f3, f4⟩ = e at *
  have HF := Lib.hid hf
  have HFO := Lib.hid hfo
  have HD := Lib.hid hD
  have HC := Lib.hid hC
  have HBN := Lib.hid hbn
  have HOB := Lib.hid hokb
  have HCOL := Lib.hid (fun X n => color_calls (T := T) (rest := restC ⟨⟨fill, ⟨f0, f1, f2, f3, f4⟩, pen⟩, outer, clips⟩ Ad cd Ao co Ac cc vf) (ok := but (okF ok vf) w.heap.size) (b := b) (bs := bs) ⟨c0, c1, c2, c3, c4⟩ true ⟨#[71]⟩ ⟨#[82, 71]⟩ ⟨#[75]⟩ rfl rfl rfl ⟨by decide, by decide, by decide⟩ hsp ((w.alloc X).drewN n) (((hB.imp (ok' := but (okF ok vf) w.heap.size) fun q hq ho => ⟨ho, by omega⟩).alloc X).below (below_drewN (Below.refl _ _) n)) (fun q hq => ⟨HN.out ((w.alloc X).drewN n) (by show _ ≤ (w.alloc X).heap.size; simp) q hq, by have : (w.alloc X).heap.size ≤ q := hq; simp at this; omega⟩) (by omega))
  have HBW := Lib.hid hB
  clear hB hD hC hf hfo hbn hokb hsp
  unfold colA
  simp only
  go_enter Tryz.func43, Tryz.ntmps43
  go_wp2_with fail
  go_quiet (fail)
  cases e with
  | true =>
    go_wp2_with fail
    go_end0
    cases HEQ.out (by first | rfl | trivial)
    refine ⟨rfl, ?_, (Fr.alloc (Fr.refl ok w) _).drewN nq⟩
    exact ⟨Ad, cd, Ao, co, Ac, cc, vf, (HBW.out.alloc _).below (below_drewN (Below.refl _ _) nq), HD.out, HC.out, owns_keep HF.out (fun q hq => Lib.alloc_old _ _ q (HF.out.lt q hq).2), HFO.out⟩
  | false =>
    go_wp2_with fail
    refine (HCOL.out _ nq).mono ?_
    rintro e w1 ⟨rfl, b1, f1'⟩
    have B1 := Lib.hid (BufAt.imp (ok' := okF ok vf) b1 fun q _ ho => ho.1)
    have f2' := (Fr.drewN (Fr.refl (but (okF ok vf) w.heap.size) (w.alloc (.cells #[.int .i64 c0, .int .i64 c1, .int .i64 c2, .int .i64 c3, .int .i64 c4] 44))) nq).trans f1'
    have s0 := own_cell f2' 0 _ rfl
    have s1 := own_cell f2' 1 _ rfl
    have s2 := own_cell f2' 2 _ rfl
    have s3 := own_cell f2' 3 _ rfl
    have s4 := own_cell f2' 4 _ rfl
    have F1 := Lib.hid ((Fr.alloc (Fr.refl (okF ok vf) w) _).trans (f2'.mono fun q _ ho => ho.1))
    have e0 := b1.rest_cell 5 (.int .i64 f0) rfl
    have e1 := b1.rest_cell 6 (.int .i64 f1) rfl
    have e2 := b1.rest_cell 7 (.int .i64 f2) rfl
    have e3 := b1.rest_cell 8 (.int .i64 f3) rfl
    have e4 := b1.rest_cell 9 (.int .i64 f4) rfl
    simp only [Nat.reduceAdd] at e0 e1 e2 e3 e4
    have z3 := b1.fz 8
    have z4 := b1.fz 9
    have z5 := b1.fz 10
    have z6 := b1.fz 11
    have z7 := b1.fz 12
    clear b1 f1' f2'
    go_wp2_with fail
    go_end0
    have hb5 := ((((B1.out.set_rest 5 (.int .i64 c0)).set_rest 6 (.int .i64 c1)).set_rest 7 (.int .i64 c2)).set_rest 8 (.int .i64 c3)).set_rest 9 (.int .i64 c4)
    have hokb : okF ok vf b := ⟨HOB.out, HBN.out⟩
    have hfr := ((((F1.out.setCell (p := ⟨b, 8, none⟩) (.inr hokb) (.int .i64 c0)).setCell (p := ⟨b, 9, none⟩) (.inr hokb) (.int .i64 c1)).setCell (p := ⟨b, 10, none⟩) (.inr hokb) (.int .i64 c2)).setCell (p := ⟨b, 11, none⟩) (.inr hokb) (.int .i64 c3)).setCell (p := ⟨b, 12, none⟩) (.inr hokb) (.int .i64 c4)
    exact ⟨rfl, ⟨Ad, cd, Ao, co, Ac, cc, vf, hb5, HD.out, HC.out, owns_keep HF.out (fun q hq => hfr.block q (HF.out.lt q hq).2 (fun ho => ho.2 hq.symm)), HFO.out⟩, hfr.mono fun q _ ho => ho.1⟩
end Go.Proofs.YtdkgfgmmmjpkgaaGreatDoor
