/- An argument of type api.PObj, as it was read, is an object in memory (ORd); its size is below the reading's bulk. -/
import Derived.Test.YtkcdckcckpgliaaDoorEq
import Derived.Test.YtkcdckcckpgliaaDoorRows
import Derived.DataReads
namespace Go.Proofs.YtkcdckcckpgliaaDoor
open Go.RowKit Go.Shelf

mutual
/-- How much an object holds. -/
def szO : PO → Nat
  | ⟨_, _, t, ks, l, d⟩ => 1 + t.size + szK ks + szOs l + d.length
def szOs : List PO → Nat
  | [] => 0
  | x :: r => szO x + szOs r
def szK : List ByteArray → Nat
  | [] => 0
  | s :: r => s.size + 1 + szK r
end

theorem bulkAll_len {H : Type} : ∀ (l : List (DataW H)), l.length ≤ Rows.uptoBulkAll l
  | [] => by simp
  | d :: r => by
    have ih := bulkAll_len r
    have h1 : 1 ≤ Rows.uptoBulk d := by
      cases d with
      | lit x => cases x <;> simp [Rows.uptoBulk]
      | nil => simp [Rows.uptoBulk]
      | ptr d => simp [Rows.uptoBulk]
      | slice a b => simp [Rows.uptoBulk]
      | agg p => simp [Rows.uptoBulk]
      | iface t d => simp [Rows.uptoBulk]
      | map e => simp [Rows.uptoBulk]
      | held h => simp [Rows.uptoBulk]
    simp only [Rows.uptoBulkAll, List.length_cons]
    omega

section
variable {H : Type} {enc : TypeId × Value → H} {w : World}

theorem cells_get {a : Addr} {n : Nat} {cs : List Value} (h : w.cells? 0 a n = some cs) : cs.length = n ∧ ∀ i, i < n → w.cell? (a.add i) = cs[i]? := by
  unfold World.cells? at h
  rw [if_pos (Nat.zero_le _)] at h
  have h1 := mapM_some_length h
  rw [List.length_range] at h1
  exact ⟨h1, fun i hi => mapM_some_get h i i (by rw [List.getElem?_range hi])⟩
theorem rd_int {f : Nat} {cs : List Value} {x : DataW H × List MemPlace} (h : DataW.trod enc Tryd.prog w 0 (fun _ => true) true f 3 cs = some x) : ∃ k, cs = [.int .i64 k] ∧ x = (.lit (.int .i64 k), []) := by
  cases f with
  | zero => simp [DataW.trod] at h
  | succ f =>
    unfold DataW.trod at h
    rw [Tryd.underlying3] at h
    rcases cs with _ | ⟨c, _ | ⟨c2, r⟩⟩
    · simp at h
    · cases c <;> simp at h
      obtain ⟨⟨rfl, _⟩, rfl⟩ := h
      exact ⟨_, rfl, rfl⟩
    · cases c <;> simp at h
theorem rd_string {f : Nat} {cs : List Value} {x : DataW H × List MemPlace} (h : DataW.trod enc Tryd.prog w 0 (fun _ => true) true f 9 cs = some x) : ∃ s : ByteArray, cs = [.string s] ∧ s.size ≤ maxLen ∧ x = (.lit (.string s.data.toList), []) := by
  cases f with
  | zero => simp [DataW.trod] at h
  | succ f =>
    unfold DataW.trod at h
    rw [Tryd.underlying9] at h
    rcases cs with _ | ⟨c, _ | ⟨c2, r⟩⟩
    · simp at h
    · cases c <;> simp at h
      obtain ⟨h1, rfl⟩ := h
      exact ⟨_, rfl, h1, rfl⟩
    · cases c <;> simp at h
theorem rd_u8 {f : Nat} {cs : List Value} {x : DataW H × List MemPlace} (h : DataW.trod enc Tryd.prog w 0 (fun _ => true) true f 5 cs = some x) : ∃ k, cs = [.int .u8 k] ∧ (Lit.int .u8 k).wf = true ∧ x = (.lit (.int .u8 k), []) := by
  cases f with
  | zero => simp [DataW.trod] at h
  | succ f =>
    unfold DataW.trod at h
    rw [Tryd.underlying5] at h
    rcases cs with _ | ⟨c, _ | ⟨c2, r⟩⟩
    · simp at h
    · cases c <;> simp at h
      obtain ⟨⟨rfl, h1⟩, rfl⟩ := h
      exact ⟨_, rfl, h1, rfl⟩
    · cases c <;> simp at h
/-- A slice: nil, or a row of elements that were each read. -/
theorem rd_slice {f : Nat} {t e : TypeId} (ht : Tryd.prog.underlying t = some (.slice e)) {cs : List Value} {x : DataW H × List MemPlace} (h : DataW.trod enc Tryd.prog w 0 (fun _ => true) true f t cs = some x) :
    (cs = [.slice none 0 0] ∧ x.1 = .nil) ∨ ∃ (a : Addr) (len cap : Nat) (elems : List (DataW H × List MemPlace)) (spare : List (DataW H)) (f' : Nat), f' < f ∧ cs = [.slice (some a) len cap] ∧ len ≤ cap ∧ cap ≤ maxLen ∧ x.1 = .slice (elems.map (·.1)) spare ∧ elems.length = len ∧ len + spare.length = cap ∧
      ∀ i (hi : i < elems.length), ∃ ecs, w.cells? 0 (a.add (i * Tryd.prog.cellsOf e)) (Tryd.prog.cellsOf e) = some ecs ∧ DataW.trod enc Tryd.prog w 0 (fun _ => true) true f' e ecs = some elems[i] := by
  cases f with
  | zero => simp [DataW.trod] at h
  | succ f =>
    unfold DataW.trod at h
    rw [ht] at h
    rcases cs with _ | ⟨c, _ | ⟨c2, r⟩⟩
    · simp at h
    · cases c <;> try (simp at h; done)
      rename_i A len cap
      cases A with
      | none =>
        left
        cases len <;> cases cap <;> simp at h
        subst h
        exact ⟨rfl, rfl⟩
      | some a =>
        right
        simp only at h
        split at h
        · rename_i hc
          obtain ⟨elems, h1, h2⟩ := Option.bind_eq_some_iff.1 h
          obtain ⟨rest, h3, h4⟩ := Option.map_eq_some_iff.1 h2
          rw [if_pos trivial] at h3
          have hl3 := mapM_some_length h3
          rw [List.length_range] at hl3
          have hl := mapM_some_length h1
          rw [List.length_range] at hl
          refine ⟨a, len, cap, elems, rest.map (·.1), f, Nat.lt_succ_self _, rfl, hc.2.1, hc.2.2, by rw [← h4], hl, by rw [List.length_map, hl3]; omega, fun i hi => ?_⟩
          have h5 := mapM_some_get h1 i i (by rw [List.getElem?_range (by omega)])
          rw [List.getElem?_eq_getElem hi] at h5
          exact Option.bind_eq_some_iff.1 h5
        · simp at h
    · cases c <;> simp at h
theorem build {α : Type} {n : Nat} {P : Nat → α → Prop} (h : ∀ i, i < n → ∃ o, P i o) : ∃ l : List α, l.length = n ∧ ∀ i (hi : i < l.length), P i l[i] := by
  induction n with
  | zero => exact ⟨[], rfl, fun i hi => absurd hi (Nat.not_lt_zero _)⟩
  | succ n ih =>
    obtain ⟨l, hl, hp⟩ := ih fun i hi => h i (by omega)
    obtain ⟨o, ho⟩ := h n (by omega)
    refine ⟨l ++ [o], by simp [hl], fun i hi => ?_⟩
    by_cases h1 : i < l.length
    · rw [List.getElem_append_left h1]; exact hp i h1
    · have h2 : i = n := by simp at hi; omega
      subst h2
      rw [List.getElem_append_right (by omega)]
      simpa [hl] using ho
theorem row_spot {a : Addr} {z : Nat} {ecs : List Value} (hz : 0 < z) (h : w.cells? 0 (a.add (0 * z)) z = some ecs) : ∃ b off, a = ⟨b, off, none⟩ := by
  obtain ⟨h1, h2⟩ := cells_get h
  have h3 := h2 0 hz
  rw [Nat.zero_mul] at h3
  have h4 : (a.add 0).add 0 = a := by simp [Addr.add]
  rw [h4, List.getElem?_eq_getElem (by omega)] at h3
  have h5 := cell_spot h3
  obtain ⟨b, off, sp⟩ := a
  simp only at h5
  subst h5
  exact ⟨b, off, rfl⟩
/-- A slice whose elements are each read as P says. -/
theorem rd_row {f : Nat} {t e : TypeId} {z : Nat} (ht : Tryd.prog.underlying t = some (.slice e)) (hz : Tryd.prog.cellsOf e = z) (hz0 : 0 < z) {cs : List Value} {x : DataW H × List MemPlace} (h : DataW.trod enc Tryd.prog w 0 (fun _ => true) true f t cs = some x) {α : Type} (P : α → List Value → DataW H → Prop)
    (hP : ∀ f', f' < f → ∀ ecs y, DataW.trod enc Tryd.prog w 0 (fun _ => true) true f' e ecs = some y → ∃ o, P o ecs y.1) :
    ∃ (A : Option Addr) (cap : Nat) (l : List α) (es : Nat → List Value) (ds : List (DataW H)), cs = [.slice A l.length cap] ∧ l.length ≤ cap ∧ cap ≤ Rows.uptoBulk x.1 ∧ Rows.uptoBulkAll ds + 1 ≤ Rows.uptoBulk x.1 ∧ ds.length = l.length ∧
      (∀ i (hi : i < l.length) (hd : i < ds.length), P l[i] (es i) ds[i]) ∧ RowAt w A l.length z (fun i => (es i).toArray) := by
  rcases rd_slice ht h with ⟨rfl, hx⟩ | ⟨a, len, cap, elems, spare, f', hf', rfl, h1, h2, h3, h4, h45, h5⟩
  · exact ⟨none, 0, [], fun _ => [], [], rfl, Nat.le_refl _, Nat.zero_le _, by rw [hx]; simp [Rows.uptoBulk, Rows.uptoBulkAll], rfl, fun i hi => absurd hi (Nat.not_lt_zero _), .inl rfl⟩
  · rw [hz] at h5
    have h6 : ∀ i, i < elems.length → ∃ q : α × List Value, ∀ hi : i < elems.length, P q.1 q.2 elems[i].1 ∧ w.cells? 0 (a.add (i * z)) z = some q.2 := fun i hi => by
      obtain ⟨ecs, h7, h8⟩ := h5 i hi
      obtain ⟨o, ho⟩ := hP _ hf' _ _ h8
      exact ⟨(o, ecs), fun _ => ⟨ho, h7⟩⟩
    obtain ⟨q, hq, hp⟩ := build h6
    have hsl : (q.map (·.1)).length = len := by rw [List.length_map, hq, h4]
    refine ⟨some a, cap, q.map (·.1), fun i => (q.map (·.2)).getD i [], elems.map (·.1), by rw [hsl], by omega, ?_, ?_, by simp [hq], fun i hi hd => ?_, ?_⟩
    · rw [h3]
      simp only [Rows.uptoBulk]
      have e1 := bulkAll_len (elems.map (·.1))
      have e2 := bulkAll_len spare
      rw [List.length_map] at e1
      omega
    · rw [h3]; simp only [Rows.uptoBulk]; omega
    · have hi' : i < q.length := by simpa using hi
      have h7 := (hp i hi' (by omega)).1
      simpa [List.getD_eq_getElem?_getD, hi'] using h7
    · by_cases h0 : len = 0
      · left; omega
      · right
        have h7 := (hp 0 (by omega) (by omega)).2
        obtain ⟨b, off, rfl⟩ := row_spot hz0 h7
        refine ⟨b, off, rfl, fun i hi j v hj => ?_⟩
        have hi' : i < q.length := by simpa using hi
        have h8 := cells_get (hp i hi' (by omega)).2
        have he : (q.map (·.2)).getD i [] = q[i].2 := by simp [List.getD_eq_getElem?_getD, hi']
        simp only [he, List.getElem?_toArray] at hj
        have hjl : j < z := by
          have := (List.getElem?_eq_some_iff.1 hj).1
          omega
        have h9 := h8.2 j hjl
        rw [Lib.addr_add, Lib.addr_add, hj] at h9
        exact h9
theorem cells1 : Tryd.prog.cellsOf 9 = 1 := by kernel_rfl
theorem cells1b : Tryd.prog.cellsOf 5 = 1 := by kernel_rfl
theorem cellsI : Tryd.prog.cellsOf 3 = 1 := by kernel_rfl
theorem cellsS : Tryd.prog.cellsOf 22 = 1 := by kernel_rfl
theorem cellsO : Tryd.prog.cellsOf 23 = 1 := by kernel_rfl
theorem cellsB : Tryd.prog.cellsOf 24 = 1 := by kernel_rfl
theorem cells6 : Tryd.prog.cellsOf 26 = 6 := by kernel_rfl
theorem szK_le {H : Type} : ∀ (l : List ByteArray) (ds : List (DataW H)), ds.length = l.length → (∀ i (h1 : i < l.length) (h2 : i < ds.length), ds[i] = .lit (.string l[i].data.toList)) → szK l ≤ Rows.uptoBulkAll ds
  | [], _, _, _ => by simp [szK]
  | x :: r, [], h, _ => by simp at h
  | x :: r, d :: ds, h, hh => by
    have h0 := hh 0 (by simp) (by simp)
    simp only [List.getElem_cons_zero] at h0
    have ih := szK_le r ds (by simpa using h) fun i h1 h2 => by
      have := hh (i + 1) (by simpa using h1) (by simpa using h2)
      simpa using this
    have hx : x.data.toList.length = x.size := by rw [Array.length_toList]; rfl
    simp only [szK, Rows.uptoBulkAll, h0, Rows.uptoBulk]
    omega
theorem szK_mem : ∀ (l : List ByteArray) (s : ByteArray), s ∈ l → s.size + 1 ≤ szK l
  | [], s, h => by simp at h
  | x :: r, s, h => by
    rcases List.mem_cons.1 h with rfl | h
    · simp only [szK]; omega
    · have := szK_mem r s h
      simp only [szK]; omega
theorem szOs_le {H : Type} : ∀ (l : List PO) (ds : List (DataW H)), ds.length = l.length → (∀ i (h1 : i < l.length) (h2 : i < ds.length), szO l[i] ≤ Rows.uptoBulk ds[i]) → szOs l ≤ Rows.uptoBulkAll ds
  | [], _, _, _ => by simp [szOs]
  | x :: r, [], h, _ => by simp at h
  | x :: r, d :: ds, h, hh => by
    have h0 := hh 0 (by simp) (by simp)
    simp only [List.getElem_cons_zero] at h0
    have ih := szOs_le r ds (by simpa using h) fun i h1 h2 => by
      have := hh (i + 1) (by simpa using h1) (by simpa using h2)
      simpa using this
    simp only [szOs, Rows.uptoBulkAll]
    omega
theorem bulk_part {H : Type} : ∀ (l : List (DataW H)) (d : DataW H), d ∈ l → Rows.uptoBulk d ≤ Rows.uptoBulkAll l
  | [], d, h => by simp at h
  | x :: r, d, h => by
    rcases List.mem_cons.1 h with rfl | h
    · simp only [Rows.uptoBulkAll]; omega
    · have := bulk_part r d h
      simp only [Rows.uptoBulkAll]; omega
theorem rd_strs {f : Nat} {cs : List Value} {x : DataW H × List MemPlace} (h : DataW.trod enc Tryd.prog w 0 (fun _ => true) true f 22 cs = some x) :
    ∃ (A : Option Addr) (cap : Nat) (l : List ByteArray), cs = [.slice A l.length cap] ∧ l.length ≤ cap ∧ cap ≤ Rows.uptoBulk x.1 ∧ StrsAt w A l ∧ (∀ s, s ∈ l → s.size ≤ Rows.uptoBulk x.1) ∧ szK l + 1 ≤ Rows.uptoBulk x.1 := by
  obtain ⟨A, cap, l, es, ds, h1, h2, h3, h4, h5, h6, h7⟩ := rd_row Tryd.underlying22 cells1 (by decide) h (fun (s : ByteArray) ecs d => ecs = [.string s] ∧ d = .lit (.string s.data.toList)) (fun f' _ ecs y hy => by
    obtain ⟨s, h1, h2, h3⟩ := rd_string hy
    exact ⟨s, h1, by rw [h3]⟩)
  refine ⟨A, cap, l, h1, h2, h3, ?_, fun s hs => ?_, ?_⟩
  · rcases h7 with h7 | ⟨b, off, hA, h7⟩
    · exact .inl (List.eq_nil_of_length_eq_zero h7)
    · refine .inr ⟨b, off, hA, fun i hi => ?_⟩
      have h8 := h7 i hi 0 (.string l[i]) (by show (es i).toArray[0]? = _; rw [(h6 i hi (by omega)).1]; rfl)
      simpa using h8
  · have e1 := szK_mem l s hs
    have e2 := szK_le l ds h5 fun i h1 h2 => (h6 i h1 h2).2
    omega
  · have := szK_le l ds h5 fun i h1 h2 => (h6 i h1 h2).2
    omega
theorem rd_bytes {f : Nat} {cs : List Value} {x : DataW H × List MemPlace} (h : DataW.trod enc Tryd.prog w 0 (fun _ => true) true f 24 cs = some x) :
    ∃ (A : Option Addr) (cap : Nat) (l : List UInt8), cs = [.slice A l.length cap] ∧ l.length ≤ cap ∧ cap ≤ Rows.uptoBulk x.1 ∧ BytesAt w A l ∧ l.length + 1 ≤ Rows.uptoBulk x.1 := by
  obtain ⟨A, cap, l, es, ds, h1, h2, h3, h4, h5, h6, h7⟩ := rd_row Tryd.underlying24 cells1b (by decide) h (fun (c : UInt8) ecs d => ecs = [.int .u8 (c.toNat : Int)]) (fun f' _ ecs y hy => by
    obtain ⟨k, h1, h2, h3⟩ := rd_u8 hy
    have hk : 0 ≤ k ∧ k < 256 := by
      have h4 : IntKind.u8.min ≤ k ∧ k ≤ IntKind.u8.max := by simpa [Lit.wf] using h2
      have h5 : IntKind.u8.min = 0 := by decide
      have h6 : IntKind.u8.max = 255 := by decide
      omega
    exact ⟨UInt8.ofNat k.toNat, by rw [h1, UInt8.toNat_ofNat']; congr; omega⟩)
  refine ⟨A, cap, l, h1, h2, h3, ?_, ?_⟩
  · intro j v hj
    rcases h7 with h7 | ⟨b, off, hA, h7⟩
    · rw [List.eq_nil_of_length_eq_zero h7] at hj; simp [Lib.byteCells] at hj
    · have hjl : j < l.length := by
        have := (List.getElem?_eq_some_iff.1 hj).1
        rwa [Lib.byteCells_length] at this
      have h8 := h7 j hjl 0 (.int .u8 (l[j].toNat : Int)) (by show (es j).toArray[0]? = _; rw [h6 j hjl (by omega)]; rfl)
      refine ⟨_, hA, ?_⟩
      rw [Lib.addr_add]
      have hv : v = .int .u8 (l[j].toNat : Int) := by
        have : (Lib.byteCells l)[j]? = some (.int .u8 (l[j].toNat : Int)) := by simp [Lib.byteCells, hjl]
        rw [this] at hj
        exact (Option.some.inj hj).symm
      rw [hv]
      simpa using h8
  · have := bulkAll_len ds
    omega

/-- THE READING OF AN OBJECT. -/
theorem rd_obj : ∀ (f : Nat) (cs : List Value) (x : DataW H × List MemPlace), DataW.trod enc Tryd.prog w 0 (fun _ => true) true f 26 cs = some x → Rows.uptoBulk x.1 ≤ 1048576 → ∃ o : PO, ORd w o cs.toArray ∧ szO o ≤ Rows.uptoBulk x.1
  | 0, cs, x, h, _ => by simp [DataW.trod] at h
  | f + 1, cs, x, h, hb => by
    unfold DataW.trod at h
    rw [Tryd.underlying26] at h
    simp only [cells6] at h
    split at h
    · rename_i hlen
      obtain ⟨xs, h1, h2⟩ := Option.map_eq_some_iff.1 h
      rcases cs with _ | ⟨c0, _ | ⟨c1, _ | ⟨c2, _ | ⟨c3, _ | ⟨c4, _ | ⟨c5, _ | ⟨c6, r⟩⟩⟩⟩⟩⟩⟩ <;> simp at hlen
      have hl := mapM_some_length h1
      rcases xs with _ | ⟨x0, _ | ⟨x1, _ | ⟨x2, _ | ⟨x3, _ | ⟨x4, _ | ⟨x5, _ | ⟨x6, r⟩⟩⟩⟩⟩⟩⟩ <;> simp at hl
      have g0 := mapM_some_get h1 0 _ rfl
      have g1 := mapM_some_get h1 1 _ rfl
      have g2 := mapM_some_get h1 2 _ rfl
      have g3 := mapM_some_get h1 3 _ rfl
      have g4 := mapM_some_get h1 4 _ rfl
      have g5 := mapM_some_get h1 5 _ rfl
      clear h1 h hlen hl
      simp only [cellsI, cells1, cellsS, cellsO, cellsB] at g0 g1 g2 g3 g4 g5
      obtain ⟨k, e0, d0⟩ := rd_int g0
      obtain ⟨n, e1, d1⟩ := rd_int g1
      obtain ⟨t, e2, -, d2⟩ := rd_string g2
      obtain ⟨Ak, ck, ks, e3, k1, k2, k3, k4, k5⟩ := rd_strs g3
      obtain ⟨Ad, cd, dd, e5, b1, b2, b3, b4⟩ := rd_bytes g5
      subst h2
      simp only [List.map_cons, List.map_nil, Rows.uptoBulk, Rows.uptoBulkAll] at hb
      obtain ⟨Al, cl, l, es, ds, e4, l1, l2, l3, l4, l5, l6⟩ := rd_row Tryd.underlying23 cells6 (by decide) g4 (fun (o : PO) ecs d => Rows.uptoBulk d ≤ 1048576 → ORd w o ecs.toArray ∧ szO o ≤ Rows.uptoBulk d) (fun f' hf' ecs y hy => by
        by_cases hy2 : Rows.uptoBulk y.1 ≤ 1048576
        · obtain ⟨o, ho⟩ := rd_obj f' ecs y hy hy2
          exact ⟨o, fun _ => ho⟩
        · exact ⟨⟨0, 0, ByteArray.empty, [], [], []⟩, fun h => absurd h hy2⟩)
      have hpart : ∀ i (hi : i < ds.length), Rows.uptoBulk ds[i] ≤ Rows.uptoBulkAll ds := fun i hi => bulk_part ds ds[i] (List.getElem_mem hi)
      have hel : ∀ i (hi : i < l.length) (hd : i < ds.length), ORd w l[i] (es i).toArray ∧ szO l[i] ≤ Rows.uptoBulk ds[i] := fun i hi hd => l5 i hi hd (by have := hpart i hd; omega)
      have e0' : c0 = .int .i64 k := by simpa using e0
      have e1' : c1 = .int .i64 n := by simpa using e1
      have e2' : c2 = .string t := by simpa using e2
      have e3' : c3 = .slice Ak ks.length ck := by simpa using e3
      have e4' : c4 = .slice Al l.length cl := by simpa using e4
      have e5' : c5 = .slice Ad dd.length cd := by simpa using e5
      have hts : t.data.toList.length = t.size := by rw [Array.length_toList]; rfl
      have hd2 : Rows.uptoBulk x2.1 = t.size + 1 := by rw [d2]; simp only [Rows.uptoBulk]; omega
      have hd0 : Rows.uptoBulk x0.1 = 1 := by rw [d0]; simp only [Rows.uptoBulk]
      have hd1 : Rows.uptoBulk x1.1 = 1 := by rw [d1]; simp only [Rows.uptoBulk]
      subst e0' e1' e2' e3' e4' e5'
      refine ⟨⟨k, n, t, ks, l, dd⟩, ?_, ?_⟩
      · exact ORd.mk (fun i => (es i).toArray) k3 k1 (by omega) (fun i hi => (hel i hi (by omega)).1) l6 l1 (by omega) b3 b1 (by omega) (by omega) (fun s hs => by have := k4 s hs; omega)
      · have h9 := szOs_le l ds l4 fun i h1 h2 => (hel i h1 h2).2
        simp only [szO, List.map_cons, List.map_nil, Rows.uptoBulk, Rows.uptoBulkAll]
        omega
    · simp at h
  termination_by f => f
end
end Go.Proofs.YtkcdckcckpgliaaDoor
