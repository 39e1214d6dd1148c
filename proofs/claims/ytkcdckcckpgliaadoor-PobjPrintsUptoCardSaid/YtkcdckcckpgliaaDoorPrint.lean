/- pobj.write at every depth; pobj.Print: the bytes of a sound object, or ErrForm. -/
import Derived.Test.YtkcdckcckpgliaaDoorWr3
namespace Go.Proofs.YtkcdckcckpgliaaDoor
open Go.RowKit Go.Shelf

theorem distinctB_named : ∀ (l pre : List ByteArray), distinctB pre l = true → ∀ s, s ∈ l → s.size ≤ 127
  | [], _, _, s, hs => by simp at hs
  | k :: r, pre, h, s, hs => by
    simp only [distinctB, Bool.and_eq_true] at h
    rcases List.mem_cons.1 hs with rfl | h2
    · have := h.1.1
      simp only [namedB, Bool.and_eq_true, decide_eq_true_eq] at this
      exact this.1.2
    · exact distinctB_named r _ h.2 s h2
theorem allB_get {f : PO → Bool} {l : List PO} (h : allB f l = true) (i : Nat) (hi : i < l.length) : f l[i] = true := by
  simp only [allB, Bool.and_eq_true, List.all_eq_true] at h
  exact (h.2 _ (List.getElem_mem hi)).1

/-- One depth more. -/
theorem wr_of (deep : Bool) (f : PO → Bool) (hf : ∀ o, deep = true → f o = true → ∃ d, WrAt d ∧ (∀ o, f o = sndB d o))
    (o : PO) (v : Array Value) (w0 w : World) (T : TypeId) (rest : Array Value) (ok : Nat → Prop) (b : Nat) (bs : List UInt8) (hs : sndK deep f o = true) (ho : ORd w0 o v) (ht : Tab w0) (h0 : Below w0.heap.size w0 w) (hok0 : ∀ k, ok k → w0.heap.size ≤ k)
    (hB : BufAt 5 T rest ok b bs w) (hok : ∀ k, w.heap.size ≤ k → ok k) (hlim : bs.length + (wrL o).length ≤ 70368744177664) (d : Nat) (hd : deep = true → WrAt d) (hfd : deep = true → ∀ o, f o = sndB d o) :
    Calls Tryd.prog 16 #[.pointer (some ⟨b, 0, none⟩), .agg v] w fun e w' => e = .returned (.tuple #[]) ∧ BufAt 5 T rest ok b (bs ++ wrL o) w' ∧ Fr ok w w' := by
  obtain ⟨k, n, t, ks, l, dd⟩ := o
  have hget : deep = true → allB f l = true → ∀ i (h : i < l.length), sndB d l[i] = true := fun h1 h2 i hi => by rw [← hfd h1]; exact allB_get h2 i hi
  unfold sndK at hs
  simp only at hs
  split at hs
  · rename_i h; obtain rfl := eq_of_beq h
    exact wr_0 n t ks l dd v w0 w T rest ok b bs ho ht h0 hB hok hlim
  split at hs
  · rename_i h; obtain rfl := eq_of_beq h
    exact wr_1 n t ks l dd v w0 w T rest ok b bs ho ht h0 hB hok hlim
  split at hs
  · rename_i h; obtain rfl := eq_of_beq h
    simp only [Bool.and_eq_true] at hs
    exact wr_2 n t ks l dd v w0 w T rest ok b bs ho ht h0 hs.2 hB hok hlim
  split at hs
  · rename_i h; obtain rfl := eq_of_beq h
    exact wr_3 n t ks l dd v w0 w T rest ok b bs ho ht h0 hB hok hlim
  split at hs
  · rename_i h; obtain rfl := eq_of_beq h
    simp only [namedB, Bool.and_eq_true, decide_eq_true_eq] at hs
    exact wr_4 n t ks l dd v w0 w T rest ok b bs ho ht h0 hs.2.1.2 hB hok hlim
  split at hs
  · rename_i h; obtain rfl := eq_of_beq h
    simp only [Bool.and_eq_true, decide_eq_true_eq] at hs
    exact wr_5 n t ks l dd v w0 w T rest ok b bs ho ht h0 hs.2 hB hok hlim
  split at hs
  · rename_i h; obtain rfl := eq_of_beq h
    simp only [Bool.and_eq_true, decide_eq_true_eq] at hs
    exact wr_8 n t ks l dd v w0 w T rest ok b bs ho ht h0 ⟨hs.1.2, hs.2⟩ hB hok hlim
  split at hs
  · rename_i h; obtain rfl := eq_of_beq h
    simp only [Bool.and_eq_true, decide_eq_true_eq] at hs
    exact wr_6 d (hd hs.1.1) n t ks l dd v w0 w T rest ok b bs (hget hs.1.1 hs.2) ho ht h0 hok0 hB hok hlim
  split at hs
  · rename_i h; obtain rfl := eq_of_beq h
    simp only [Bool.and_eq_true, decide_eq_true_eq] at hs
    exact wr_7 d (hd hs.1.1.1.1) n t ks l dd v w0 w T rest ok b bs (by have := eq_of_beq hs.1.1.2; omega) (hget hs.1.1.1.1 hs.2) (distinctB_named _ _ hs.1.2) ho ht h0 hok0 hB hok hlim
  split at hs
  · rename_i h; obtain rfl := eq_of_beq h
    simp only [Bool.and_eq_true, decide_eq_true_eq] at hs
    exact wr_9 d (hd hs.1.1.1.1.1.1) n t ks l dd v w0 w T rest ok b bs (by have := eq_of_beq hs.1.1.1.1.2; omega) (hget hs.1.1.1.1.1.1 hs.2) (distinctB_named _ _ hs.1.1.1.2) hs.1.2 ho ht h0 hok0 hB hok hlim
  · simp at hs

theorem wr_all : ∀ d, WrAt d
  | 0 => fun o v w0 w T rest ok b bs hs ho ht h0 hok0 hB hok hlim => wr_of false (fun _ => false) (fun _ h => by simp at h) o v w0 w T rest ok b bs hs ho ht h0 hok0 hB hok hlim 0 (fun h => by simp at h) (fun h => by simp at h)
  | d + 1 => fun o v w0 w T rest ok b bs hs ho ht h0 hok0 hB hok hlim => wr_of true (sndB d) (fun _ _ _ => ⟨d, wr_all d, fun _ => rfl⟩) o v w0 w T rest ok b bs hs ho ht h0 hok0 hB hok hlim d (fun _ => wr_all d) (fun _ _ => rfl)

/-- What Print hands back where it hands back bytes: a row of its own. -/
def Printed (l : List UInt8) (w : World) (e : Ending) (w' : World) : Prop :=
  ∃ g c, e = .returned (.tuple #[.slice (some ⟨g, 0, none⟩) l.length c, .int .i64 0]) ∧ l.length ≤ c ∧ BytesAt w' (some ⟨g, 0, none⟩) l ∧ w.heap.size ≤ g ∧ g < w'.heap.size ∧ Below w.heap.size w w'
theorem arrB_pos (xs : List (List UInt8)) : 0 < (arrB xs).length := by simp [arrB]; omega
theorem pairsB_pos (ks : List ByteArray) (xs : List (List UInt8)) (m : List UInt8) : 0 < (pairsB ks xs m).length := by simp [pairsB]
theorem itoa_pos (n : Int) : 0 < (Lib.itoa n).length := by
  unfold Lib.itoa
  split
  · simp
  · rw [Lib.decDigits_length]
    unfold Lib.nDigits
    split <;> omega
theorem wrL_pos (o : PO) : 0 < (wrL o).length := by
  obtain ⟨k, n, t, ks, l, dd⟩ := o
  rw [wrL]
  split
  · decide
  split
  · cases (n == 1) <;> decide
  split
  · exact itoa_pos n
  split
  · unfold realL
    split <;> simp <;> omega
  split
  · simp [nameL]
  split
  · simp [textL]
  split
  · simp
  split
  · exact arrB_pos _
  split
  · exact pairsB_pos _ _ _
  · simp [streamB]; omega

set_option maxHeartbeats 1600000 in
set_option maxRecDepth 100000 in
theorem Print_calls (o : PO) (v : Array Value) (w : World) (ho : ORd w o v) (ht : Tab w) (hs : sndB 32 o = true) (hlim : (wrL o).length ≤ 70368744177664) :
    Calls Tryd.prog 8 #[.agg v] w (Printed (wrL o) w) := by
  have HO := Lib.hid (fun X : Obj => ho.keep (below_alloc w X))
  have HO2 := Lib.hid (fun W (h : Below w.heap.size w W) => ho.keep h)
  have HT := Lib.hid (fun W (h : Below w.heap.size w W) => ht.keep h)
  have HWR := Lib.hid (fun W h1 ok h2 b h3 h4 => wr_all 32 o v w W 42 #[] ok b [] hs ho ht h1 h2 h3 h4 (by simpa using hlim))
  have HS := Lib.hid (fun W v h => hs ▸ Sound_calls o v W h)
  have HBA := Lib.hid (fun X : Obj => below_alloc w X)
  have hsz : ∀ X, (w.alloc X).heap.size = w.heap.size + 1 := fun X => by simp
  obtain ⟨n, t, Ak, ck, Al, cl, Ad, cd, rfl⟩ := ho.agg
  clear ho ht
  go_enter Tryd.func8, Tryd.ntmps8
  go_wp2_with fail
  refine (HS.out _ _ (HO.out _)).mono ?_
  rintro e w1 ⟨rfl, h1⟩
  have B01 := Lib.hid ((HBA.out _).trans (h1.mono (by rw [hsz]; omega)))
  have hz1 : w.heap.size < w1.heap.size := by have := h1.size; rw [hsz] at this; omega
  have HB0 := Lib.hid (show BufAt 5 42 #[] (fun k => w1.heap.size ≤ k) w1.heap.size [] (w1.alloc (.cells (#[.slice none 0 0, .int .i64 0, .int .i8 0] ++ #[]) 42)) from BufAt.fresh _ _ _ _ w1 (Nat.le_refl _))
  obtain ⟨hc, hf⟩ := bcell h1
  have c0 := hc w.heap.size 0 (by simp)
  have c1 := hc w.heap.size 1 (by simp)
  have c2 := hc w.heap.size 2 (by simp)
  have c3 := hc w.heap.size 3 (by simp)
  have c4 := hc w.heap.size 4 (by simp)
  have c5 := hc w.heap.size 5 (by simp)
  have f0 := hf w.heap.size 0 (by simp)
  clear h1 hc hf hsz
  go_wp2_with fail
  refine (HWR.out _ (B01.out.trans ((below_alloc w1 _).mono B01.out.size)) (fun k => w1.heap.size ≤ k) (fun k hk => by omega) w1.heap.size HB0.out (fun k hk => by simp at hk; omega)).mono ?_
  rintro e w2 ⟨rfl, h2, f2⟩
  have H2 := Lib.hid h2
  have F2 := Lib.hid f2
  clear h2 f2
  go_wp2_with fail
  refine (bytes_any (T := 42) (rest := #[]) (ok := fun k => w1.heap.size ≤ k) w2 H2.out).mono ?_
  rintro e w3 ⟨A, c, rfl, hlc, hba, hA, hN, n, hw3⟩
  have hne : A ≠ none := fun h => by
    have h1 := (hN h).1
    have h2 := wrL_pos o
    rw [List.nil_append] at h1
    rw [h1] at h2
    simp at h2
  obtain ⟨a, rfl⟩ := Option.ne_none_iff_exists'.1 hne
  obtain ⟨g, rfl, hg1, hg2, hg3⟩ := hA a rfl
  have HW := Lib.hid hw3
  have HBA := Lib.hid hba
  have HLC := Lib.hid hlc
  clear hA hN hne hw3 hba hlc
  rw [List.nil_append] at *
  go_wp2_with fail
  go_ret2
  refine ⟨g, c, rfl, HLC.out, ?_, by omega, ?_, ?_⟩
  · rw [HW.out]; exact HBA.out
  · rw [HW.out]; exact hg3
  · have b2 : Below w1.heap.size w1 w2 := ((Below.refl _ _).alloc (Nat.le_refl _) _).trans (F2.out.below (by simp))
    have b3 : Below w.heap.size w w2 := B01.out.trans (b2.mono B01.out.size)
    rw [HW.out]
    exact ⟨b3.os, b3.tape, b3.output, b3.size, b3.block⟩

set_option maxHeartbeats 800000 in
set_option maxRecDepth 100000 in
theorem Print_no (o : PO) (v : Array Value) (w : World) (ho : ORd w o v) (hs : sndB 32 o = false) :
    Calls Tryd.prog 8 #[.agg v] w fun e w' => e = .returned (.tuple #[.slice none 0 0, .int .i64 22]) ∧ Below w.heap.size w w' := by
  have HO := Lib.hid (fun X : Obj => ho.keep (below_alloc w X))
  have HS := Lib.hid (fun W v h => hs ▸ Sound_calls o v W h)
  have HBA := Lib.hid (fun X : Obj => below_alloc w X)
  have hsz : ∀ X, (w.alloc X).heap.size = w.heap.size + 1 := fun X => by simp
  obtain ⟨n, t, Ak, ck, Al, cl, Ad, cd, rfl⟩ := ho.agg
  clear ho
  go_enter Tryd.func8, Tryd.ntmps8
  go_wp2_with fail
  refine (HS.out _ _ (HO.out _)).mono ?_
  rintro e w1 ⟨rfl, h1⟩
  have B01 := Lib.hid ((HBA.out _).trans (h1.mono (by rw [hsz]; omega)))
  clear h1 hsz
  go_wp2_with fail
  go_ret2
  exact ⟨rfl, B01.out⟩
end Go.Proofs.YtkcdckcckpgliaaDoor
