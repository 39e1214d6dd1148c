/- Write of no bytes; Write of any bytes. -/
import Derived.Test.YtkcdckcckpgliaaDoorBufIO
namespace Go.Proofs.YtkcdckcckpgliaaDoor
open Go.RowKit Go.Shelf
variable {T : TypeId} {rest : Array Value} {ok : Nat → Prop} {b : Nat} {bs : List UInt8}

set_option maxHeartbeats 3200000 in
set_option maxRecDepth 100000 in
theorem write_none (B : Option Addr) (c : Nat) (w : World) (h : BufAt 5 T rest ok b bs w) :
    Calls Tryd.prog 35 #[.pointer (some ⟨b, 0, none⟩), .slice B 0 c] w fun e w' => e = .returned (.tuple #[.int .i64 0, .nilIface]) ∧ BufAt 5 T rest ok b bs w' ∧ Fr ok w w' := by
  obtain ⟨A, cc, lr, h1, hA⟩ : ∃ A c lr, Head T rest b (.slice A bs.length c) lr w ∧ bs.length ≤ c ∧ c ≤ maxLen := by
    rcases h.2 with ⟨rfl, lr, h1⟩ | ⟨g, cap, cur, lr, h1, -, -, -, -, h6, h7, -⟩
    · exact ⟨_, _, _, h1, Nat.le_refl _, Nat.zero_le _⟩
    · exact ⟨_, _, _, h1, h6, h7⟩
  have c0 := h1.c0; have c2 := h1.c2; have f2 := h1.fz 2; have f0 := h1.fz 0
  have h' := h.setLast 0
  have hf0 : Fr ok w (w.setCell ⟨b, 2, none⟩ (.int .i8 0)) := (Fr.refl ok w).setCell (.inr h.1) _
  have H1 := Lib.hid (h1.set2 0)
  clear h1
  have hce : ∀ d dLen dCap W, (Builtin.copy_ #[24, 24] 3 #[.slice d dLen dCap, .slice B 0 c]).run Tryd.prog W = .ok (goInt 0) W := fun d dLen dCap W => run_copy_none W 24 24 3 5 d B dLen dCap 0 c Tryd.underlying24 infoU8s (by simp)
  have hA2 := hA.2
  have hT : ∀ W, Head T rest b (.slice A bs.length cc) 0 W → Calls Tryd.prog 47 #[.pointer (some ⟨b, 0, none⟩), .int .i64 0] W _ := fun W hW => Tryd.Buffer_tryGrow_room b _ bs.length cc 0 W hW.c0 (hW.fz 0) hA.1 hA.2 (Nat.zero_le _)
  unfold maxLen at hA2
  go_enter Tryd.func35, Tryd.ntmps35
  go_wp2_with (go_at_call 47; refine (hT _ ?_).mono ?_)
  · exact H1.out
  rintro e W1 ⟨rfl, hW1⟩
  have e1 : Head T rest b (.slice A bs.length cc) 0 W1 := by rw [hW1]; exact Head.set0 H1.out _
  have d0 := e1.c0
  have hfr : Fr ok w W1 := by rw [hW1]; exact hf0.setCell (.inr h.1) _
  have hend : BufAt 5 T rest ok b bs W1 := by
    rw [hW1]
    refine ⟨h.1, ?_⟩
    rcases h'.2 with ⟨p0, lr', p1⟩ | ⟨g, cap, cur, lr', p1, p2, p3, p4, p5⟩
    · have : (Value.slice A bs.length cc) = .slice none 0 0 := by have := p1.c0.symm.trans (Head.c0 H1.out); exact (Option.some.inj this).symm
      exact .inl ⟨p0, lr', by rw [Nat.add_zero, this]; exact p1.set0 _⟩
    · have : (Value.slice A bs.length cc) = .slice (some ⟨g, 0, none⟩) bs.length cap := by have := p1.c0.symm.trans (Head.c0 H1.out); exact (Option.some.inj this).symm
      exact .inr ⟨g, cap, cur, lr', by rw [Nat.add_zero, this]; exact p1.set0 _, p2, p3, by rw [Below.heap_setCell _ _ _ _ p3]; exact p4, p5⟩
  have HE := Lib.hid hend
  have HF := Lib.hid hfr
  clear hend hfr hW1 e1 h' hf0 c2 f2 c0 f0
  have hA1 := hA.1
  go_wp2
  all_goals (go_ret2; exact ⟨rfl, HE.out, HF.out⟩)

/-- Write: of any bytes that do not lie in the buffer's struct. -/
theorem write_all (s : List UInt8) (A : Option Addr) (c : Nat) (w : World) (h : BufAt 5 T rest ok b bs w) (hok : ∀ k, w.heap.size ≤ k → ok k) (hab : ∀ a, A = some a → a.block ≠ b) (hsrc : BytesAt w A s) (hlim : bs.length + s.length ≤ 140737488355328) :
    Calls Tryd.prog 35 #[.pointer (some ⟨b, 0, none⟩), .slice A s.length c] w fun e w' => e = .returned (.tuple #[.int .i64 s.length, .nilIface]) ∧ BufAt 5 T rest ok b (bs ++ s) w' ∧ Fr ok w w' := by
  cases s with
  | nil => rw [List.append_nil]; exact write_none A c w h
  | cons x r =>
    obtain ⟨a, rfl, -⟩ := hsrc 0 _ rfl
    exact write_any (x :: r) a c w h hok (hab a rfl) (fun j v hj => by obtain ⟨a', ha, hc⟩ := hsrc j v hj; cases ha; exact hc) (by simp) hlim
end Go.Proofs.YtkcdckcckpgliaaDoor
