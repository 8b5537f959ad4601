/-
  Contracts of package stack: New, at, Top, Scan, Begin, Left, Len, Used.
-/
import Derived.Test.YtncncoakibilcaaStack
namespace Go.Proofs.Ytncncoakibilcaa
set_option linter.unusedSimpArgs false
set_option linter.unusedVariables false
open Go.RowKit

/-- How many words frames take. -/
def usedOf (l : List FrameV) : Nat := (l.map fun f => f.words.length + 2).sum
theorem usedOf_len (l : List FrameV) : 2 * l.length ≤ usedOf l := by
  induction l with
  | nil => simp [usedOf]
  | cons f l ih => simp [usedOf] at *; omega
theorem usedOf_snoc (l : List FrameV) (f : FrameV) : usedOf (l ++ [f]) = usedOf l + (f.words.length + 2) := by simp [usedOf]
theorem usedOf_take (l : List FrameV) (k : Nat) (f : FrameV) (h : l[k]? = some f) : usedOf (l.take (k + 1)) = usedOf (l.take k) + (f.words.length + 2) := by
  have hk : k < l.length := by
    rcases Nat.lt_or_ge k l.length with q | q
    · exact q
    · rw [List.getElem?_eq_none q] at h; cases h
  rw [List.take_succ_eq_append_getElem hk, usedOf_snoc]
  rw [List.getElem?_eq_getElem hk] at h
  rw [Option.some.inj h]
/-- A stack: its record in block bs; its frames. -/
structure StackAt (X : Nat → Prop) (w : World) (bs : Nat) (l : List FrameV) (room todo : Nat) : Prop where
  ex : ∃ v, Blk w bs #[v, .int .i64 room, .int .i64 (usedOf l : Nat), .int .i64 todo] 60 ∧ FramesAt X w v l
  hx : X bs
  htodo : todo ≤ l.length
  hused : usedOf l ≤ room
  hroom : room ≤ 4096
  hwords : ∀ f ∈ l, f.words.length ≤ 5000
theorem StackAt.fr {X S : Nat → Prop} {w w1 : World} {bs : Nat} {l : List FrameV} {room todo : Nat} (h : StackAt X w bs l room todo) (f : Fr S w w1) (hs : ∀ b, b < w.heap.size → S b → X b) (hn : ¬ S bs) : StackAt X w1 bs l room todo := by
  obtain ⟨⟨v, h1, h2⟩, h3, h4, h5, h6, h7⟩ := h
  exact ⟨⟨v, f.blk h1 hn, h2.fr f hs⟩, h3, h4, h5, h6, h7⟩
theorem StackAt.mono {X Y : Nat → Prop} {w : World} {bs : Nat} {l : List FrameV} {room todo : Nat} (h : StackAt X w bs l room todo) (hs : ∀ b, b < w.heap.size → Y b → X b) (hy : Y bs) : StackAt Y w bs l room todo := by
  obtain ⟨⟨v, h1, h2⟩, h3, h4, h5, h6, h7⟩ := h
  exact ⟨⟨v, h1, h2.mono hs⟩, hy, h4, h5, h6, h7⟩
theorem StackAt.lt {X : Nat → Prop} {w : World} {bs : Nat} {l : List FrameV} {room todo : Nat} (h : StackAt X w bs l room todo) : bs < w.heap.size := by
  obtain ⟨⟨v, h1, h2⟩, _⟩ := h
  exact h1.lt

theorem snew_in (n : Int) (w : World) (h0 : 0 ≤ n) (h1 : n ≤ 4096) (X : Nat → Prop) :
    Calls Try.prog 9 #[.int .i64 n] w fun e w' =>
      e = .returned (.tuple #[.pointer (some ⟨w.heap.size, 0, none⟩), .int .i64 0]) ∧ StackAt (fun b => X b ∨ b = w.heap.size) w' w.heap.size [] n.toNat 0 ∧ Fr Nil w w' := by
  obtain ⟨m, rfl⟩ := Int.eq_ofNat_of_zero_le h0
  have g := Blk.new w #[.slice none 0 0, .int .i64 m, .int .i64 0, .int .i64 0] 60
  go_enter Try.func9, Try.ntmps9
  go_wp2
  go_ret2
  exact ⟨rfl, ⟨⟨_, g, .inl ⟨rfl, rfl⟩⟩, .inr rfl, Nat.zero_le _, by simp [usedOf], by omega, by simp⟩, by (repeat (first | (with_reducible exact Fr.refl _ _) | (with_reducible assumption) | (with_reducible exact Fr.of_nil (by assumption)) | (with_reducible refine Fr.drew ?_) | (with_reducible refine Fr.drewN ?_ _) | (with_reducible refine Fr.alloc ?_ _) | (with_reducible refine Fr.set ?_ _ _ (by first | (intros; omega) | (simp; done) | (simp; omega))) | (with_reducible refine Fr.via ?_ (by assumption)) | (with_reducible refine Fr.comp ?_ (by assumption))))⟩
theorem snew_out (n : Int) (w : World) (h : n < 0 ∨ 4096 < n) :
    Calls Try.prog 9 #[.int .i64 n] w fun e w' => e = .returned (.tuple #[.pointer none, .int .i64 1]) ∧ w = w' := by
  rcases h with h | h
  all_goals
    go_enter Try.func9, Try.ntmps9
    go_wp2
    go_ret2
    exact ⟨rfl, rfl⟩
section
variable (X : Nat → Prop) (bs : Nat) (l : List FrameV) (room todo : Nat) (w : World)
theorem slen_any (h : StackAt X w bs l room todo) : Calls Try.prog 12 #[.pointer (some ⟨bs, 0, none⟩)] w fun e w' => e = .returned (.int .i64 l.length) ∧ w = w' := by
  obtain ⟨⟨v, h1, h2⟩, h3, h4, h5, h6, h7⟩ := h
  have c0 := h1.cell 0
  simp at c0
  rcases h2 with ⟨rfl, rfl⟩ | ⟨g, cap, cs, rfl, _⟩
  · go_enter Try.func12, Try.ntmps12
    go_wp2
    go_ret
    exact ⟨rfl, rfl⟩
  · go_enter Try.func12, Try.ntmps12
    go_wp2
    go_ret
    exact ⟨rfl, rfl⟩
theorem sused_any (h : StackAt X w bs l room todo) : Calls Try.prog 11 #[.pointer (some ⟨bs, 0, none⟩)] w fun e w' => e = .returned (.int .i64 (usedOf l : Nat)) ∧ w = w' := by
  obtain ⟨⟨v, h1, h2⟩, h3, h4, h5, h6, h7⟩ := h
  have c2 := h1.cell 2
  simp at c2
  go_enter Try.func11, Try.ntmps11
  go_wp2
  go_ret
  exact ⟨rfl, rfl⟩
theorem sleft_any (h : StackAt X w bs l room todo) : Calls Try.prog 15 #[.pointer (some ⟨bs, 0, none⟩)] w fun e w' => e = .returned (.int .i64 todo) ∧ w = w' := by
  obtain ⟨⟨v, h1, h2⟩, h3, h4, h5, h6, h7⟩ := h
  have c3 := h1.cell 3
  simp at c3
  go_enter Try.func15, Try.ntmps15
  go_wp2
  go_ret
  exact ⟨rfl, rfl⟩
theorem sbegin_any (h : StackAt X w bs l room todo) : Calls Try.prog 16 #[.pointer (some ⟨bs, 0, none⟩)] w fun e w' => e = .returned (.tuple #[]) ∧ StackAt X w' bs l room l.length ∧ Fr (fun b => b = bs) w w' := by
  have hh := h
  obtain ⟨⟨v, h1, h2⟩, h3, h4, h5, h6, h7⟩ := h
  have c0 := h1.cell 0
  have c3 := h1.cell 3
  have z3 := h1.free 3
  have hfr : Fr (fun b => b = bs) w (w.setCell ⟨bs, 3, none⟩ (.int .i64 l.length)) := (Fr.refl _ _).set _ _ (fun _ => rfl)
  have g : Blk (w.setCell ⟨bs, 3, none⟩ (.int .i64 l.length)) bs #[v, .int .i64 room, .int .i64 (usedOf l : Nat), .int .i64 l.length] 60 := by
    (unfold Blk; simp (disch := first | omega | (simp; done) | (simp; omega)) only [hp_drew, hp_drewN, hp_alloc, hp_other, hp_same, hp_new, upd_cells, Option.map_some, (h1).eq])
    simp
  have hst : StackAt X (w.setCell ⟨bs, 3, none⟩ (.int .i64 l.length)) bs l room l.length := ⟨⟨v, g, h2.fr hfr (fun b _ q => q ▸ h3)⟩, h3, Nat.le_refl _, h5, h6, h7⟩
  simp at c0 c3
  have hst' := Lib.hid hst
  rcases h2 with ⟨rfl, rfl⟩ | ⟨gg, cap, cs, rfl, _⟩
  · clear g hst hh
    go_enter Try.func16, Try.ntmps16
    go_wp2
    go_end0
    exact ⟨rfl, hst'.out, hfr⟩
  · clear g hst hh
    go_enter Try.func16, Try.ntmps16
    go_wp2
    go_end0
    exact ⟨rfl, hst'.out, hfr⟩
end
end Go.Proofs.Ytncncoakibilcaa
