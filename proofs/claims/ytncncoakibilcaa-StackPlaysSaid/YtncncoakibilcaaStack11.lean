/-
  Contracts of the document's stack (treadwheelref15): Used, Left, Do.
-/
import Derived.Test.YtncncoakibilcaaStack7
import Derived.Test.YtncncoakibilcaaStack8
import Derived.WalkSmall
import Derived.StillTailTactics
import Derived.Deep.RegionHeld3
namespace Go.Proofs.Ytncncoakibilcaa
set_option linter.unusedSimpArgs false
set_option linter.unusedVariables false
open Go.RowKit

theorem infoBool : (Try.prog.info? 4).map (fun i => (i.zero, i.size, i.bytes)) = some (some (.bool false), 1, 1) := by kernel_rfl
/-- Which of n are to be scanned: the lowest td. -/
def todoL (n td : Nat) : List Value := (List.range n).map fun i => .bool (decide (i < td))
@[simp] theorem todoL_len (n td : Nat) : (todoL n td).length = n := by simp [todoL]
theorem todoL_at {n td k : Nat} (h : k < n) : (todoL n td)[k]? = some (.bool (decide (k < td))) := by simp [todoL, h]
theorem todoL_snoc {n td : Nat} (h : td ≤ n) : todoL n td ++ [.bool false] = todoL (n + 1) td := by
  simp [todoL, List.range_succ]; omega
theorem todoL_take {n td : Nat} : (todoL (n + 1) td).take n = todoL n (min td n) := by
  apply List.ext_getElem?
  intro k
  rcases Nat.lt_or_ge k n with h | h
  · rw [List.getElem?_take_of_lt h, todoL_at (by omega), todoL_at h]
    congr 2
    simp
    omega
  · rw [List.getElem?_eq_none (by simp; omega), List.getElem?_eq_none (by simp; omega)]
/-- The row of signs: its block is no other's. -/
def TodoX (br : Nat) (u : Value) : Nat → Prop := fun b => b = br ∨ u.ownBlock = some b
/-- The document's stack: its record in block br; its frames; its signs. -/
structure RefAt (X : Nat → Prop) (w : World) (br : Nat) (l : List FrameV) (room todo : Nat) : Prop where
  ex : ∃ v u, Blk w br #[v, u, .int .i64 room] 54 ∧ FramesAt (fun b => X b ∨ TodoX br u b) w v l ∧ w.ownsRow (br + 1) 4 1 u l.length (todoL l.length todo) ∧ (∀ b, u.ownBlock = some b → ¬ X b)
  hx : ¬ X br
  htodo : todo ≤ l.length
  hused : usedOf l ≤ room
  hroom : room ≤ 4096
  hwords : ∀ f ∈ l, f.words.length ≤ 5000
theorem RefAt.fr {X S : Nat → Prop} {w w1 : World} {br : Nat} {l : List FrameV} {room todo : Nat} (h : RefAt X w br l room todo) (f : Fr S w w1) (hs : ∀ b, b < w.heap.size → S b → X b) : RefAt X w1 br l room todo := by
  obtain ⟨⟨v, u, h1, h2, h3, h4⟩, h5, h6, h7, h8, h9⟩ := h
  refine ⟨⟨v, u, f.blk h1 (fun q => h5 (hs _ h1.lt q)), h2.fr f (fun b hb q => .inl (hs b hb q)), ?_, h4⟩, h5, h6, h7, h8, h9⟩
  obtain ⟨e1, e2⟩ := h3
  refine ⟨e1, ?_⟩
  rcases e2 with e2 | ⟨g, cap, cur, rfl, q1, q2, q3, q4, q5, q6⟩
  · exact .inl e2
  · have hg : g < w.heap.size := by
      rcases Nat.lt_or_ge g w.heap.size with q | q
      · exact q
      · rw [Array.getElem?_eq_none q] at q2; cases q2
    exact .inr ⟨g, cap, cur, rfl, q1, (f.block g hg (fun q => h4 g rfl (hs g hg q))).trans q2, q3, q4, q5, q6⟩
theorem RefAt.lt {X : Nat → Prop} {w : World} {br : Nat} {l : List FrameV} {room todo : Nat} (h : RefAt X w br l room todo) : br < w.heap.size := by
  obtain ⟨⟨v, u, h1, _⟩, _⟩ := h
  exact h1.lt
theorem owns_cell {w : World} {base n td : Nat} {t : TypeId} {u : Value} (h : w.ownsRow base t 1 u n (todoL n td)) {k : Nat} (hk : k < n) :
    ∃ g cap, u = .slice (some ⟨g, 0, none⟩) n cap ∧ base ≤ g ∧ g < w.heap.size ∧ n ≤ cap ∧ w.cell? ⟨g, k, none⟩ = some (.bool (decide (k < td))) ∧ (∀ o, w.frozen? ⟨g, o, none⟩ = false) := by
  have hh := h
  obtain ⟨e1, e2⟩ := h
  rcases e2 with ⟨rfl, rfl⟩ | ⟨g, cap, cur, rfl, q1, q2, q3, q4, q5, q6⟩
  · omega
  · have hg : g < w.heap.size := by
      rcases Nat.lt_or_ge g w.heap.size with q | q
      · exact q
      · rw [Array.getElem?_eq_none q] at q2; cases q2
    have := hh.cells (g := g) rfl k _ (todoL_at hk)
    rw [add_head] at this
    exact ⟨g, cap, rfl, q1, hg, q3, this, fun o => by simp [World.frozen?, q2]⟩
theorem owns_shape {w : World} {base n size : Nat} {t : TypeId} {u : Value} {xs : List Value} (h : w.ownsRow base t size u n xs) : ∃ a cap, u = .slice a n cap := by
  rcases h.2 with ⟨rfl, rfl⟩ | ⟨g, cap, cur, rfl, _⟩
  · exact ⟨_, _, rfl⟩
  · exact ⟨_, _, rfl⟩
/-- The block of the signs of the document's stack. -/
def TB (w : World) (br b : Nat) : Prop := ∃ u, w.cell? ⟨br, 1, none⟩ = some u ∧ u.ownBlock = some b
/-- What a call of Do turns: the record, the signs; what the signs' block is behind it. -/
structure Turn (br : Nat) (w w' : World) : Prop where
  fr : Fr (fun b => b = br ∨ TB w br b) w w'
  tb : ∀ b, TB w' br b → TB w br b ∨ w.heap.size ≤ b
theorem Turn.of_nil {br : Nat} {w w' : World} (h : Fr Nil w w') (hb : br < w.heap.size) : Turn br w w' :=
  ⟨h.of_nil, fun b ⟨u, h1, h2⟩ => .inl ⟨u, by rw [← (h.at br hb).1 1]; exact h1, h2⟩⟩
theorem Turn.of_blk {br : Nat} {w w' : World} {v u v' u' r r' : Value} {t : TypeId} (h : Blk w br #[v, u, r] t) (h' : Blk w' br #[v', u', r'] t) (f : Fr (fun b => b = br ∨ u.ownBlock = some b) w w') (hb : ∀ b, u'.ownBlock = some b → u.ownBlock = some b ∨ w.heap.size ≤ b) : Turn br w w' := by
  have c : w.cell? ⟨br, 1, none⟩ = some u := by simpa using h.cell 1
  have c' : w'.cell? ⟨br, 1, none⟩ = some u' := by simpa using h'.cell 1
  refine ⟨f.mono (fun b _ q => q.elim .inl (fun q => .inr ⟨u, c, q⟩)), fun b ⟨z, h1, h2⟩ => ?_⟩
  rw [c'] at h1
  cases h1
  exact (hb b h2).elim (fun q => .inl ⟨u, c, q⟩) .inr
theorem usedOf_mono (l : List FrameV) (k : Nat) : usedOf (l.take k) ≤ usedOf l := by
  have : usedOf l = usedOf (l.take k) + usedOf (l.drop k) := by
    conv => lhs; rw [← List.take_append_drop k l]
    simp only [usedOf, List.map_append, List.sum_append]
  omega

section
variable (X : Nat → Prop) (br : Nat) (l : List FrameV) (room todo : Nat) (w : World)
set_option maxHeartbeats 1000000 in
theorem rused_any (h : RefAt X w br l room todo) : Calls Try.prog 24 #[.pointer (some ⟨br, 0, none⟩)] w fun e w' => e = .returned (.int .i64 (usedOf l : Nat)) ∧ w = w' := by
  obtain ⟨⟨v, u, h1, h2, h3, h4⟩, h5, h6, h7, h8, h9⟩ := h
  have c0 := h1.cell 0
  simp at c0
  obtain ⟨a, cap, rfl⟩ := h2.form
  have hll : l.length ≤ 4096 := by have := usedOf_len l; omega
  have HM := Lib.hid (usedOf_mono l)
  have h2' := Lib.hid h2
  have h9' := Lib.hid h9
  clear h1 h2 h3 h4 h5 h6 h9
  go_enter Try.func24, Try.ntmps24
  go_wp2_with fail
  go_loop [3, 4] (fun n i => ∃ j : Nat, j ≤ l.length ∧ i = .int .i64 j ∧ n = .int .i64 (usedOf (l.take j) : Nat)) (fun _ i => l.length - (intOf i).toNat)
  case atStart => exact ⟨0, Nat.zero_le _, rfl, by simp [usedOf]⟩
  case round =>
    obtain ⟨j, hj, rfl, rfl⟩ := hrel
    by_cases hlt : j < l.length
    · obtain ⟨f, hfj⟩ : ∃ f, l[j]? = some f := ⟨_, List.getElem?_eq_getElem hlt⟩
      obtain ⟨g, cap', u', e, _, hcap, d0, d1, d2, hu⟩ := h2'.out.at hfj
      cases e
      obtain ⟨au, cu, rfl, _⟩ := hu
      have b1 : (0 : Int) ≤ (j : Int) := by omega
      have b2 : (j : Int) < (l.length : Int) := by omega
      have hfl := h9'.out f (List.mem_of_getElem? hfj)
      have hs := usedOf_take l j f hfj
      have hm := HM.out (j + 1)
      have hm2 := HM.out j
      have hcast : ((usedOf (l.take (j + 1)) : Nat) : Int) = ((usedOf (l.take j) : Nat) : Int) + (f.words.length : Int) + 2 := by omega
      have HC := Lib.hid hcast
      clear hcast hfj hs d0 d1
      go_wp2
      go_round
      case rel => exact ⟨j + 1, by omega, by go_num, by rw [HC.out]⟩
      case measure => simp [intOf]; omega
    · obtain rfl : j = l.length := by omega
      go_wp2
      go_ret
      exact ⟨rfl, rfl⟩
set_option maxHeartbeats 1000000 in
theorem rleft_any (h : RefAt X w br l room todo) : Calls Try.prog 25 #[.pointer (some ⟨br, 0, none⟩)] w fun e w' => e = .returned (.int .i64 todo) ∧ w = w' := by
  obtain ⟨⟨v, u, h1, h2, h3, h4⟩, h5, h6, h7, h8, h9⟩ := h
  have c1 := h1.cell 1
  simp at c1
  obtain ⟨a, cap, rfl⟩ := owns_shape h3
  have hll : l.length ≤ 4096 := by have := usedOf_len l; omega
  have h3' := Lib.hid h3
  clear h1 h2 h3 h4 h5 h9
  go_enter Try.func25, Try.ntmps25
  go_wp2_with fail
  go_loop [3, 4] (fun n i => ∃ j : Nat, j ≤ l.length ∧ i = .int .i64 j ∧ n = .int .i64 (min j todo : Nat)) (fun _ i => l.length - (intOf i).toNat)
  case atStart => exact ⟨0, Nat.zero_le _, rfl, by simp⟩
  case round =>
    obtain ⟨j, hj, rfl, rfl⟩ := hrel
    by_cases hlt : j < l.length
    · obtain ⟨g, cap', e, _, hgw, hcap, d0, _⟩ := owns_cell h3'.out hlt
      cases e
      have b1 : (0 : Int) ≤ (j : Int) := by omega
      have b2 : (j : Int) < (l.length : Int) := by omega
      by_cases ht : j < todo
      · have e1 : min j todo = j := by omega
        have e2 : min (j + 1) todo = j + 1 := by omega
        have E2 := Lib.hid e2
        rw [show decide (j < todo) = true by simpa using ht] at d0
        rw [e1]
        clear e1 e2
        go_wp2
        go_round
        case rel => exact ⟨j + 1, by omega, by go_num, by rw [E2.out]; go_num⟩
        case measure => simp [intOf]; omega
      · have e1 : min j todo = todo := by omega
        have e2 : min (j + 1) todo = todo := by omega
        have E2 := Lib.hid e2
        rw [show decide (j < todo) = false by simpa using ht] at d0
        rw [e1]
        clear e1 e2
        go_wp2
        go_round
        case rel => exact ⟨j + 1, by omega, by go_num, by rw [E2.out]⟩
        case measure => simp [intOf]; omega
    · obtain rfl : j = l.length := by omega
      have e1 : min l.length todo = todo := by omega
      rw [e1]
      clear e1
      go_wp2
      go_ret
      exact ⟨rfl, rfl⟩
end
end Go.Proofs.Ytncncoakibilcaa
