/-
  The document's ring (layer 5): rows, what is built of them. Conditions: short rows.
-/
import Derived.Test.YtlpdlhmdhlcdlaaL05a
namespace Go.Proofs.Ytlpdlhmdhlcdlaa
set_option linter.unusedSimpArgs false
set_option linter.unusedVariables false
open Go.RowKit Go.Shelf

/-- A row that lies in none of some blocks. -/
structure RowB (X : Nat → Prop) (w : World) (v : Value) (L : List Nat) : Prop where
  row : RowV w v L
  fit : ∃ a cap, v = .slice a L.length cap ∧ L.length ≤ cap
  own : ∀ g, v.ownBlock = some g → ¬ X g ∧ g < w.heap.size
theorem RowB.frS {S X : Nat → Prop} {w w' : World} {v : Value} {L : List Nat} (h : RowB X w v L) (f : Fr S w w') (hs : ∀ g, S g → X g) : RowB X w' v L :=
  ⟨h.row.frS f (fun g hg q => (h.own g hg).1 (hs g q)), h.fit, fun g hg => ⟨(h.own g hg).1, Nat.lt_of_lt_of_le (h.own g hg).2 f.size⟩⟩
theorem RowB.fr {X : Nat → Prop} {w w' : World} {v : Value} {L : List Nat} (h : RowB X w v L) (f : Fr Nil w w') : RowB X w' v L := h.frS f (fun _ q => q.elim)
theorem RowB.ext {X Y : Nat → Prop} {w : World} {v : Value} {L : List Nat} (h : RowB X w v L) (hy : ∀ b, Y b → X b ∨ w.heap.size ≤ b) : RowB Y w v L :=
  ⟨h.row, h.fit, fun g hg => ⟨fun q => by
    have := h.own g hg
    rcases hy g q with q | q
    · exact this.1 q
    · omega, (h.own g hg).2⟩⟩
theorem RowN.toB {X : Nat → Prop} {base : Nat} {w : World} {v : Value} {L : List Nat} (h : RowN base w v L) (hb : ∀ b, X b → b < base) : RowB X w v L :=
  ⟨h.toV, by
    rcases h.2 with ⟨rfl, hz⟩ | ⟨g, cap, cur, rfl, _, _, hc, _⟩
    · exact ⟨none, 0, by rw [hz], by omega⟩
    · exact ⟨_, cap, rfl, hc⟩, fun g hg => ⟨fun q => by have := (h.own g hg).1; have := hb g q; omega, (h.own g hg).2⟩⟩
theorem RowB.nil (X : Nat → Prop) (w : World) : RowB X w (.slice none 0 0) [] := ⟨RowV.nil w, ⟨none, 0, rfl, Nat.le_refl _⟩, fun g hg => by simp [Value.ownBlock] at hg⟩
theorem RowB.form {X : Nat → Prop} {w : World} {v : Value} {L : List Nat} (h : RowB X w v L) (h0 : 0 < L.length) : ∃ g cap, v = .slice (some ⟨g, 0, none⟩) L.length cap ∧ L.length ≤ cap ∧ ¬ X g ∧ g < w.heap.size ∧ ∀ i (hi : i < L.length), w.cell? ⟨g, i, none⟩ = some (natV L[i]) := by
  obtain ⟨a, cap, rfl, hf⟩ := h.fit
  obtain ⟨a', cap', e, hc⟩ := h.row
  injection e with e1 e2 e3
  subst e1 e3
  obtain ⟨g, rfl, hz⟩ := hc 0 h0
  refine ⟨g, cap, rfl, hf, (h.own g rfl).1, World.block_lt_of_cell? w _ hz, fun i hi => ?_⟩
  obtain ⟨g', e', hi'⟩ := hc i hi
  cases e'
  exact hi'
theorem natV_one (L : List Nat) : ∀ u ∈ L.map natV, u.oneCell' = true := by
  intro u hu
  obtain ⟨x, _, rfl⟩ := List.mem_map.1 hu
  rfl
/-- A piece of a row, to be appended. -/
theorem piece_src {w : World} {g : Nat} {L : List Nat} (h : ∀ i (hi : i < L.length), w.cell? ⟨g, i, none⟩ = some (natV L[i])) (lo m : Nat) (hm : lo + m ≤ L.length) : ∀ w', Fr Nil w w' → Src w' (some ⟨g, lo, none⟩) m 1 (((L.drop lo).take m).map natV) := by
  intro w' f
  refine .inr ⟨_, rfl, by simp; omega, fun j u hj => ?_⟩
  have hjm : j < m := by
    rcases Nat.lt_or_ge j m with q | q
    · exact q
    · rw [List.getElem?_eq_none (by simp; omega)] at hj; cases hj
  have e : (Addr.add ⟨g, lo, none⟩ j) = ⟨g, lo + j, none⟩ := by simp [Addr.add]
  rw [e]
  have hc := f.cell (h (lo + j) (by omega)) (by simp [Nil])
  rw [hc]
  rw [List.getElem?_map, List.getElem?_take_of_lt hjm, List.getElem?_drop, List.getElem?_eq_getElem (by omega : lo + j < L.length)] at hj
  simpa using hj
theorem RowB.src {X : Nat → Prop} {w : World} {a : Option Addr} {n cap : Nat} {L : List Nat} (h : RowB X w (.slice a n cap) L) : n = L.length ∧ ∀ w', Fr Nil w w' → Src w' a n 1 (L.map natV) := by
  obtain ⟨a', cap', e, hc⟩ := h.fit
  cases e
  refine ⟨rfl, fun w' f => ?_⟩
  by_cases h0 : 0 < L.length
  · obtain ⟨g, c2, e, _, _, _, hc⟩ := h.form h0
    cases e
    have := piece_src hc 0 L.length (by omega) w' f
    simpa using this
  · have e : L = [] := by cases L with | nil => rfl | cons a r => simp at h0
    subst e
    cases a with
    | none => exact .inl ⟨rfl, rfl, rfl⟩
    | some ad => exact .inr ⟨ad, rfl, rfl, fun j u hj => by simp at hj⟩
theorem owns_empty (w : World) (base size : Nat) (e : TypeId) (h : base ≤ w.heap.size) : (w.alloc (.cells #[] e)).ownsRow base e size (.slice (some ⟨w.heap.size, 0, none⟩) 0 0) 0 [] :=
  World.ownsRow_made w #[] 0 h (by simp) (by simp)
set_option maxRecDepth 100000 in
theorem without_any {X : Nat → Prop} (L : List Nat) (v : Value) (k : Nat) (w : World) (h : RowB X w v L) (hk : k < L.length) (hl : L.length ≤ 100000) :
    Calls Try.prog 44 #[v, .int .i64 (k : Int)] w fun e w' => ∃ v', e = .returned v' ∧ RowN w.heap.size w' v' (L.take k ++ L.drop (k + 1)) ∧ Fr Nil w w' := by
  obtain ⟨g, cap, rfl, hfc, hsg, hgl, hc⟩ := h.form (by omega)
  have S1 := Lib.hid (piece_src hc 0 k (by omega))
  obtain ⟨ad, had⟩ : ∃ ad, (if cap = k + 1 then some (⟨g, 0, none⟩ : Addr) else some ⟨g, k + 1, none⟩) = ad := ⟨_, rfl⟩
  have S2 : Hid (∀ w', Fr Nil w w' → Src w' ad (L.length - (k + 1)) 1 ((L.drop (k + 1)).map natV)) := by
    intro w' f
    by_cases c : cap = k + 1
    · rw [if_pos c] at had
      subst had
      have := piece_src hc 0 0 (by omega) w' f
      rw [show L.length - (k + 1) = 0 by omega, List.drop_of_length_le (by omega)]
      simpa using this
    · rw [if_neg c] at had
      subst had
      have := piece_src hc (k + 1) (L.length - (k + 1)) (by omega) w' f
      rwa [List.take_of_length_le (by simp)] at this
  have HAD := Lib.hid had
  clear had
  obtain ⟨n, hn⟩ : ∃ n, L.length = n := ⟨_, rfl⟩
  rw [hn] at hk hl hfc S2 ⊢
  obtain ⟨i0, hi, hz0, hz1, hz2⟩ := info_parts infoI
  have HE := Lib.hid (owns_frS (owns_empty w w.heap.size 1 3 (Nat.le_refl _)) (show Fr Nil _ ((w.alloc (.cells #[] 3)).drew) from by (repeat (first | (with_reducible exact Fr.refl _ _) | (with_reducible assumption) | (with_reducible exact Fr.of_nil (by assumption)) | (with_reducible refine Fr.drew ?_) | (with_reducible refine Fr.drewN ?_ _) | (with_reducible refine Fr.alloc ?_ _) | (with_reducible refine Fr.set ?_ _ _ (by first | (intros; omega) | (simp; done) | (simp; omega))) | (with_reducible refine Fr.via ?_ (by assumption)) | (with_reducible refine Fr.comp ?_ (by assumption))))) (fun _ _ q => q))
  have a1 : (0 : Int) ≤ (k : Int) := by omega
  have a2 : (k : Int) ≤ (n : Int) := by omega
  have a3 : (k : Int) ≤ (cap : Int) := by omega
  have a4 : (k : Int) + 1 ≤ (n : Int) := by omega
  have a5 : (n : Int) ≤ (cap : Int) := by omega
  have a6 : IntKind.i64.wrap ((k : Int) + 1) = (k : Int) + 1 := by rw [IntKind.wrap_i64]; omega
  have a7 : (0 : Int) ≤ (k : Int) + 1 := by omega
  have HN := Lib.hid hn
  clear h hc hn
  go_enter Try.func44, Try.ntmps44
  go_wp2_with fail
  go_region_law (first
    | (refine step_append_src rfl (.tmp 5) (.tmp 8) 30 rfl w.heap.size 3 i0 (.int .i64 0) 1 8 Try.underlying30 hi hz0 hz1 hz2 rfl (by decide) (.slice (some ⟨w.heap.size, 0, none⟩) 0 0) 0 [] (by simp [Act.eval, Act.put]) HE.out (some ⟨g, 0, none⟩) k cap (((L.drop 0).take k).map natV) (by simp [Act.eval, Act.put]) (S1.out _ (by (repeat (first | (with_reducible exact Fr.refl _ _) | (with_reducible assumption) | (with_reducible exact Fr.of_nil (by assumption)) | (with_reducible refine Fr.drew ?_) | (with_reducible refine Fr.drewN ?_ _) | (with_reducible refine Fr.alloc ?_ _) | (with_reducible refine Fr.set ?_ _ _ (by first | (intros; omega) | (simp; done) | (simp; omega))) | (with_reducible refine Fr.via ?_ (by assumption)) | (with_reducible refine Fr.comp ?_ (by assumption)))))) (natV_one _) (by unfold maxLen; omega) (by omega) (by first | omega | (simp <;> omega)) ?_; intro v1 w1 hown1 hgrow1 hat1; simp only [Nat.zero_add, List.nil_append] at hown1; have f1 : Fr Nil w w1 := Fr.grown (by (repeat (first | (with_reducible exact Fr.refl _ _) | (with_reducible assumption) | (with_reducible exact Fr.of_nil (by assumption)) | (with_reducible refine Fr.drew ?_) | (with_reducible refine Fr.drewN ?_ _) | (with_reducible refine Fr.alloc ?_ _) | (with_reducible refine Fr.set ?_ _ _ (by first | (intros; omega) | (simp; done) | (simp; omega))) | (with_reducible refine Fr.via ?_ (by assumption)) | (with_reducible refine Fr.comp ?_ (by assumption))))) hgrow1 (fun k q hk => by simp [Value.ownBlock] at q; omega); have HOWN1 := Lib.hid hown1; have hsz1 := f1.size; have HLT1 := Lib.hid hown1.lt; obtain ⟨b1, cap1, rfl⟩ := owns_sh hown1; clear hown1 hgrow1 hat1)
    | (refine step_append_src rfl (.tmp 9) (.tmp 13) 30 rfl w.heap.size 3 i0 (.int .i64 0) 1 8 Try.underlying30 hi hz0 hz1 hz2 rfl (by decide) (.slice b1 k cap1) k _ (by simp [Act.eval, Act.put]) HOWN1.out ad (n - (k + 1)) (cap - (k + 1)) _ (by simp [Act.eval, Act.put]; exact HAD.out) (S2.out _ (by (repeat (first | (with_reducible exact Fr.refl _ _) | (with_reducible assumption) | (with_reducible exact Fr.of_nil (by assumption)) | (with_reducible refine Fr.drew ?_) | (with_reducible refine Fr.drewN ?_ _) | (with_reducible refine Fr.alloc ?_ _) | (with_reducible refine Fr.set ?_ _ _ (by first | (intros; omega) | (simp; done) | (simp; omega))) | (with_reducible refine Fr.via ?_ (by assumption)) | (with_reducible refine Fr.comp ?_ (by assumption)))))) (natV_one _) (by unfold maxLen; omega) (by omega) (by first | omega | (simp <;> omega)) ?_; intro v2 w2 hown2 hgrow2 hat2; have f2 : Fr Nil w w2 := Fr.grown f1 hgrow2 (fun k q hk => by have := HLT1.out k q; omega); have HOWN2 := Lib.hid hown2; obtain ⟨b2, cap2, rfl⟩ := owns_sh hown2; clear hown2 hgrow2 hat2))
  all_goals
    go_wp2
    all_goals
      go_ret
      refine ⟨_, rfl, ?_, f2⟩
      have hh := HOWN2.out
      rw [List.drop_zero, ← List.map_append] at hh
      have el : (L.take k ++ L.drop (k + 1)).length = k + (n - (k + 1)) := by have := HN.out; simp; omega
      unfold RowN
      rw [el]
      exact hh
/-- The document's ring: its record in block sb, its rows in none of the blocks X. -/
structure RefR (w : World) (X : Nat → Prop) (sb m : Nat) (S : Seg4) : Prop where
  at_ : X sb
  blk : ∃ v0 v1 v2 v3, Blk w sb #[v0, v1, v2, v3, .int .i64 (m : Int)] 58 ∧ RowB X w v0 S.W ∧ RowB X w v1 S.F ∧ RowB X w v2 S.G ∧ RowB X w v3 S.B
theorem RefR.frS {T X : Nat → Prop} {w w' : World} {sb m : Nat} {S : Seg4} (h : RefR w X sb m S) (f : Fr T w w') (hs : ∀ g, T g → X g) (hn : ¬ T sb) : RefR w' X sb m S := by
  obtain ⟨v0, v1, v2, v3, hb, h0, h1, h2, h3⟩ := h.blk
  exact ⟨h.at_, v0, v1, v2, v3, f.blk hb hn, h0.frS f hs, h1.frS f hs, h2.frS f hs, h3.frS f hs⟩
theorem RefR.fr {X : Nat → Prop} {w w' : World} {sb m : Nat} {S : Seg4} (h : RefR w X sb m S) (f : Fr Nil w w') : RefR w' X sb m S := h.frS f (fun _ q => q.elim) (fun q => q)
theorem RefR.ext {X Y : Nat → Prop} {w : World} {sb m : Nat} {S : Seg4} (h : RefR w X sb m S) (hs : Y sb) (hy : ∀ b, Y b → X b ∨ w.heap.size ≤ b) : RefR w Y sb m S := by
  obtain ⟨v0, v1, v2, v3, hb, h0, h1, h2, h3⟩ := h.blk
  exact ⟨hs, v0, v1, v2, v3, hb, h0.ext hy, h1.ext hy, h2.ext hy, h3.ext hy⟩
theorem RefR.is {X : Nat → Prop} {w : World} {sb m : Nat} {S : Seg4} (h : RefR w X sb m S) : ∀ g, (fun x => x = sb) g → X g := fun g q => by
  cases (show g = sb from q)
  exact h.at_
theorem RefR.lt {X : Nat → Prop} {w : World} {sb m : Nat} {S : Seg4} (h : RefR w X sb m S) : sb < w.heap.size := by
  obtain ⟨_, _, _, _, hb, _⟩ := h.blk
  exact hb.lt
end Go.Proofs.Ytlpdlhmdhlcdlaa
