/-
  A bind more behind those of a row; ten cells of a row's last element turned (layer 10). No conditions.
-/
import Derived.Test.YtpjlibbdngnnnaaDoorL10p
import Derived.Test.YtpjlibbdngnnnaaDoorSfP
namespace Go.Proofs.YtpjlibbdngnnnaaDoor
set_option linter.unusedSimpArgs false
set_option linter.unusedVariables false
open Go.RowKit

theorem binds_snoc {w w' : World} {base : Nat} {v : Value} {bs : List TB} {bc : Nat → List Value} {n : Nat} {c : List Value} {b : TB} (hn : bs.length = n) (hl : ∀ i, i < n → (bc i).length = 10) (hb : ∀ i (h : i < bs.length), BAt (fun _ => False) w (bc i) bs[i]) (f : Fr Nil w w')
    (hc : BAt (fun _ => False) w' c b) (hc10 : c.length = 10) (ho : w'.ownsRow base 42 10 v (n + 1) (flatB bc 0 n ++ c)) : BindsAt (fun _ => False) w' v (bs ++ [b]) := by
  have h1 := flatB_len hl (t := 0) (k := n) (by omega)
  have hlen : (bs ++ [b]).length = n + 1 := by rw [List.length_append, hn]; rfl
  refine ⟨fun i => if i < n then bc i else c, ?_, fun i hi => ?_⟩
  · rw [hlen]
    refine RowC.of_own ho (fun b q => q.elim) (fun i hi => ?_) (fun i hi j u hj => ?_)
    · by_cases q : i < n
      · simp only [if_pos q]; exact hl _ q
      · simp only [if_neg q]; exact hc10
    · by_cases q : i < n
      · simp only [if_pos q] at hj
        have hj9 : j < 10 := by
          have := (List.getElem?_eq_some_iff.1 hj).1
          rw [hl _ q] at this
          exact this
        rw [List.getElem?_append_left (by rw [h1]; have := Nat.mul_le_mul_right 10 (show i + 1 ≤ n by omega); rw [Nat.add_mul] at this; omega)]
        exact flatB_get hl (t := 0) (k := n) (by omega) q (by rw [Nat.zero_add]; exact hj)
      · simp only [if_neg q] at hj
        have e : i = n := by omega
        subst e
        rw [List.getElem?_append_right (by rw [h1]; omega), h1, show i * 10 + j - i * 10 = j by omega]
        exact hj
  · rw [hlen] at hi
    by_cases q : i < n
    · simp only [if_pos q]
      rw [List.getElem_append_left (by omega)]
      exact (hb i (by omega)).frN f
    · simp only [if_neg q]
      have e : i = n := by omega
      subst e
      rw [List.getElem_append_right (by omega)]
      simp only [hn, Nat.sub_self, List.getElem_cons_zero]
      exact hc
theorem set_last {A : List Value} {n j : Nat} (hA : A.length = n) (c : List Value) (u : Value) : (A ++ c).set (n + j) u = A ++ c.set j u := by
  rw [List.set_append, if_neg (by omega), hA, show n + j - n = j by omega]
theorem owns_put10 {w : World} {base g cap n : Nat} {e : TypeId} {A : List Value} {c0 c1 c2 c3 c4 c5 c6 c7 c8 c9 v0 v1 v2 v3 v4 v5 v6 v7 v8 v9 : Value} (hA : A.length = n * 10)
    (h : w.ownsRow base e 10 (.slice (some ⟨g, 0, none⟩) (n + 1) cap) (n + 1) (A ++ [c0, c1, c2, c3, c4, c5, c6, c7, c8, c9])) :
    ((((((((((w.setCell ⟨g, n * 10 + 0, none⟩ v0).setCell ⟨g, n * 10 + 1, none⟩ v1).setCell ⟨g, n * 10 + 2, none⟩ v2).setCell ⟨g, n * 10 + 3, none⟩ v3).setCell ⟨g, n * 10 + 4, none⟩ v4).setCell ⟨g, n * 10 + 5, none⟩ v5).setCell ⟨g, n * 10 + 6, none⟩ v6).setCell ⟨g, n * 10 + 7, none⟩ v7).setCell ⟨g, n * 10 + 8, none⟩ v8).setCell ⟨g, n * 10 + 9, none⟩ v9).ownsRow base e 10 (.slice (some ⟨g, 0, none⟩) (n + 1) cap) (n + 1) (A ++ [v0, v1, v2, v3, v4, v5, v6, v7, v8, v9]) := by
  have h0 := (h.stored (n * 10 + 0) v0).1
  rw [set_last hA] at h0
  have h1 := (h0.stored (n * 10 + 1) v1).1
  rw [set_last hA] at h1
  have h2 := (h1.stored (n * 10 + 2) v2).1
  rw [set_last hA] at h2
  have h3 := (h2.stored (n * 10 + 3) v3).1
  rw [set_last hA] at h3
  have h4 := (h3.stored (n * 10 + 4) v4).1
  rw [set_last hA] at h4
  have h5 := (h4.stored (n * 10 + 5) v5).1
  rw [set_last hA] at h5
  have h6 := (h5.stored (n * 10 + 6) v6).1
  rw [set_last hA] at h6
  have h7 := (h6.stored (n * 10 + 7) v7).1
  rw [set_last hA] at h7
  have h8 := (h7.stored (n * 10 + 8) v8).1
  rw [set_last hA] at h8
  have h9 := (h8.stored (n * 10 + 9) v9).1
  rw [set_last hA] at h9
  exact h9
theorem var_at {X : Nat → Prop} {w : World} (x : List UInt8) : EAt X w [.int .i64 1, .string ⟨x.toArray⟩, .bool false, .int .u64 0, .slice none 0 0, .slice none 0 0, .slice none 0 0, .slice none 0 0] (varE x) :=
  .mk (kind := 1) (bits := 0) (name := x) (params := []) (kids := []) (binds := []) (alts := []) (fun _ => []) (fun _ => []) (fun _ => []) (fun _ => []) (fun _ => []) (fun _ => .bool false) (fun _ => .bool false) .nil .nil (fun i h => absurd h (Nat.not_lt_zero i)) .nil (fun i h => absurd h (Nat.not_lt_zero i)) (fun i h => absurd h (Nat.not_lt_zero i)) (fun i h => absurd h (Nat.not_lt_zero i)) .nil (fun i h => absurd h (Nat.not_lt_zero i)) (fun i h => absurd h (Nat.not_lt_zero i)) (fun i h => absurd h (Nat.not_lt_zero i))
end Go.Proofs.YtpjlibbdngnnnaaDoor
