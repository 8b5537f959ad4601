/-
  The law: arity wide (layer 11). Conditions: the listed variable errors.errorType.
-/
import Derived.Test.YtpjlibbdngnnnaaDoorAwP
import Derived.Test.YtpjlibbdngnnnaaDoorL11c
namespace Go.Proofs.YtpjlibbdngnnnaaDoor
set_option linter.unusedSimpArgs false
set_option linter.unusedVariables false
open Go.RowKit

def varC : List Value := [.int .i64 1, .string ⟨#[102]⟩, .bool false, .int .u64 0, .slice none 0 0, .slice none 0 0, .slice none 0 0, .slice none 0 0]
def litC : List Value := [.int .i64 3, .string ⟨#[]⟩, .bool false, .int .u64 0, .slice none 0 0, .slice none 0 0, .slice none 0 0, .slice none 0 0]
def kcsW (j : Nat) : List Value := varC ++ (List.replicate j litC).flatten
theorem kcsW_succ (j : Nat) : kcsW (j + 1) = kcsW j ++ litC := by
  unfold kcsW
  rw [List.replicate_succ', List.flatten_append, List.append_assoc]
  simp
theorem psW_succ (j : Nat) : psW (j + 1) = psW j ++ [namW j] := by
  unfold psW
  rw [List.range_succ, List.map_append, List.map_singleton]
theorem psW_len (j : Nat) : (psW j).length = j := by simp [psW]
theorem kids_w {w : World} {base n : Nat} {u : Value} (h : w.ownsRow base 40 8 u (n + 1) (kcsW n)) : ∃ kc : Nat → List Value, RowC (fun _ => False) w u (n + 1) 8 kc ∧ ∀ i (h : i < (oneW n).kids.length), EAt (fun _ => False) w (kc i) (oneW n).kids[i] := by
  have hfl : ∀ c ∈ List.replicate n litC, c.length = 8 := fun c hc => by rw [(List.mem_replicate.1 hc).2]; rfl
  refine ⟨fun i => if i = 0 then varC else litC, RowC.of_own h (fun b q => q.elim) (fun i hi => by show (if i = 0 then varC else litC).length = 8; split <;> rfl) (fun i hi j v hj => ?_), fun i hi => ?_⟩
  · cases i with
    | zero =>
      simp only [if_true] at hj
      unfold kcsW
      rw [Nat.zero_mul, Nat.zero_add, List.getElem?_append_left ((List.getElem?_eq_some_iff.1 hj).1)]
      exact hj
    | succ i =>
      simp only [Nat.add_one_ne_zero, if_false] at hj
      unfold kcsW
      rw [List.getElem?_append_right (by show 8 ≤ _; omega), show (i + 1) * 8 + j - varC.length = i * 8 + j by show (i + 1) * 8 + j - 8 = _; omega]
      exact flat_at hfl (by simp; omega) (by simpa using hj)
  · cases i with
    | zero => exact EAt.leaf 1 [102] false 0
    | succ i =>
      have e : (oneW n).kids[i + 1] = litE := by simp [oneW, TE.kids]
      rw [e]
      exact lit_at
theorem mod_two {W : World} {D : Nat} {c1 c2 : List Value} {b1 b2 : TB} (h : Blk W D (c1 ++ c2).toArray 42) (l1 : c1.length = 10) (l2 : c2.length = 10) (h1 : BAt (fun _ => False) W c1 b1) (h2 : BAt (fun _ => False) W c2 b2) :
    ModV (fun _ => False) W none 0 0 (some ⟨D, 0, none⟩) 2 2 ⟨[], [b1, b2]⟩ := by
  refine ⟨RowC.nil, rfl, ⟨fun i => if i = 0 then c1 else c2, ⟨_, 2, rfl, Nat.le_refl _, by unfold maxLen; omega, fun i hi => ⟨D, 0, rfl, id, ?_, fun j u hj => ?_⟩⟩, fun i hi => ?_⟩, rfl⟩
  · show (if i = 0 then c1 else c2).length = 10
    split
    · exact l1
    · exact l2
  · have hi2 : i < 2 := hi
    rw [h.cell]
    match i, hi2, hj with
    | 0, _, hj =>
      simp only [if_true] at hj
      simp only [Nat.zero_mul, Nat.zero_add, List.getElem?_toArray]
      rw [List.getElem?_append_left ((List.getElem?_eq_some_iff.1 hj).1)]
      exact hj
    | 1, _, hj =>
      simp only [Nat.one_ne_zero, if_false] at hj
      simp only [Nat.one_mul, Nat.zero_add, List.getElem?_toArray]
      rw [List.getElem?_append_right (by omega), l1, show 10 + j - 10 = j by omega]
      exact hj
  · have hi2 : i < 2 := hi
    match i, hi2 with
    | 0, _ => exact h1
    | 1, _ => exact h2
theorem check_two {W : World} {D : Nat} {c1 c2 : List Value} {b1 b2 : TB} {R : FS} (h : Blk W D (c1 ++ c2).toArray 42) (l1 : c1.length = 10) (l2 : c2.length = 10) (h1 : BAt (fun _ => False) W c1 b1) (h2 : BAt (fun _ => False) W c2 b2)
    (hok : okB [b1, b2]) (hws : wsB [b1, b2]) (hw : 2 + wnB [b1, b2] ≤ 700000) (hT : ErrT W) (hR : arF ⟨[], [b1, b2]⟩ = R) :
    Calls Tryd.prog 14 #[.agg #[.slice none 0 0, .slice (some ⟨D, 0, none⟩) 2 2]] W fun r w' => r = .returned (.tuple #[.int .i64 (R.1 : Int), .string ⟨R.2.toArray⟩]) ∧ Fr Nil W w' := by
  have h := acheck_any (mod_two h l1 l2 h1 h2) (fun d hd => by simp at hd) (fun d hd => by simp at hd) hok hws (by show (0 : Nat) ≤ 100000; decide) hw hT
  rw [hR] at h
  exact h
theorem put10 {w : World} {b : Nat} {t : TypeId} {c0 c1 c2 c3 c4 c5 c6 c7 c8 c9 v0 v1 v2 v3 v4 v5 v6 v7 v8 v9 : Value} (h : Blk w b #[c0, c1, c2, c3, c4, c5, c6, c7, c8, c9] t) :
    Blk ((((((((((w.setCell ⟨b, 0, none⟩ v0).setCell ⟨b, 1, none⟩ v1).setCell ⟨b, 2, none⟩ v2).setCell ⟨b, 3, none⟩ v3).setCell ⟨b, 4, none⟩ v4).setCell ⟨b, 5, none⟩ v5).setCell ⟨b, 6, none⟩ v6).setCell ⟨b, 7, none⟩ v7).setCell ⟨b, 8, none⟩ v8).setCell ⟨b, 9, none⟩ v9) b #[v0, v1, v2, v3, v4, v5, v6, v7, v8, v9] t := by
  have h0 : Blk (w.setCell ⟨b, 0, none⟩ v0) b #[v0, c1, c2, c3, c4, c5, c6, c7, c8, c9] t := h.put rfl
  have h1 : Blk ((w.setCell ⟨b, 0, none⟩ v0).setCell ⟨b, 1, none⟩ v1) b #[v0, v1, c2, c3, c4, c5, c6, c7, c8, c9] t := h0.put rfl
  have h2 : Blk (((w.setCell ⟨b, 0, none⟩ v0).setCell ⟨b, 1, none⟩ v1).setCell ⟨b, 2, none⟩ v2) b #[v0, v1, v2, c3, c4, c5, c6, c7, c8, c9] t := h1.put rfl
  have h3 : Blk ((((w.setCell ⟨b, 0, none⟩ v0).setCell ⟨b, 1, none⟩ v1).setCell ⟨b, 2, none⟩ v2).setCell ⟨b, 3, none⟩ v3) b #[v0, v1, v2, v3, c4, c5, c6, c7, c8, c9] t := h2.put rfl
  have h4 : Blk (((((w.setCell ⟨b, 0, none⟩ v0).setCell ⟨b, 1, none⟩ v1).setCell ⟨b, 2, none⟩ v2).setCell ⟨b, 3, none⟩ v3).setCell ⟨b, 4, none⟩ v4) b #[v0, v1, v2, v3, v4, c5, c6, c7, c8, c9] t := h3.put rfl
  have h5 : Blk ((((((w.setCell ⟨b, 0, none⟩ v0).setCell ⟨b, 1, none⟩ v1).setCell ⟨b, 2, none⟩ v2).setCell ⟨b, 3, none⟩ v3).setCell ⟨b, 4, none⟩ v4).setCell ⟨b, 5, none⟩ v5) b #[v0, v1, v2, v3, v4, v5, c6, c7, c8, c9] t := h4.put rfl
  have h6 : Blk (((((((w.setCell ⟨b, 0, none⟩ v0).setCell ⟨b, 1, none⟩ v1).setCell ⟨b, 2, none⟩ v2).setCell ⟨b, 3, none⟩ v3).setCell ⟨b, 4, none⟩ v4).setCell ⟨b, 5, none⟩ v5).setCell ⟨b, 6, none⟩ v6) b #[v0, v1, v2, v3, v4, v5, v6, c7, c8, c9] t := h5.put rfl
  have h7 : Blk ((((((((w.setCell ⟨b, 0, none⟩ v0).setCell ⟨b, 1, none⟩ v1).setCell ⟨b, 2, none⟩ v2).setCell ⟨b, 3, none⟩ v3).setCell ⟨b, 4, none⟩ v4).setCell ⟨b, 5, none⟩ v5).setCell ⟨b, 6, none⟩ v6).setCell ⟨b, 7, none⟩ v7) b #[v0, v1, v2, v3, v4, v5, v6, v7, c8, c9] t := h6.put rfl
  have h8 : Blk (((((((((w.setCell ⟨b, 0, none⟩ v0).setCell ⟨b, 1, none⟩ v1).setCell ⟨b, 2, none⟩ v2).setCell ⟨b, 3, none⟩ v3).setCell ⟨b, 4, none⟩ v4).setCell ⟨b, 5, none⟩ v5).setCell ⟨b, 6, none⟩ v6).setCell ⟨b, 7, none⟩ v7).setCell ⟨b, 8, none⟩ v8) b #[v0, v1, v2, v3, v4, v5, v6, v7, v8, c9] t := h7.put rfl
  have h9 : Blk ((((((((((w.setCell ⟨b, 0, none⟩ v0).setCell ⟨b, 1, none⟩ v1).setCell ⟨b, 2, none⟩ v2).setCell ⟨b, 3, none⟩ v3).setCell ⟨b, 4, none⟩ v4).setCell ⟨b, 5, none⟩ v5).setCell ⟨b, 6, none⟩ v6).setCell ⟨b, 7, none⟩ v7).setCell ⟨b, 8, none⟩ v8).setCell ⟨b, 9, none⟩ v9) b #[v0, v1, v2, v3, v4, v5, v6, v7, v8, v9] t := h8.put rfl
  exact h9
theorem set10 (w : World) (b : Nat) {v0 v1 v2 v3 v4 v5 v6 v7 v8 v9 : Value} : Fr (fun k => k = b) w ((((((((((w.setCell ⟨b, 0, none⟩ v0).setCell ⟨b, 1, none⟩ v1).setCell ⟨b, 2, none⟩ v2).setCell ⟨b, 3, none⟩ v3).setCell ⟨b, 4, none⟩ v4).setCell ⟨b, 5, none⟩ v5).setCell ⟨b, 6, none⟩ v6).setCell ⟨b, 7, none⟩ v7).setCell ⟨b, 8, none⟩ v8).setCell ⟨b, 9, none⟩ v9) := by
  repeat refine Fr.set (S := fun k => k = b) ?_ _ _ (fun _ => rfl)
  exact Fr.refl _ _
set_option maxRecDepth 100000 in
set_option maxHeartbeats 8000000 in
theorem wide_in (n : Nat) (lam : Bool) (h1 : 1 ≤ n) (h6 : n ≤ 60) (w : World) (hT : ErrT w) :
    Calls Tryd.prog 6 #[.int .i64 (n : Int), .bool lam] w fun r w' => r = .returned (.bool true) ∧ Fr Nil w w' := by
  have HT := Lib.hid hT
  obtain ⟨i0, hi, hz0, hz1, hz2⟩ := info_parts infoE
  obtain ⟨i1, gi, gz0, gz1, gz2⟩ := info_parts infoS
  have d1 : ¬ (n : Int) < 1 := by omega
  have d2 : ¬ (60 : Int) < (n : Int) := by omega
  have hn9 : (n : Int) ≤ 9223372036854775807 := by omega
  clear hT
  go_enter Tryd.func6, Tryd.ntmps6
  go_wp2_with fail
  refine (awake11_any w HT.out).mono ?_
  rintro e w1 ⟨rfl, f1⟩
  have HF1 := Lib.hid f1
  clear f1
  obtain ⟨T, hTs⟩ : ∃ T, w1.heap.size = T := ⟨_, rfl⟩
  have hTw : w.heap.size ≤ T := by have := HF1.out.size; omega
  go_wp2_with fail
  try rw [hTs]
  obtain ⟨W2, hW2⟩ : ∃ W2, (w1.alloc (.cells #[.int .i64 1, .string ⟨#[102]⟩, .bool false, .int .u64 0, .slice none 0 0, .slice none 0 0, .slice none 0 0, .slice none 0 0] 40)).alloc (.cells #[.int .i64 4, .string ⟨#[]⟩, .bool false, .int .u64 0, .slice none 0 0, .slice (some ⟨T, 0, none⟩) 1 1, .slice none 0 0, .slice none 0 0] 40) = W2 := ⟨_, rfl⟩
  rw [hW2]
  have b1 : Blk W2 T #[.int .i64 1, .string ⟨#[102]⟩, .bool false, .int .u64 0, .slice none 0 0, .slice none 0 0, .slice none 0 0, .slice none 0 0] 40 := by
    rw [← hW2, ← hTs]
    exact Fr.blk (S := Nil) (by (repeat (first | (with_reducible exact Fr.refl _ _) | (with_reducible assumption) | (with_reducible exact Fr.of_nil (by assumption)) | (with_reducible refine Fr.drew ?_) | (with_reducible refine Fr.drewN ?_ _) | (with_reducible refine Fr.alloc ?_ _) | (with_reducible refine Fr.set ?_ _ _ (by first | (intros; omega) | (simp; done) | (simp; omega))) | (with_reducible refine Fr.via ?_ (by assumption)) | (with_reducible refine Fr.comp ?_ (by assumption))))) (Blk.new _ _ _) (fun q => q)
  have b2 : Blk W2 (T + 1) #[.int .i64 4, .string ⟨#[]⟩, .bool false, .int .u64 0, .slice none 0 0, .slice (some ⟨T, 0, none⟩) 1 1, .slice none 0 0, .slice none 0 0] 40 := by
    rw [← hW2, show T + 1 = (w1.alloc (.cells #[.int .i64 1, .string ⟨#[102]⟩, .bool false, .int .u64 0, .slice none 0 0, .slice none 0 0, .slice none 0 0, .slice none 0 0] 40)).heap.size by simp [hTs]]
    exact Blk.new _ _ _
  have f2 : Fr Nil w1 W2 := by rw [← hW2]; (repeat (first | (with_reducible exact Fr.refl _ _) | (with_reducible assumption) | (with_reducible exact Fr.of_nil (by assumption)) | (with_reducible refine Fr.drew ?_) | (with_reducible refine Fr.drewN ?_ _) | (with_reducible refine Fr.alloc ?_ _) | (with_reducible refine Fr.set ?_ _ _ (by first | (intros; omega) | (simp; done) | (simp; omega))) | (with_reducible refine Fr.via ?_ (by assumption)) | (with_reducible refine Fr.comp ?_ (by assumption))))
  have hT2 : W2.heap.size = T + 2 := by rw [← hW2]; simp [hTs]
  have o2 : W2.ownsRow T 40 8 (.slice (some ⟨T, 0, none⟩) 1 1) 1 (kcsW 0) := by
    refine ⟨rfl, .inr ⟨T, 1, varC.toArray, rfl, Nat.le_refl _, b1, Nat.le_refl _, by unfold maxLen; omega, rfl, rfl⟩⟩
  have H2 := Lib.hid (And.intro b2 (And.intro o2 (And.intro f2 (And.intro hT2 hTs))))
  clear hW2 b1 b2 f2 hT2 o2 hTs
  go_loopg [5, 7] n (fun g nv iv wr => ∃ (j : Nat) (l u : Value), g = n - j ∧ j ≤ n ∧ nv = l ∧ iv = .int .i64 (j : Int) ∧ Hid (Blk wr (T + 1) #[.int .i64 4, .string ⟨#[]⟩, .bool false, .int .u64 0, .slice none 0 0, u, .slice none 0 0, .slice none 0 0] 40 ∧ wr.ownsRow (T + 2) 9 1 l j (strC (psW j)) ∧ wr.ownsRow T 40 8 u (j + 1) (kcsW j) ∧ (∀ k, u.ownBlock = some k → k ≠ T + 1 ∧ l.ownBlock ≠ some k) ∧ Fr Nil w1 wr))
  case atStart => exact ⟨0, _, _, rfl, by omega, rfl, rfl, Lib.hid ⟨H2.out.1, World.ownsRow_nil _ _ _ _, H2.out.2.1, (fun k e => by
    have e2 : T = k := by simpa [Value.ownBlock] using e
    exact ⟨by omega, by simp [Value.ownBlock]⟩), H2.out.2.2.1⟩⟩
  case round =>
    obtain ⟨j, l, u, rfl, hjn, rfl, rfl, HQ⟩ := hrel
    obtain ⟨la, lc, rfl⟩ := owns_shape HQ.out.2.1
    obtain ⟨ua, uc, rfl⟩ := owns_shape HQ.out.2.2.1
    have hsz := HQ.out.2.2.2.2.size
    have hT1 := H2.out.2.2.2.2
    have j0 : (0 : Int) ≤ (j : Int) := by omega
    by_cases hlt : j < n
    · have wkk : IntKind.i64.wrap ((j : Int) + 1) = (j : Int) + 1 := by rw [IntKind.wrap_i64]; omega
      have j1 : (j : Int) < (n : Int) := by omega
      have r1 : Int.tmod (j : Int) 26 = ((j % 26 : Nat) : Int) := rfl
      have r2 : Int.tdiv (j : Int) 26 = ((j / 26 : Nat) : Int) := rfl
      obtain ⟨ja, hja⟩ : ∃ x, j % 26 = x := ⟨_, rfl⟩
      obtain ⟨jb, hjb⟩ : ∃ x, j / 26 = x := ⟨_, rfl⟩
      have ha6 : ja < 26 := by omega
      have hb6 : jb < 3 := by omega
      rw [hja] at r1
      rw [hjb] at r2
      have wa0 : IntKind.i64.wrap (ja : Int) = (ja : Int) := by rw [IntKind.wrap_i64]; omega
      have wb0 : IntKind.i64.wrap (jb : Int) = (jb : Int) := by rw [IntKind.wrap_i64]; omega
      have wa1 : IntKind.i64.wrap (97 + (ja : Int)) = 97 + (ja : Int) := by rw [IntKind.wrap_i64]; omega
      have wb1 : IntKind.i64.wrap (97 + (jb : Int)) = 97 + (jb : Int) := by rw [IntKind.wrap_i64]; omega
      have wa2 : IntKind.u8.wrap (97 + (ja : Int)) = 97 + (ja : Int) := by rw [IntKind.wrap_u8]; omega
      have wb2 : IntKind.u8.wrap (97 + (jb : Int)) = 97 + (jb : Int) := by rw [IntKind.wrap_u8]; omega
      have nso := HQ.out.2.1.lt
      have uso := HQ.out.2.2.1.lt
      obtain ⟨ca, hca⟩ : ∃ c, UInt8.ofNat (97 + ja) = c := ⟨_, rfl⟩
      obtain ⟨cb, hcb⟩ : ∃ c, UInt8.ofNat (97 + jb) = c := ⟨_, rfl⟩
      have hnm : namW j = [120, ca, cb] := by unfold namW; rw [hja, hjb, hca, hcb]
      have HN := Lib.hid hnm
      have lnx := HQ.out.1.lt
      go_upto_region 10 with fail
      have hcv : (convert 44 9 (.slice (some ⟨wr.heap.size, 0, none⟩) 2 2)).run Tryd.prog (wr.alloc (.cells #[.int .u8 (97 + (ja : Int)), .int .u8 (97 + (jb : Int))] 5)) = .ok (.string ⟨#[ca, cb]⟩) (wr.alloc (.cells #[.int .u8 (97 + (ja : Int)), .int .u8 (97 + (jb : Int))] 5)) := by
        have h := run_convert_bytes_arg (P := Tryd.prog) (wr.alloc (.cells #[.int .u8 (97 + (ja : Int)), .int .u8 (97 + (jb : Int))] 5)) 44 5 Tryd.underlying44 Tryd.underlying5 wr.heap.size 0 2 2 [97 + (ja : Int), 97 + (jb : Int)] rfl (fun i hi => by
          match i, hi with
          | 0, _ => simp
          | 1, _ => simp
          | i + 2, h => exact absurd h (by omega)) 9 Tryd.underlying9
        rw [h]
        have e : strOfNums [97 + (ja : Int), 97 + (jb : Int)] = ⟨#[ca, cb]⟩ := by
          have q : (97 + (ja : Int)).toNat = 97 + ja := by omega
          have q2 : (97 + (jb : Int)).toNat = 97 + jb := by omega
          unfold strOfNums
          simp only [List.map_cons, List.map_nil, q, q2, hca, hcb]
        rw [e]
      have sa : ∀ w, (Op.stringOp .add ⟨#[120]⟩ ⟨#[ca, cb]⟩).run Tryd.prog w = .ok (.string ⟨#[120, ca, cb]⟩) w := fun w => run_string_add_lists w [120] [ca, cb] (by simp) (by simp)
      clear hca hcb hja hjb hnm
      go_wp2_with (at_builtin; (first
        | (refine wpList_append_src rfl (.tmp 31) (.tmp 43) 33 rfl (T + 2) 9 i1 (.string ⟨#[]⟩) 1 16 Tryd.underlying33 gi gz0 gz1 gz2 rfl (by decide) (.slice la j lc) j (strC (psW j)) rfl (owns_fr HQ.out.2.1 (by (repeat (first | (with_reducible exact Fr.refl _ _) | (with_reducible assumption) | (with_reducible exact Fr.of_nil (by assumption)) | (with_reducible refine Fr.drew ?_) | (with_reducible refine Fr.drewN ?_ _) | (with_reducible refine Fr.alloc ?_ _) | (with_reducible refine Fr.set ?_ _ _ (by first | (intros; omega) | (simp; done) | (simp; omega))) | (with_reducible refine Fr.via ?_ (by assumption)) | (with_reducible refine Fr.comp ?_ (by assumption)))))) (some ⟨wr.heap.size + 1, 0, none⟩) 1 1 [.string ⟨#[120, ca, cb]⟩] rfl (blk_srcN (t := 9) (by (unfold Blk; simp (disch := first | omega | (simp; done) | (simp; omega)) only [hp_drew, hp_drewN, hp_alloc, hp_other, hp_same, hp_new, upd_cells, Option.map_some])) rfl) (by simp [Value.oneCell']) (by unfold maxLen; omega) (by omega) (by simp; omega) ?_; intro v' w8 hown8 hg8 hk8; obtain ⟨na, nc, rfl⟩ := owns_shape hown8; have k8 : Fr (fun k => Value.ownBlock (.slice la j lc) = some k) wr w8 := Fr.grown (by (repeat (first | (with_reducible exact Fr.refl _ _) | (with_reducible assumption) | (with_reducible exact Fr.of_nil (by assumption)) | (with_reducible refine Fr.drew ?_) | (with_reducible refine Fr.drewN ?_ _) | (with_reducible refine Fr.alloc ?_ _) | (with_reducible refine Fr.set ?_ _ _ (by first | (intros; omega) | (simp; done) | (simp; omega))) | (with_reducible refine Fr.via ?_ (by assumption)) | (with_reducible refine Fr.comp ?_ (by assumption))))) hg8 (fun k q hk => q); have hx8 : ∀ k, (Value.slice na (j + 1) nc).ownBlock = some k → (Value.slice la j lc).ownBlock = some k ∨ wr.heap.size ≤ k := (fun k e => by rcases hk8 with r | r; (exact .inl (r ▸ e)); (rw [r] at e; cases e; exact .inr (by simp; omega))); have s8 := (k8.blk HQ.out.1 (fun q => by have h : T + 2 ≤ T + 1 := (nso _ q).1; omega)); have u8 := owns_frS HQ.out.2.2.1 k8 (fun k e e2 => (HQ.out.2.2.2.1 k e).2 e2); have fw8 : Fr Nil w1 w8 := Fr.trans (S := Nil) HQ.out.2.2.2.2 k8 (fun b hb q => by have := (nso b q).1; omega); have d8 : ∀ k, (Value.slice ua (j + 1) uc).ownBlock = some k → (Value.slice na (j + 1) nc).ownBlock ≠ some k := (fun k e e2 => by have h1 := HQ.out.2.2.2.1 k e; have h2 := (uso k e).2; rcases hx8 k e2 with q | q; (exact h1.2 q); omega); have x5 := s8.cell 5; simp at x5; have x5l := s8.lt; have x5f := s8.free; have H8 := Lib.hid (And.intro s8 (And.intro hown8 (And.intro u8 (And.intro fw8 d8)))); clear hown8 hg8 hk8 s8 u8 fw8 d8 hx8 k8)
        | (refine wpList_append_src rfl (.tmp 46) (.tmp 48) 37 rfl T 40 i0 (.agg #[.int .i64 0, .string ⟨#[]⟩, .bool false, .int .u64 0, .slice none 0 0, .slice none 0 0, .slice none 0 0, .slice none 0 0]) 8 136 Tryd.underlying37 hi hz0 hz1 hz2 rfl (by decide) (.slice ua (j + 1) uc) (j + 1) (kcsW j) rfl (owns_fr H8.out.2.2.1 (by (repeat (first | (with_reducible exact Fr.refl _ _) | (with_reducible assumption) | (with_reducible exact Fr.of_nil (by assumption)) | (with_reducible refine Fr.drew ?_) | (with_reducible refine Fr.drewN ?_ _) | (with_reducible refine Fr.alloc ?_ _) | (with_reducible refine Fr.set ?_ _ _ (by first | (intros; omega) | (simp; done) | (simp; omega))) | (with_reducible refine Fr.via ?_ (by assumption)) | (with_reducible refine Fr.comp ?_ (by assumption)))))) (some ⟨w8.heap.size, 0, none⟩) 1 1 [.int .i64 3, .string ⟨#[]⟩, .bool false, .int .u64 0, .slice none 0 0, .slice none 0 0, .slice none 0 0, .slice none 0 0] rfl (blk_srcN (t := 40) (by (unfold Blk; simp (disch := first | omega | (simp; done) | (simp; omega)) only [hp_drew, hp_drewN, hp_alloc, hp_other, hp_same, hp_new, upd_cells, Option.map_some])) rfl) (by simp [Value.oneCell']) (by unfold maxLen; omega) (by omega) (by simp; have := H8.out.2.2.2.1.size; omega) ?_; intro v' w9 hown9 hg9 hk9; obtain ⟨ya, yc, rfl⟩ := owns_shape hown9; have k9 : Fr (fun k => Value.ownBlock (.slice ua (j + 1) uc) = some k) w8 w9 := Fr.grown (by (repeat (first | (with_reducible exact Fr.refl _ _) | (with_reducible assumption) | (with_reducible exact Fr.of_nil (by assumption)) | (with_reducible refine Fr.drew ?_) | (with_reducible refine Fr.drewN ?_ _) | (with_reducible refine Fr.alloc ?_ _) | (with_reducible refine Fr.set ?_ _ _ (by first | (intros; omega) | (simp; done) | (simp; omega))) | (with_reducible refine Fr.via ?_ (by assumption)) | (with_reducible refine Fr.comp ?_ (by assumption))))) hg9 (fun k q hk => q); have hx9 : ∀ k, (Value.slice ya (j + 1 + 1) yc).ownBlock = some k → (Value.slice ua (j + 1) uc).ownBlock = some k ∨ w8.heap.size ≤ k := (fun k e => by rcases hk9 with r | r; (exact .inl (r ▸ e)); (rw [r] at e; cases e; exact .inr (by simp))); have s9 := (k9.blk H8.out.1 (fun q => (HQ.out.2.2.2.1 _ q).1 rfl)); have l9 := owns_frS H8.out.2.1 k9 (fun k e e2 => H8.out.2.2.2.2 k e2 e); have fw9 : Fr Nil w1 w9 := Fr.trans (S := Nil) H8.out.2.2.2.1 k9 (fun b hb q => by have := (uso b q).1; omega); have d9 : ∀ k, (Value.slice ya (j + 1 + 1) yc).ownBlock = some k → k ≠ T + 1 ∧ (Value.slice na (j + 1) nc).ownBlock ≠ some k := (fun k e => by rcases hx9 k e with q | q; (exact ⟨(HQ.out.2.2.2.1 k q).1, H8.out.2.2.2.2 k q⟩); (exact ⟨by have := H8.out.1.lt; omega, fun e2 => by have := (H8.out.2.1.lt k e2).2; omega⟩)); have y5 := s9.cell 5; simp at y5; have y5l := s9.lt; have y5f := s9.free; have H9 := Lib.hid (And.intro s9 (And.intro l9 (And.intro hown9 (And.intro fw9 d9)))); clear hown9 hg9 hk9 s9 l9 fw9 d9 hx9 k9)))
      all_goals
        go_wp2
        have fS : Fr (fun b => b = T + 1) w9 (w9.setCell ⟨T + 1, 5, none⟩ (.slice ya (j + 1 + 1) yc)) := Fr.set (S := fun b => b = T + 1) (Fr.refl _ _) _ _ (fun _ => rfl)
        go_roundg (n - (j + 1))
        case rel =>
          refine ⟨j + 1, _, _, rfl, by omega, rfl, rfl, Lib.hid ⟨H9.out.1.put rfl, ?_, ?_, H9.out.2.2.2.2, Fr.trans (S := Nil) H9.out.2.2.2.1 fS (fun b hb q => by have q' : b = T + 1 := q; omega)⟩⟩
          · rw [psW_succ, HN.out, strC_snoc]
            exact owns_frS H9.out.2.1 fS (fun k e q => by have q' : k = T + 1 := q; have := (H9.out.2.1.lt k e).1; omega)
          · rw [kcsW_succ]
            exact owns_frS H9.out.2.2.1 fS (fun k e q => (H9.out.2.2.2.2 k e).1 q)
        case measure => omega
    · have j1 : ¬ (j : Int) < (n : Int) := by omega
      have ejn : j = n := by omega
      subst ejn
      obtain ⟨B, hB⟩ : ∃ B, wr.heap.size = B := ⟨_, rfl⟩
      have lT1 := HQ.out.1.lt
      cases lam with
      | false =>
        have hrs : RowS (fun _ => False) wr (.slice la j lc) (psW j) := RowS.of_own (base := T + 2) (by rw [psW_len]; exact HQ.out.2.1) (fun _ q => q.elim)
        go_upto_region 15 with fail
        try rw [hB]
        obtain ⟨W3, hW3⟩ : ∃ W3, (wr.alloc (.cells #[.int .i64 3, .string ⟨#[]⟩, .bool false, .int .u64 0, .slice none 0 0, .slice none 0 0, .slice none 0 0, .slice none 0 0] 40)).alloc (.cells #[.string ⟨#[102]⟩, .slice la j lc, .int .i64 3, .string ⟨#[]⟩, .bool false, .int .u64 0, .slice none 0 0, .slice none 0 0, .slice none 0 0, .slice none 0 0] 42) = W3 := ⟨_, rfl⟩
        rw [hW3]
        have f3 : Fr Nil wr W3 := by rw [← hW3]; (repeat (first | (with_reducible exact Fr.refl _ _) | (with_reducible assumption) | (with_reducible exact Fr.of_nil (by assumption)) | (with_reducible refine Fr.drew ?_) | (with_reducible refine Fr.drewN ?_ _) | (with_reducible refine Fr.alloc ?_ _) | (with_reducible refine Fr.set ?_ _ _ (by first | (intros; omega) | (simp; done) | (simp; omega))) | (with_reducible refine Fr.via ?_ (by assumption)) | (with_reducible refine Fr.comp ?_ (by assumption))))
        have bl3 : Blk W3 B #[.int .i64 3, .string ⟨#[]⟩, .bool false, .int .u64 0, .slice none 0 0, .slice none 0 0, .slice none 0 0, .slice none 0 0] 40 := by rw [← hW3, ← hB]; (unfold Blk; simp (disch := first | omega | (simp; done) | (simp; omega)) only [hp_drew, hp_drewN, hp_alloc, hp_other, hp_same, hp_new, upd_cells, Option.map_some])
        have bb3 : Blk W3 (B + 1) #[.string ⟨#[102]⟩, .slice la j lc, .int .i64 3, .string ⟨#[]⟩, .bool false, .int .u64 0, .slice none 0 0, .slice none 0 0, .slice none 0 0, .slice none 0 0] 42 := by rw [← hW3, ← hB]; (unfold Blk; simp (disch := first | omega | (simp; done) | (simp; omega)) only [hp_drew, hp_drewN, hp_alloc, hp_other, hp_same, hp_new, upd_cells, Option.map_some])
        have hT3 : W3.heap.size = B + 2 := by rw [← hW3]; simp [hB]
        have ba3 := f3.blk HQ.out.1 (fun q => q)
        have H3 := Lib.hid (And.intro f3 (And.intro bl3 (And.intro bb3 (And.intro ba3 hT3))))
        clear hW3 f3 hT3
        have x0 := bl3.cell 0
        have x1 := bl3.cell 1
        have x2 := bl3.cell 2
        have x3 := bl3.cell 3
        have x4 := bl3.cell 4
        have x5 := bl3.cell 5
        have x6 := bl3.cell 6
        have x7 := bl3.cell 7
        simp at x0 x1 x2 x3 x4 x5 x6 x7
        have xl := bl3.lt
        have y0 := bb3.cell 0
        have y1 := bb3.cell 1
        have y2 := bb3.cell 2
        have y3 := bb3.cell 3
        have y4 := bb3.cell 4
        have y5 := bb3.cell 5
        have y6 := bb3.cell 6
        have y7 := bb3.cell 7
        have y8 := bb3.cell 8
        have y9 := bb3.cell 9
        simp at y0 y1 y2 y3 y4 y5 y6 y7 y8 y9
        have yl := bb3.lt
        have yf := bb3.free
        clear bl3 bb3 ba3
        have H4 := H3
        have hbat : ∀ W, Fr Nil W3 W → BAt (fun _ => False) W [.string ⟨#[102]⟩, .slice la j lc, .int .i64 3, .string ⟨#[]⟩, .bool false, .int .u64 0, .slice none 0 0, .slice none 0 0, .slice none 0 0, .slice none 0 0] (.mk fW (psW j) litE) := fun W g => ⟨.slice la j lc, [.int .i64 3, .string ⟨#[]⟩, .bool false, .int .u64 0, .slice none 0 0, .slice none 0 0, .slice none 0 0, .slice none 0 0], rfl, RowS.frN hrs (H4.out.1.comp g), lit_at⟩
        obtain ⟨⟨RE, RN⟩, hR⟩ : ∃ R, arF (mdW (psW j) litE litE) = R := ⟨_, rfl⟩
        have c1 := wide1 j (by omega) (by omega)
        rw [hR] at c1
        obtain ⟨W5, hW5⟩ : ∃ W, W3.alloc (.cells #[.string ⟨#[102]⟩, .slice la j lc, .int .i64 3, .string ⟨#[]⟩, .bool false, .int .u64 0, .slice none 0 0, .slice none 0 0, .slice none 0 0, .slice none 0 0, .string ⟨#[109, 97, 105, 110]⟩, .slice none 0 0, .int .i64 3, .string ⟨#[]⟩, .bool false, .int .u64 0, .slice none 0 0, .slice none 0 0, .slice none 0 0, .slice none 0 0] 42) = W := ⟨_, rfl⟩
        have f5 : Fr Nil W3 W5 := by rw [← hW5]; (repeat (first | (with_reducible exact Fr.refl _ _) | (with_reducible assumption) | (with_reducible exact Fr.of_nil (by assumption)) | (with_reducible refine Fr.drew ?_) | (with_reducible refine Fr.drewN ?_ _) | (with_reducible refine Fr.alloc ?_ _) | (with_reducible refine Fr.set ?_ _ _ (by first | (intros; omega) | (simp; done) | (simp; omega))) | (with_reducible refine Fr.via ?_ (by assumption)) | (with_reducible refine Fr.comp ?_ (by assumption))))
        have b5 : Blk W5 (B + 2) (([.string ⟨#[102]⟩, .slice la j lc, .int .i64 3, .string ⟨#[]⟩, .bool false, .int .u64 0, .slice none 0 0, .slice none 0 0, .slice none 0 0, .slice none 0 0] : List Value) ++ ([.string ⟨#[109, 97, 105, 110]⟩, .slice none 0 0, .int .i64 3, .string ⟨#[]⟩, .bool false, .int .u64 0, .slice none 0 0, .slice none 0 0, .slice none 0 0, .slice none 0 0] : List Value)).toArray 42 := by rw [← hW5, ← H4.out.2.2.2.2]; exact Blk.new _ _ _
        have hfr5 : Fr Nil w W5 := HF1.out.comp (HQ.out.2.2.2.2.comp (H4.out.1.comp f5))
        have hck := check_two b5 rfl rfl (hbat W5 f5) ⟨.slice none 0 0, [.int .i64 3, .string ⟨#[]⟩, .bool false, .int .u64 0, .slice none 0 0, .slice none 0 0, .slice none 0 0, .slice none 0 0], rfl, RowC.nil, lit_at⟩ (b2 := .mk mainN [] litE) (mdW_ok (fun x hx => psW_le hx) lit_ok lit_ok) (mdW_ws lit_ws lit_ws) (wide1w j (by omega)) (HT.out.fr hfr5) hR
        have HK := Lib.hid hck
        have H5 := Lib.hid (And.intro hfr5 (And.intro (f5.blk H4.out.2.1 (fun q => q)) (And.intro (f5.blk H4.out.2.2.2.1 (fun q => q)) (And.intro (HQ.out.2.2.2.2.comp (H4.out.1.comp f5)) (And.intro hfr5.size (H4.out.1.comp f5))))))
        have HC1 := Lib.hid c1
        clear f5 b5 hfr5 hck hR hbat c1
        go_wp2_with fail
        try rw [H4.out.2.2.2.2]
        try rw [hW5]
        refine HK.out.mono ?_
        rintro e W6 ⟨rfl, f6⟩
        have bl6 := f6.blk H5.out.2.1 (fun q => q)
        have ba6 := f6.blk H5.out.2.2.1 (fun q => q)
        have hf6 : Fr Nil w W6 := H5.out.1.comp f6
        have hk6 : Fr Nil wr W6 := H5.out.2.2.2.2.2.comp f6
        clear HK hW5 x0 x1 x2 x3 x4 x5 x6 x7 xl y0 y1 y2 y3 y4 y5 y6 y7 y8 y9 yl yf
        have x0 := bl6.cell 0
        have x1 := bl6.cell 1
        have x2 := bl6.cell 2
        have x3 := bl6.cell 3
        have x4 := bl6.cell 4
        have x5 := bl6.cell 5
        have x6 := bl6.cell 6
        have x7 := bl6.cell 7
        simp at x0 x1 x2 x3 x4 x5 x6 x7
        have xl := bl6.lt
        have y0 := ba6.cell 0
        have y1 := ba6.cell 1
        have y2 := ba6.cell 2
        have y3 := ba6.cell 3
        have y4 := ba6.cell 4
        have y5 := ba6.cell 5
        have y6 := ba6.cell 6
        have y7 := ba6.cell 7
        simp at y0 y1 y2 y3 y4 y5 y6 y7
        have yl := ba6.lt
        obtain ⟨D, hD⟩ : ∃ D, W6.heap.size = D := ⟨_, rfl⟩
        obtain ⟨W7, hW7⟩ : ∃ W, W6.alloc (.cells #[.string ⟨#[102]⟩, .slice none 0 0, .int .i64 3, .string ⟨#[]⟩, .bool false, .int .u64 0, .slice none 0 0, .slice none 0 0, .slice none 0 0, .slice none 0 0, .string ⟨#[109, 97, 105, 110]⟩, .slice none 0 0, .int .i64 4, .string ⟨#[]⟩, .bool false, .int .u64 0, .slice none 0 0, .slice ua (j + 1) uc, .slice none 0 0, .slice none 0 0] 42) = W := ⟨_, rfl⟩
        have f7 : Fr Nil W6 W7 := by rw [← hW7]; (repeat (first | (with_reducible exact Fr.refl _ _) | (with_reducible assumption) | (with_reducible exact Fr.of_nil (by assumption)) | (with_reducible refine Fr.drew ?_) | (with_reducible refine Fr.drewN ?_ _) | (with_reducible refine Fr.alloc ?_ _) | (with_reducible refine Fr.set ?_ _ _ (by first | (intros; omega) | (simp; done) | (simp; omega))) | (with_reducible refine Fr.via ?_ (by assumption)) | (with_reducible refine Fr.comp ?_ (by assumption))))
        have b7 : Blk W7 D (([.string ⟨#[102]⟩, .slice none 0 0, .int .i64 3, .string ⟨#[]⟩, .bool false, .int .u64 0, .slice none 0 0, .slice none 0 0, .slice none 0 0, .slice none 0 0] : List Value) ++ ([.string ⟨#[109, 97, 105, 110]⟩, .slice none 0 0, .int .i64 4, .string ⟨#[]⟩, .bool false, .int .u64 0, .slice none 0 0, .slice ua (j + 1) uc, .slice none 0 0, .slice none 0 0] : List Value)).toArray 42 := by rw [← hW7, ← hD]; exact Blk.new _ _ _
        obtain ⟨⟨SE, SN⟩, hS⟩ : ∃ R, arF (mdW [] litE (oneW j)) = R := ⟨_, rfl⟩
        have c2 := wide3 j (by omega) (by omega)
        rw [hS] at c2
        obtain ⟨kc, hkc1, hkc2⟩ := kids_w (owns_fr HQ.out.2.2.1 (hk6.comp f7))
        have hkl : (oneW j).kids.length = j + 1 := by simp [oneW, TE.kids]
        have hEA : EAt (fun _ => False) W7 [.int .i64 4, .string ⟨#[]⟩, .bool false, .int .u64 0, .slice none 0 0, .slice ua (j + 1) uc, .slice none 0 0, .slice none 0 0] (oneW j) := kids_at (kind := 4) (name := []) (kids := (oneW j).kids) (by rw [hkl]; exact hkc1) hkc2
        have hck := check_two b7 rfl rfl (b1 := .mk fW [] litE) ⟨.slice none 0 0, [.int .i64 3, .string ⟨#[]⟩, .bool false, .int .u64 0, .slice none 0 0, .slice none 0 0, .slice none 0 0, .slice none 0 0], rfl, RowC.nil, lit_at⟩ (b2 := .mk mainN [] (oneW j)) ⟨.slice none 0 0, _, rfl, RowC.nil, hEA⟩ (mdW_ok (fun x hx => by simp at hx) lit_ok (one_ok j)) (mdW_ws lit_ws (one_ws j)) (wide3w j (by omega)) (HT.out.fr (hf6.comp f7)) hS
        have HK := Lib.hid hck
        have H7 := Lib.hid (And.intro (hf6.comp f7) c2)
        clear f7 b7 c2 hkc1 hkc2 hkl hEA hck hS bl6 ba6 hf6 hk6 f6
        go_wp2_with fail
        try rw [hD]
        try rw [hW7]
        refine HK.out.mono ?_
        rintro e W8 ⟨rfl, f8⟩
        have H8 := Lib.hid (H7.out.1.comp f8)
        clear f8 HK hW7 hD x0 x1 x2 x3 x4 x5 x6 x7 xl y0 y1 y2 y3 y4 y5 y6 y7 yl
        have c1 := HC1.out
        have c2 := H7.out.2
        by_cases h24 : j ≤ 24
        · rw [if_pos h24] at c1 c2
          injection c1 with a1 a2
          injection c2 with a3 a4
          subst a1 a2 a3 a4
          have q24 : ¬ (24 : Int) < (j : Int) := by omega
          go_wp2
          go_ret
          exact ⟨by simp, H8.out⟩
        · rw [if_neg h24] at c1 c2
          injection c1 with a1 a2
          injection c2 with a3 a4
          subst a1 a2 a3 a4
          have q24 : (24 : Int) < (j : Int) := by omega
          go_wp2
          go_ret
          exact ⟨by simp [fW], H8.out⟩
      | true =>
        have hrs : RowS (fun _ => False) wr (.slice la j lc) (psW j) := RowS.of_own (base := T + 2) (by rw [psW_len]; exact HQ.out.2.1) (fun _ q => q.elim)
        go_upto_region 15 with fail
        try rw [hB]
        obtain ⟨W3, hW3⟩ : ∃ W3, (wr.alloc (.cells #[.int .i64 3, .string ⟨#[]⟩, .bool false, .int .u64 0, .slice none 0 0, .slice none 0 0, .slice none 0 0, .slice none 0 0] 40)).alloc (.cells #[.string ⟨#[102]⟩, .slice la j lc, .int .i64 3, .string ⟨#[]⟩, .bool false, .int .u64 0, .slice none 0 0, .slice none 0 0, .slice none 0 0, .slice none 0 0] 42) = W3 := ⟨_, rfl⟩
        rw [hW3]
        have f3 : Fr Nil wr W3 := by rw [← hW3]; (repeat (first | (with_reducible exact Fr.refl _ _) | (with_reducible assumption) | (with_reducible exact Fr.of_nil (by assumption)) | (with_reducible refine Fr.drew ?_) | (with_reducible refine Fr.drewN ?_ _) | (with_reducible refine Fr.alloc ?_ _) | (with_reducible refine Fr.set ?_ _ _ (by first | (intros; omega) | (simp; done) | (simp; omega))) | (with_reducible refine Fr.via ?_ (by assumption)) | (with_reducible refine Fr.comp ?_ (by assumption))))
        have bl3 : Blk W3 B #[.int .i64 3, .string ⟨#[]⟩, .bool false, .int .u64 0, .slice none 0 0, .slice none 0 0, .slice none 0 0, .slice none 0 0] 40 := by rw [← hW3, ← hB]; (unfold Blk; simp (disch := first | omega | (simp; done) | (simp; omega)) only [hp_drew, hp_drewN, hp_alloc, hp_other, hp_same, hp_new, upd_cells, Option.map_some])
        have bb3 : Blk W3 (B + 1) #[.string ⟨#[102]⟩, .slice la j lc, .int .i64 3, .string ⟨#[]⟩, .bool false, .int .u64 0, .slice none 0 0, .slice none 0 0, .slice none 0 0, .slice none 0 0] 42 := by rw [← hW3, ← hB]; (unfold Blk; simp (disch := first | omega | (simp; done) | (simp; omega)) only [hp_drew, hp_drewN, hp_alloc, hp_other, hp_same, hp_new, upd_cells, Option.map_some])
        have hT3 : W3.heap.size = B + 2 := by rw [← hW3]; simp [hB]
        have ba3 := f3.blk HQ.out.1 (fun q => q)
        have H3 := Lib.hid (And.intro f3 (And.intro bl3 (And.intro bb3 (And.intro ba3 hT3))))
        clear hW3 f3 hT3
        have x0 := bl3.cell 0
        have x1 := bl3.cell 1
        have x2 := bl3.cell 2
        have x3 := bl3.cell 3
        have x4 := bl3.cell 4
        have x5 := bl3.cell 5
        have x6 := bl3.cell 6
        have x7 := bl3.cell 7
        simp at x0 x1 x2 x3 x4 x5 x6 x7
        have xl := bl3.lt
        have y0 := bb3.cell 0
        have y1 := bb3.cell 1
        have y2 := bb3.cell 2
        have y3 := bb3.cell 3
        have y4 := bb3.cell 4
        have y5 := bb3.cell 5
        have y6 := bb3.cell 6
        have y7 := bb3.cell 7
        have y8 := bb3.cell 8
        have y9 := bb3.cell 9
        simp at y0 y1 y2 y3 y4 y5 y6 y7 y8 y9
        have yl := bb3.lt
        have yf := bb3.free
        clear bl3 bb3 ba3
        go_upto_region 17 with fail
        try rw [H3.out.2.2.2.2]
        obtain ⟨W3b, hW3b⟩ : ∃ W, ((((((((((W3.setCell ⟨B + 1, 0, none⟩ (.string ⟨#[102]⟩)).setCell ⟨B + 1, 1, none⟩ (.slice none 0 0)).setCell ⟨B + 1, 2, none⟩ (.int .i64 8)).setCell ⟨B + 1, 3, none⟩ (.string ⟨#[]⟩)).setCell ⟨B + 1, 4, none⟩ (.bool false)).setCell ⟨B + 1, 5, none⟩ (.int .u64 0)).setCell ⟨B + 1, 6, none⟩ (.slice la j lc)).setCell ⟨B + 1, 7, none⟩ (.slice (some ⟨B + 2, 0, none⟩) 1 1)).setCell ⟨B + 1, 8, none⟩ (.slice none 0 0)).setCell ⟨B + 1, 9, none⟩ (.slice none 0 0)) = W := ⟨_, rfl⟩
        rw [hW3b]
        have f3b : Fr (fun b => b = B + 1) W3 W3b := by rw [← hW3b]; exact set10 _ _
        have bb3b : Blk W3b (B + 1) #[.string ⟨#[102]⟩, .slice none 0 0, .int .i64 8, .string ⟨#[]⟩, .bool false, .int .u64 0, .slice la j lc, .slice (some ⟨B + 2, 0, none⟩) 1 1, .slice none 0 0, .slice none 0 0] 42 := by rw [← hW3b]; exact put10 H3.out.2.2.1
        have bl3b := f3b.blk H3.out.2.1 (fun q => by have q' : B = B + 1 := q; omega)
        have ba3b := f3b.blk H3.out.2.2.2.1 (fun q => by have q' : T + 1 = B + 1 := q; omega)
        have g3b : Fr Nil wr W3b := H3.out.1.trans f3b (fun b hb q => by have q' : b = B + 1 := q; omega)
        have ht3b : W3b.heap.size = B + 2 := by rw [← hW3b]; simp [H3.out.2.2.2.2]
        obtain ⟨W4, hW4⟩ : ∃ W, W3b.alloc (.cells #[.int .i64 3, .string ⟨#[]⟩, .bool false, .int .u64 0, .slice none 0 0, .slice none 0 0, .slice none 0 0, .slice none 0 0] 40) = W := ⟨_, rfl⟩
        rw [hW4]
        have f4 : Fr Nil W3b W4 := by rw [← hW4]; (repeat (first | (with_reducible exact Fr.refl _ _) | (with_reducible assumption) | (with_reducible exact Fr.of_nil (by assumption)) | (with_reducible refine Fr.drew ?_) | (with_reducible refine Fr.drewN ?_ _) | (with_reducible refine Fr.alloc ?_ _) | (with_reducible refine Fr.set ?_ _ _ (by first | (intros; omega) | (simp; done) | (simp; omega))) | (with_reducible refine Fr.via ?_ (by assumption)) | (with_reducible refine Fr.comp ?_ (by assumption))))
        have bk4 : Blk W4 (B + 2) #[.int .i64 3, .string ⟨#[]⟩, .bool false, .int .u64 0, .slice none 0 0, .slice none 0 0, .slice none 0 0, .slice none 0 0] 40 := by rw [← hW4, ← ht3b]; exact Blk.new _ _ _
        have bb4 := f4.blk bb3b (fun q => q)
        have bl4 := f4.blk bl3b (fun q => q)
        have ba4 := f4.blk ba3b (fun q => q)
        have g4 := g3b.comp f4
        have ht4 : W4.heap.size = B + 3 := by rw [← hW4]; simp [ht3b]
        have H4 := Lib.hid (And.intro g4 (And.intro bl4 (And.intro bb4 (And.intro ba4 (And.intro ht4 bk4)))))
        clear hW3b hW4 bl3b ba3b bb3b f3b g3b ht3b f4 g4 ht4 x0 x1 x2 x3 x4 x5 x6 x7 xl y0 y1 y2 y3 y4 y5 y6 y7 y8 y9 yl yf
        have x0 := bl4.cell 0
        have x1 := bl4.cell 1
        have x2 := bl4.cell 2
        have x3 := bl4.cell 3
        have x4 := bl4.cell 4
        have x5 := bl4.cell 5
        have x6 := bl4.cell 6
        have x7 := bl4.cell 7
        simp at x0 x1 x2 x3 x4 x5 x6 x7
        have xl := bl4.lt
        have y0 := bb4.cell 0
        have y1 := bb4.cell 1
        have y2 := bb4.cell 2
        have y3 := bb4.cell 3
        have y4 := bb4.cell 4
        have y5 := bb4.cell 5
        have y6 := bb4.cell 6
        have y7 := bb4.cell 7
        have y8 := bb4.cell 8
        have y9 := bb4.cell 9
        simp at y0 y1 y2 y3 y4 y5 y6 y7 y8 y9
        have yl := bb4.lt
        clear bl4 bb4 bk4 ba4
        have hbat : ∀ W, Fr Nil W4 W → BAt (fun _ => False) W [.string ⟨#[102]⟩, .slice none 0 0, .int .i64 8, .string ⟨#[]⟩, .bool false, .int .u64 0, .slice la j lc, .slice (some ⟨B + 2, 0, none⟩) 1 1, .slice none 0 0, .slice none 0 0] (.mk fW [] (lamW j)) := fun W g => ⟨.slice none 0 0, [.int .i64 8, .string ⟨#[]⟩, .bool false, .int .u64 0, .slice la j lc, .slice (some ⟨B + 2, 0, none⟩) 1 1, .slice none 0 0, .slice none 0 0], rfl, RowC.nil, EAt.rows (kids := [litE]) (alts := []) (binds := []) (params := psW j) (kc := fun _ => [.int .i64 3, .string ⟨#[]⟩, .bool false, .int .u64 0, .slice none 0 0, .slice none 0 0, .slice none 0 0, .slice none 0 0]) (ac := fun _ => []) (bc := fun _ => []) 8 [] (RowS.frN hrs (H4.out.1.comp g)) (RowC.one (g.blk H4.out.2.2.2.2.2 (fun q => q)) rfl id) (fun i hi => by
          have e0 : i = 0 := by simp at hi; exact hi
          subst e0
          exact lit_at) .nil (fun i h => absurd h (Nat.not_lt_zero i)) .nil (fun i h => absurd h (Nat.not_lt_zero i))⟩
        obtain ⟨⟨RE, RN⟩, hR⟩ : ∃ R, arF (mdW [] (lamW j) litE) = R := ⟨_, rfl⟩
        have c1 := wide2 j (by omega) (by omega)
        rw [hR] at c1
        obtain ⟨W5, hW5⟩ : ∃ W, W4.alloc (.cells #[.string ⟨#[102]⟩, .slice none 0 0, .int .i64 8, .string ⟨#[]⟩, .bool false, .int .u64 0, .slice la j lc, .slice (some ⟨B + 2, 0, none⟩) 1 1, .slice none 0 0, .slice none 0 0, .string ⟨#[109, 97, 105, 110]⟩, .slice none 0 0, .int .i64 3, .string ⟨#[]⟩, .bool false, .int .u64 0, .slice none 0 0, .slice none 0 0, .slice none 0 0, .slice none 0 0] 42) = W := ⟨_, rfl⟩
        have f5 : Fr Nil W4 W5 := by rw [← hW5]; (repeat (first | (with_reducible exact Fr.refl _ _) | (with_reducible assumption) | (with_reducible exact Fr.of_nil (by assumption)) | (with_reducible refine Fr.drew ?_) | (with_reducible refine Fr.drewN ?_ _) | (with_reducible refine Fr.alloc ?_ _) | (with_reducible refine Fr.set ?_ _ _ (by first | (intros; omega) | (simp; done) | (simp; omega))) | (with_reducible refine Fr.via ?_ (by assumption)) | (with_reducible refine Fr.comp ?_ (by assumption))))
        have b5 : Blk W5 (B + 3) (([.string ⟨#[102]⟩, .slice none 0 0, .int .i64 8, .string ⟨#[]⟩, .bool false, .int .u64 0, .slice la j lc, .slice (some ⟨B + 2, 0, none⟩) 1 1, .slice none 0 0, .slice none 0 0] : List Value) ++ ([.string ⟨#[109, 97, 105, 110]⟩, .slice none 0 0, .int .i64 3, .string ⟨#[]⟩, .bool false, .int .u64 0, .slice none 0 0, .slice none 0 0, .slice none 0 0, .slice none 0 0] : List Value)).toArray 42 := by rw [← hW5, ← H4.out.2.2.2.2.1]; exact Blk.new _ _ _
        have hfr5 : Fr Nil w W5 := HF1.out.comp (HQ.out.2.2.2.2.comp (H4.out.1.comp f5))
        have hck := check_two b5 rfl rfl (hbat W5 f5) ⟨.slice none 0 0, [.int .i64 3, .string ⟨#[]⟩, .bool false, .int .u64 0, .slice none 0 0, .slice none 0 0, .slice none 0 0, .slice none 0 0], rfl, RowC.nil, lit_at⟩ (b2 := .mk mainN [] litE) (mdW_ok (fun x hx => by simp at hx) (lamW_ok j) lit_ok) (mdW_ws (lam_ws h1) lit_ws) (wide2w j (by omega)) (HT.out.fr hfr5) hR
        have HK := Lib.hid hck
        have H5 := Lib.hid (And.intro hfr5 (And.intro (f5.blk H4.out.2.1 (fun q => q)) (And.intro (f5.blk H4.out.2.2.2.1 (fun q => q)) (And.intro (HQ.out.2.2.2.2.comp (H4.out.1.comp f5)) (And.intro hfr5.size (H4.out.1.comp f5))))))
        have HC1 := Lib.hid c1
        clear f5 b5 hfr5 hck hR hbat c1
        go_wp2_with fail
        try rw [H4.out.2.2.2.2.1]
        try rw [hW5]
        refine HK.out.mono ?_
        rintro e W6 ⟨rfl, f6⟩
        have bl6 := f6.blk H5.out.2.1 (fun q => q)
        have ba6 := f6.blk H5.out.2.2.1 (fun q => q)
        have hf6 : Fr Nil w W6 := H5.out.1.comp f6
        have hk6 : Fr Nil wr W6 := H5.out.2.2.2.2.2.comp f6
        clear HK hW5 x0 x1 x2 x3 x4 x5 x6 x7 xl y0 y1 y2 y3 y4 y5 y6 y7 y8 y9 yl 
        have x0 := bl6.cell 0
        have x1 := bl6.cell 1
        have x2 := bl6.cell 2
        have x3 := bl6.cell 3
        have x4 := bl6.cell 4
        have x5 := bl6.cell 5
        have x6 := bl6.cell 6
        have x7 := bl6.cell 7
        simp at x0 x1 x2 x3 x4 x5 x6 x7
        have xl := bl6.lt
        have y0 := ba6.cell 0
        have y1 := ba6.cell 1
        have y2 := ba6.cell 2
        have y3 := ba6.cell 3
        have y4 := ba6.cell 4
        have y5 := ba6.cell 5
        have y6 := ba6.cell 6
        have y7 := ba6.cell 7
        simp at y0 y1 y2 y3 y4 y5 y6 y7
        have yl := ba6.lt
        obtain ⟨D, hD⟩ : ∃ D, W6.heap.size = D := ⟨_, rfl⟩
        obtain ⟨W7, hW7⟩ : ∃ W, W6.alloc (.cells #[.string ⟨#[102]⟩, .slice none 0 0, .int .i64 3, .string ⟨#[]⟩, .bool false, .int .u64 0, .slice none 0 0, .slice none 0 0, .slice none 0 0, .slice none 0 0, .string ⟨#[109, 97, 105, 110]⟩, .slice none 0 0, .int .i64 4, .string ⟨#[]⟩, .bool false, .int .u64 0, .slice none 0 0, .slice ua (j + 1) uc, .slice none 0 0, .slice none 0 0] 42) = W := ⟨_, rfl⟩
        have f7 : Fr Nil W6 W7 := by rw [← hW7]; (repeat (first | (with_reducible exact Fr.refl _ _) | (with_reducible assumption) | (with_reducible exact Fr.of_nil (by assumption)) | (with_reducible refine Fr.drew ?_) | (with_reducible refine Fr.drewN ?_ _) | (with_reducible refine Fr.alloc ?_ _) | (with_reducible refine Fr.set ?_ _ _ (by first | (intros; omega) | (simp; done) | (simp; omega))) | (with_reducible refine Fr.via ?_ (by assumption)) | (with_reducible refine Fr.comp ?_ (by assumption))))
        have b7 : Blk W7 D (([.string ⟨#[102]⟩, .slice none 0 0, .int .i64 3, .string ⟨#[]⟩, .bool false, .int .u64 0, .slice none 0 0, .slice none 0 0, .slice none 0 0, .slice none 0 0] : List Value) ++ ([.string ⟨#[109, 97, 105, 110]⟩, .slice none 0 0, .int .i64 4, .string ⟨#[]⟩, .bool false, .int .u64 0, .slice none 0 0, .slice ua (j + 1) uc, .slice none 0 0, .slice none 0 0] : List Value)).toArray 42 := by rw [← hW7, ← hD]; exact Blk.new _ _ _
        obtain ⟨⟨SE, SN⟩, hS⟩ : ∃ R, arF (mdW [] litE (oneW j)) = R := ⟨_, rfl⟩
        have c2 := wide3 j (by omega) (by omega)
        rw [hS] at c2
        obtain ⟨kc, hkc1, hkc2⟩ := kids_w (owns_fr HQ.out.2.2.1 (hk6.comp f7))
        have hkl : (oneW j).kids.length = j + 1 := by simp [oneW, TE.kids]
        have hEA : EAt (fun _ => False) W7 [.int .i64 4, .string ⟨#[]⟩, .bool false, .int .u64 0, .slice none 0 0, .slice ua (j + 1) uc, .slice none 0 0, .slice none 0 0] (oneW j) := kids_at (kind := 4) (name := []) (kids := (oneW j).kids) (by rw [hkl]; exact hkc1) hkc2
        have hck := check_two b7 rfl rfl (b1 := .mk fW [] litE) ⟨.slice none 0 0, [.int .i64 3, .string ⟨#[]⟩, .bool false, .int .u64 0, .slice none 0 0, .slice none 0 0, .slice none 0 0, .slice none 0 0], rfl, RowC.nil, lit_at⟩ (b2 := .mk mainN [] (oneW j)) ⟨.slice none 0 0, _, rfl, RowC.nil, hEA⟩ (mdW_ok (fun x hx => by simp at hx) lit_ok (one_ok j)) (mdW_ws lit_ws (one_ws j)) (wide3w j (by omega)) (HT.out.fr (hf6.comp f7)) hS
        have HK := Lib.hid hck
        have H7 := Lib.hid (And.intro (hf6.comp f7) c2)
        clear f7 b7 c2 hkc1 hkc2 hkl hEA hck hS bl6 ba6 hf6 hk6 f6
        go_wp2_with fail
        try rw [hD]
        try rw [hW7]
        refine HK.out.mono ?_
        rintro e W8 ⟨rfl, f8⟩
        have H8 := Lib.hid (H7.out.1.comp f8)
        clear f8 HK hW7 hD x0 x1 x2 x3 x4 x5 x6 x7 xl y0 y1 y2 y3 y4 y5 y6 y7 yl
        have c1 := HC1.out
        have c2 := H7.out.2
        by_cases h24 : j ≤ 24
        · rw [if_pos h24] at c1 c2
          injection c1 with a1 a2
          injection c2 with a3 a4
          subst a1 a2 a3 a4
          have q24 : ¬ (24 : Int) < (j : Int) := by omega
          go_wp2
          go_ret
          exact ⟨by simp, H8.out⟩
        · rw [if_neg h24] at c1 c2
          injection c1 with a1 a2
          injection c2 with a3 a4
          subst a1 a2 a3 a4
          have q24 : (24 : Int) < (j : Int) := by omega
          go_wp2
          go_ret
          exact ⟨by simp [fW], H8.out⟩
set_option maxRecDepth 100000 in
theorem wide_any (n : Int) (lam : Bool) (w : World) (hT : ErrT w) :
    Calls Tryd.prog 6 #[.int .i64 n, .bool lam] w fun r w' => r = .returned (.bool true) ∧ Fr Nil w w' := by
  have HT := Lib.hid hT
  by_cases h1 : n < 1
  · clear hT
    go_enter Tryd.func6, Tryd.ntmps6
    go_wp2_with fail
    refine (awake11_any w HT.out).mono ?_
    rintro e w1 ⟨rfl, f1⟩
    have HF := Lib.hid f1
    clear f1
    go_wp2
    go_ret
    exact ⟨rfl, HF.out⟩
  · by_cases h6 : 60 < n
    · clear hT
      go_enter Tryd.func6, Tryd.ntmps6
      go_wp2_with fail
      refine (awake11_any w HT.out).mono ?_
      rintro e w1 ⟨rfl, f1⟩
      have HF := Lib.hid f1
      clear f1
      go_wp2
      go_ret
      exact ⟨rfl, HF.out⟩
    · obtain ⟨m, rfl⟩ : ∃ m : Nat, n = (m : Int) := ⟨n.toNat, by omega⟩
      exact wide_in m lam (by omega) (by omega) w hT
end Go.Proofs.YtpjlibbdngnnnaaDoor
