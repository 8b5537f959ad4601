/-
  Parse (layer 8): what the document's answer tells of a source. No conditions.
-/
import Derived.Test.YtlnmicddobgppaaGreatDoorPar16
namespace Go.Proofs.YtlnmicddobgppaaGreatDoor
set_option linter.unusedSimpArgs false
set_option linter.unusedVariables false
open Go.RowKit

theorem flatT_get8 (l : List TokV) (i : Nat) (hi : i < l.length) (k : Nat) (hk : k < 5) : (flatT l)[i * 5 + k]? = (tokCells l[i])[k]? := by
  induction l generalizing i with
  | nil => simp at hi
  | cons t l ih =>
    have e : flatT (t :: l) = tokCells t ++ flatT l := rfl
    have hl : (tokCells t).length = 5 := rfl
    rw [e]
    cases i with
    | zero =>
      rw [List.getElem?_append_left (by rw [hl]; omega)]
      simp
    | succ i =>
      rw [List.getElem?_append_right (by rw [hl]; omega), hl, show (i + 1) * 5 + k - 5 = i * 5 + k by omega]
      exact ih i (by simpa using hi)
theorem lexG_size8 : ∀ (n : Nat) (acc : List TokV) (l : List UInt8) (line : Nat), acc.length ≤ 4096 → (lexG n acc l line).toks.length ≤ 4096 := by
  intro n
  induction n with
  | zero => intro acc l line h; exact h
  | succ n ih =>
    intro acc l line h
    by_cases hl : l = []
    · subst hl; rw [lexG_end]; exact h
    · by_cases he : (oneF l line).2 = 0
      · by_cases hf : acc.length = 4096
        · rw [lexG_full hl he hf]; simp
        · rw [lexG_more hl he hf]
          exact ih _ _ _ (by simp; omega)
      · rw [lexG_bad hl he]; simp
theorem lexF_size8 (l : List UInt8) : (lexF l).toks.length ≤ 4096 := by
  unfold lexF
  exact lexG_size8 _ _ _ _ (by simp)
theorem toks_row {base : Nat} {w : World} {v : Value} {l : List TokV} (h : ToksAt base w v l) : RowC (fun _ => False) w v l.length 5 (fun i => tokCells (l.getD i (none_ 0))) := by
  refine RowC.of_own h (fun b q => q.elim) (fun i hi => rfl) (fun i hi j u hj => ?_)
  have hj5 : j < 5 := (List.getElem?_eq_some_iff.1 hj).1
  rw [flatT_get8 l i hi j hj5, ← hj]
  simp [List.getD, hi]
section
set_option maxRecDepth 100000 in
set_option maxHeartbeats 4000000 in
theorem rparse_src (s : ByteArray) (w : World) (hs : s.size ≤ 1000000) :
    Calls Tryz.prog 12 #[.string s] w fun r w' => ∃ v, r = .returned (.tuple #[v, .int .i64 (parseF s.data.toList).2.1, .int .i64 ((parseF s.data.toList).2.2 : Int)]) ∧ MVal (fun b => b < w.heap.size) w' v (parseF s.data.toList).1 ∧ Fr Nil w w' := by
  obtain ⟨X, hX⟩ : ∃ X, lexF s.data.toList = X := ⟨_, rfl⟩
  obtain ⟨⟨rm, re, rl⟩, hR⟩ : ∃ x, parseF s.data.toList = x := ⟨_, rfl⟩
  rw [hR]
  show Calls _ _ _ _ fun r w' => ∃ v, r = .returned (.tuple #[v, .int .i64 re, .int .i64 (rl : Int)]) ∧ MVal (fun b => b < w.heap.size) w' v rm ∧ Fr Nil w w'
  unfold parseF at hR
  rw [hX] at hR
  obtain ⟨⟨tm, te, tl⟩, hT⟩ : ∃ x, tokensF X.toks = x := ⟨_, rfl⟩
  rw [hT] at hR
  simp only at hR
  have hsz := lexF_size8 s.data.toList
  rw [hX] at hsz
  obtain ⟨T, hTT⟩ : ∃ T, w.heap.size = T := ⟨_, rfl⟩
  obtain ⟨xe, hxe⟩ : ∃ e, X.err = e := ⟨_, rfl⟩
  obtain ⟨xl, hxl⟩ : ∃ e, X.line = e := ⟨_, rfl⟩
  rw [hxe, hxl] at hR
  have HX := Lib.hid (And.intro hX (And.intro hT (And.intro hsz (And.intro hxe hxl))))
  have HR := Lib.hid hR
  clear hX hR hT hsz hxe hxl
  rw [hTT]
  go_enter Tryz.func12, Tryz.ntmps12
  go_upto_region 1 with fail
  obtain ⟨W1, hW1⟩ : ∃ W1, w.alloc (.cells #[.slice none 0 0, .slice none 0 0] 26) = W1 := ⟨_, rfl⟩
  rw [hW1]
  have f1 : Fr Nil w W1 := by rw [← hW1]; (repeat (first | (with_reducible exact Fr.refl _ _) | (with_reducible assumption) | (with_reducible exact Fr.of_nil (by assumption)) | (with_reducible refine Fr.drew ?_) | (with_reducible refine Fr.drewN ?_ _) | (with_reducible refine Fr.alloc ?_ _) | (with_reducible refine Fr.set ?_ _ _ (by first | (intros; omega) | (simp; done) | (simp; omega))) | (with_reducible refine Fr.via ?_ (by assumption)) | (with_reducible refine Fr.comp ?_ (by assumption))))
  have bT1 : Blk W1 T #[.slice none 0 0, .slice none 0 0] 26 := by
    rw [← hW1, ← hTT]
    exact Blk.new w #[.slice none 0 0, .slice none 0 0] 26
  clear hW1
  go_wp2_with fail
  refine (rlex_any s W1 hs).mono ?_
  rw [HX.out.1, HX.out.2.2.2.1, HX.out.2.2.2.2]
  rintro e w2 ⟨v, rfl, ht, f2⟩
  have F2 := f1.comp f2
  have bT2 := f2.blk bT1 (fun q => q)
  have hrow := toks_row ht
  have hs2 := F2.size
  clear ht f2 f1 bT1
  have Tc0 := bT2.cell 0
  have Tc1 := bT2.cell 1
  simp at Tc0 Tc1
  have Tf := bT2.free
  have Tl := bT2.lt
  by_cases he : xe = 0
  · subst he
    have hq := HR.out
    rw [if_neg (by simp)] at hq
    cases hq
    have H2 := Lib.hid (And.intro F2 (And.intro bT2 hrow))
    clear F2 bT2 hrow
    go_wp2_with fail
    refine (ptokens_any H2.out.2.2 (by have := HX.out.2.2.1; omega)).mono ?_
    rw [HX.out.2.1]
    rintro e w3 ⟨va, rfl, hm, f3⟩
    obtain ⟨xv, yv, cs, bs, rfl, h1, h2, h3, h4⟩ := hm
    obtain ⟨xa, xc, rfl⟩ := h1.shape
    obtain ⟨ya, yc, rfl⟩ := h3.shape
    have bT3 := f3.blk H2.out.2.1 (fun q => q)
    have F3 := H2.out.1.comp f3
    have hs3 := f3.size
    have h1' : RowC (fun b => b < w2.heap.size) w3 _ _ 2 cs := h1
    have h3' : RowC (fun b => b < w2.heap.size) w3 _ _ 10 bs := h3
    have h4' : ∀ i (h : i < rm.binds.length), BAt (fun b => b < w2.heap.size) w3 (bs i) rm.binds[i] := h4
    have h2' : ∀ i (h : i < rm.cons.length), cs i = [.string ⟨rm.cons[i].1.toArray⟩, .int .i64 (rm.cons[i].2 : Int)] := h2
    have fin : Hid (∀ wf, Fr (fun b => b = T) w3 wf → ∃ v, Ending.returned (.tuple #[.agg #[.slice xa rm.cons.length xc, .slice ya rm.binds.length yc], .int .i64 (te : Int), .int .i64 (rl : Int)]) = .returned (.tuple #[v, .int .i64 (te : Int), .int .i64 (rl : Int)]) ∧ MVal (fun b => b < T) wf v rm ∧ Fr Nil w wf) := fun wf g => by
      have FF : Fr Nil w wf := F3.trans g (fun k hk q => by have q' : k = T := q; omega)
      refine ⟨_, rfl, ⟨_, _, cs, bs, rfl, (h1'.fr g (fun b q => by have q' : b = T := q; omega)).mono (by decide) (fun b _ q => by omega), h2', (h3'.fr g (fun b q => by have q' : b = T := q; omega)).mono (by decide) (fun b _ q => by omega), fun i hi => ?_⟩, FF⟩
      exact lawB.mono (lawB.fr (h4' i hi) g (fun b q => by have q' : b = T := q; omega)) (fun b _ q => by omega)
    have Uc0 := bT3.cell 0
    have Uc1 := bT3.cell 1
    simp at Uc0 Uc1
    have Uf := bT3.free
    have Ul := bT3.lt
    clear h1 h2 h3 h4 h1' h2' h3' h4' F3 f3 bT3 Tc0 Tc1 Tf
    go_wp2
    (try simp only [Exit.inBlock, Exit.then])
    refine bodyPost_ret (v := .tuple #[.agg #[.slice xa rm.cons.length xc, .slice ya rm.binds.length yc], .int .i64 (te : Int), .int .i64 (rl : Int)]) (by simp [results, Tryz.results12, go_sem, *]) rfl ?_
    exact fin.out _ (by (repeat (first | (with_reducible exact Fr.refl _ _) | (with_reducible assumption) | (with_reducible exact Fr.of_nil (by assumption)) | (with_reducible refine Fr.drew ?_) | (with_reducible refine Fr.drewN ?_ _) | (with_reducible refine Fr.alloc ?_ _) | (with_reducible refine Fr.set ?_ _ _ (by first | (intro _; exact rfl) | (intro _; exact .inl rfl) | (intro _; exact .inr rfl) | (intro q; exact absurd q (Nat.lt_irrefl _)) | (intro q; simp at q; omega))) | (with_reducible refine Fr.via ?_ (by assumption)) | (with_reducible refine Fr.comp ?_ (by assumption)))))
  · have hq := HR.out
    rw [if_pos he] at hq
    cases hq
    have d1 : (re == 0) = false := by simpa using he
    have fin : Hid (∀ wf, Fr (fun b => b = T) w2 wf → ∃ v, Ending.returned (.tuple #[.agg #[.slice none 0 0, .slice none 0 0], .int .i64 re, .int .i64 (rl : Int)]) = .returned (.tuple #[v, .int .i64 re, .int .i64 (rl : Int)]) ∧ MVal (fun b => b < T) wf v ⟨[], []⟩ ∧ Fr Nil w wf) := fun wf g => by
      have FF : Fr Nil w wf := F2.trans g (fun k hk q => by have q' : k = T := q; omega)
      exact ⟨_, rfl, ⟨_, _, fun _ => [], fun _ => [], rfl, .nil, fun i h => absurd h (Nat.not_lt_zero i), .nil, fun i h => absurd h (Nat.not_lt_zero i)⟩, FF⟩
    clear F2 bT2 hrow
    go_wp2
    (try simp only [Exit.inBlock, Exit.then])
    refine bodyPost_ret (v := .tuple #[.agg #[.slice none 0 0, .slice none 0 0], .int .i64 re, .int .i64 (rl : Int)]) (by simp [results, Tryz.results12, go_sem, *]) rfl ?_
    exact fin.out _ (by (repeat (first | (with_reducible exact Fr.refl _ _) | (with_reducible assumption) | (with_reducible exact Fr.of_nil (by assumption)) | (with_reducible refine Fr.drew ?_) | (with_reducible refine Fr.drewN ?_ _) | (with_reducible refine Fr.alloc ?_ _) | (with_reducible refine Fr.set ?_ _ _ (by first | (intro _; exact rfl) | (intro _; exact .inl rfl) | (intro _; exact .inr rfl) | (intro q; exact absurd q (Nat.lt_irrefl _)) | (intro q; simp at q; omega))) | (with_reducible refine Fr.via ?_ (by assumption)) | (with_reducible refine Fr.comp ?_ (by assumption)))))
end
end Go.Proofs.YtlnmicddobgppaaGreatDoor
