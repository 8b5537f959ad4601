/-
  The document's ring (layer 5): what a call does, as a relation; grow. Conditions: short rows, small cells.
-/
import Derived.Test.YtlpdlhmdhlcdlaaRef5d
namespace Go.Proofs.Ytlpdlhmdhlcdlaa
set_option linter.unusedSimpArgs false
set_option linter.unusedVariables false
open Go.RowKit Go.Shelf

/-- What a call does. -/
inductive RStep (m : Nat) (W F G B : List Nat) (k n : Int) : Seg4 → Nat → Bool → Nat → Prop
  | growOut (hk : k = 0) (h : n < 1 ∨ (m : Int) - 3 < n) : RStep m W F G B k n ⟨W, F, G, B⟩ 0 false 1
  | growIn (hk : k = 0) (c : Nat) (hn : n = (c : Int)) (h1 : 1 ≤ c) (h2 : c + 3 ≤ m) : RStep m W F G B k n ⟨c :: W, F, G, B⟩ 0 false 0
  | shadeNo (hk : k = 2) (hF : F = []) : RStep m W F G B k n ⟨W, F, G, B⟩ 0 false 20
  | shade (hk : k = 2) (F1 F2 : List Nat) (c : Nat) (hF : F = F1 ++ c :: F2) (hn : (n.tmod (F.length : Int)).natAbs = F1.length) : RStep m W F G B k n ⟨W, F1 ++ F2, G ++ [c], B⟩ 0 false 0
  | nextNo (hk : k = 3) (hG : G = []) : RStep m W F G B k n ⟨W, F, G, B⟩ 0 false 0
  | next (hk : k = 3) (G0 : List Nat) (c : Nat) (hG : G = G0 ++ [c]) : RStep m W F G B k n ⟨W, F, G, B⟩ c true 0
  | doneNo (hk : k = 4) (hG : G = []) : RStep m W F G B k n ⟨W, F, G, B⟩ 0 false 18
  | done (hk : k = 4) (G0 : List Nat) (c : Nat) (hG : G = G0 ++ [c]) : RStep m W F G B k n ⟨W, F, G0, c :: B⟩ 0 false 0
  | beginNo (hk : k = 5) (h : F ≠ [] ∨ G ≠ []) : RStep m W F G B k n ⟨W, F, G, B⟩ 0 false 18
  | begin (hk : k = 5) (hF : F = []) (hG : G = []) : RStep m W F G B k n ⟨W, B, [], []⟩ 0 false 0
  | endNo (hk : k = 6) (h : G ≠ []) : RStep m W F G B k n ⟨W, F, G, B⟩ 0 false 18
  | endOk (hk : k = 6) (hG : G = []) : RStep m W F G B k n ⟨W ++ F, [], [], B⟩ 0 false 0
  | takeNo (hk : k < 0 ∨ k = 1 ∨ 6 < k) (hW : W = []) : RStep m W F G B k n ⟨W, F, G, B⟩ 0 false 2
  | alloc (hk : k = 1) (c : Nat) (W' : List Nat) (hW : W = c :: W') : RStep m W F G B k n ⟨W', F, G, B ++ [c]⟩ c false 0
  | drop (hk : k < 0 ∨ 6 < k) (c : Nat) (W' : List Nat) (hW : W = c :: W') : RStep m W F G B k n ⟨W', F, G, B⟩ c false 0
theorem snoc_of {L : List Nat} (h : L ≠ []) : ∃ L0 c, L = L0 ++ [c] := ⟨L.dropLast, L.getLast h, (List.dropLast_concat_getLast h).symm⟩
/-- Each call does something. -/
theorem rstep_total (m : Nat) (W F G B : List Nat) (k n : Int) : ∃ S c b e, RStep m W F G B k n S c b e := by
  by_cases h0 : k = 0
  · by_cases h : n < 1 ∨ (m : Int) - 3 < n
    · exact ⟨_, _, _, _, .growOut h0 h⟩
    · exact ⟨_, _, _, _, .growIn h0 n.toNat (by omega) (by omega) (by omega)⟩
  by_cases h2 : k = 2
  · by_cases h : F = []
    · exact ⟨_, _, _, _, .shadeNo h2 h⟩
    · have hl : 0 < F.length := List.length_pos_iff.2 h
      have ht : (n.tmod (F.length : Int)).natAbs < F.length := by
        have := Int.natAbs_tmod n (F.length : Int)
        rw [this, Int.natAbs_natCast]
        exact Nat.mod_lt _ hl
      obtain ⟨t, et⟩ : ∃ t, (n.tmod (F.length : Int)).natAbs = t := ⟨_, rfl⟩
      rw [et] at ht
      refine ⟨_, _, _, _, .shade h2 (F.take t) (F.drop (t + 1)) F[t] ?_ ?_⟩
      · rw [← List.drop_eq_getElem_cons ht, List.take_append_drop]
      · rw [et]; simp; omega
  by_cases h3 : k = 3
  · by_cases h : G = []
    · exact ⟨_, _, _, _, .nextNo h3 h⟩
    · obtain ⟨G0, c, e⟩ := snoc_of h
      exact ⟨_, _, _, _, .next h3 G0 c e⟩
  by_cases h4 : k = 4
  · by_cases h : G = []
    · exact ⟨_, _, _, _, .doneNo h4 h⟩
    · obtain ⟨G0, c, e⟩ := snoc_of h
      exact ⟨_, _, _, _, .done h4 G0 c e⟩
  by_cases h5 : k = 5
  · by_cases h : F = []
    · by_cases h' : G = []
      · exact ⟨_, _, _, _, .begin h5 h h'⟩
      · exact ⟨_, _, _, _, .beginNo h5 (.inr h')⟩
    · exact ⟨_, _, _, _, .beginNo h5 (.inl h)⟩
  by_cases h6 : k = 6
  · by_cases h : G = []
    · exact ⟨_, _, _, _, .endOk h6 h⟩
    · exact ⟨_, _, _, _, .endNo h6 h⟩
  cases W with
  | nil => exact ⟨_, _, _, _, .takeNo (by omega) rfl⟩
  | cons c W' =>
    by_cases h1 : k = 1
    · exact ⟨_, _, _, _, .alloc h1 c W' rfl⟩
    · exact ⟨_, _, _, _, .drop (by omega) c W' rfl⟩
theorem RowN.toBS {X : Nat → Prop} {base sb T : Nat} {w w' : World} {v : Value} {L : List Nat} (h : RowN base w v L) (f : Fr (fun x => x = sb ∨ x = T) w w') (h1 : sb < base) (h2 : T < base) (hX : ∀ b, X b → b < base) : RowB X w' v L :=
  ⟨h.toV.frS f (fun g hg q => by have := (h.own g hg).1; rcases q with q | q <;> omega), (h.toB hX).fit, fun g hg => ⟨((h.toB hX).own g hg).1, Nat.lt_of_lt_of_le ((h.toB hX).own g hg).2 f.size⟩⟩
set_option maxRecDepth 100000 in
theorem dgrow_out {X : Nat → Prop} (sb m : Nat) (S : Seg4) (n : Int) (w : World) (h : RefR w X sb m S) (hm : m ≤ 1000000) (hn : n < 1 ∨ (m : Int) - 3 < n) :
    Calls Try.prog 42 #[.pointer (some ⟨sb, 0, none⟩), .int .i64 n] w fun e w' => e = .returned (.agg #[.int .i64 0, .bool false, .int .i64 1]) ∧ Fr Nil w w' := by
  obtain ⟨v0, v1, v2, v3, hb, h0, h1, h2, h3⟩ := h.blk
  have c4 := hb.cell 4
  simp at c4
  have lt := hb.lt
  have ne : sb ≠ w.heap.size := by omega
  have wm : IntKind.i64.wrap ((m : Int) - 3) = (m : Int) - 3 := by rw [IntKind.wrap_i64]; omega
  clear hb h0 h1 h2 h3 h
  by_cases d : n < 1
  · go_enter Try.func42, Try.ntmps42
    go_wp2
    refine bodyPost_ret (v := .agg #[.int .i64 0, .bool false, .int .i64 1]) (by simp [results, Try.results42, go_sem]) rfl ⟨rfl, by (repeat (first | (with_reducible exact Fr.refl _ _) | (with_reducible assumption) | (with_reducible exact Fr.of_nil (by assumption)) | (with_reducible refine Fr.drew ?_) | (with_reducible refine Fr.drewN ?_ _) | (with_reducible refine Fr.alloc ?_ _) | (with_reducible refine Fr.set ?_ _ _ (by first | (intros; omega) | (simp; done) | (simp; omega))) | (with_reducible refine Fr.via ?_ (by assumption)) | (with_reducible refine Fr.comp ?_ (by assumption))))⟩
  · have d2 : (m : Int) - 3 < n := by omega
    go_enter Try.func42, Try.ntmps42
    go_wp2
    refine bodyPost_ret (v := .agg #[.int .i64 0, .bool false, .int .i64 1]) (by simp [results, Try.results42, go_sem]) rfl ⟨rfl, by (repeat (first | (with_reducible exact Fr.refl _ _) | (with_reducible assumption) | (with_reducible exact Fr.of_nil (by assumption)) | (with_reducible refine Fr.drew ?_) | (with_reducible refine Fr.drewN ?_ _) | (with_reducible refine Fr.alloc ?_ _) | (with_reducible refine Fr.set ?_ _ _ (by first | (intros; omega) | (simp; done) | (simp; omega))) | (with_reducible refine Fr.via ?_ (by assumption)) | (with_reducible refine Fr.comp ?_ (by assumption))))⟩
set_option maxRecDepth 100000 in
theorem dgrow_in {X : Nat → Prop} (sb m c : Nat) (W F G B : List Nat) (w : World) (h : RefR w X sb m ⟨W, F, G, B⟩) (hm : m ≤ 1000000) (h1c : 1 ≤ c) (h2c : c + 3 ≤ m) (hl : W.length ≤ 100000) (hX : ∀ b, X b → b < w.heap.size) :
    Calls Try.prog 42 #[.pointer (some ⟨sb, 0, none⟩), .int .i64 (c : Int)] w fun e w' => e = .returned (.agg #[.int .i64 0, .bool false, .int .i64 0]) ∧ RefR w' X sb m ⟨c :: W, F, G, B⟩ ∧ Fr (fun x => x = sb) w w' := by
  obtain ⟨v0, v1, v2, v3, hb, h0, h1, h2, h3⟩ := h.blk
  have lt := hb.lt
  have HS := Lib.hid (And.intro h.at_ h.is)
  have HX := Lib.hid hX
  clear hX
  have wm : IntKind.i64.wrap ((m : Int) - 3) = (m : Int) - 3 := by rw [IntKind.wrap_i64]; omega
  have d1 : ¬ (c : Int) < 1 := by omega
  have d2 : ¬ (m : Int) - 3 < (c : Int) := by omega
  obtain ⟨x0, k0, rfl, _⟩ := h0.fit
  have S0 := Lib.hid h0.src.2
  obtain ⟨n0, e0⟩ : ∃ n, W.length = n := ⟨_, rfl⟩
  simp only at S0 hb
  rw [e0] at S0 hl hb
  have HR := Lib.hid (And.intro h0 (And.intro h1 (And.intro h2 (And.intro h3 e0))))
  obtain ⟨i0, hi, hz0, hz1, hz2⟩ := info_parts infoI
  have HB := Lib.hid hb
  clear h0 h1 h2 h3 h e0 hb
  go_enter Try.func42, Try.ntmps42
  go_upto_region 1 with fail
  obtain ⟨W0, hW0⟩ : ∃ V, V = w.alloc (.cells #[.int .i64 0, .bool false, .int .i64 0] 47) := ⟨_, rfl⟩
  rw [← hW0]
  have f0 : Fr Nil w W0 := by rw [hW0]; (repeat (first | (with_reducible exact Fr.refl _ _) | (with_reducible assumption) | (with_reducible exact Fr.of_nil (by assumption)) | (with_reducible refine Fr.drew ?_) | (with_reducible refine Fr.drewN ?_ _) | (with_reducible refine Fr.alloc ?_ _) | (with_reducible refine Fr.set ?_ _ _ (by first | (intros; omega) | (simp; done) | (simp; omega))) | (with_reducible refine Fr.via ?_ (by assumption)) | (with_reducible refine Fr.comp ?_ (by assumption))))
  have bT : Blk W0 w.heap.size #[.int .i64 0, .bool false, .int .i64 0] 47 := by rw [hW0]; (unfold Blk; simp (disch := first | omega | (simp; done) | (simp; omega)) only [hp_drew, hp_drewN, hp_alloc, hp_other, hp_same, hp_new, upd_cells, Option.map_some])
  clear hW0
  have bS := f0.blk HB.out (fun q => q)
  have hsz : w.heap.size ≤ W0.heap.size := f0.size
  have y0 := bS.cell 0
  have y4 := bS.cell 4
  simp at y0 y4
  have yl := bS.lt
  have tl := bT.lt
  have HE := Lib.hid (World.ownsRow_lit (e := 3) (size := 1) W0 #[.int .i64 (c : Int)] 1 (Nat.le_refl _) (by unfold maxLen; omega) rfl)
  have HBB := Lib.hid (And.intro bS bT)
  clear bS bT
  go_wp2_with (first
    | (at_builtin; refine wpList_append_src rfl (.tmp 19) (.tmp 24) 30 rfl W0.heap.size 3 i0 (.int .i64 0) 1 8 Try.underlying30 hi hz0 hz1 hz2 rfl (by decide) (.slice (some ⟨W0.heap.size, 0, none⟩) 1 1) 1 [.int .i64 (c : Int)] rfl HE.out x0 n0 k0 (W.map natV) rfl (S0.out _ (by (repeat (first | (with_reducible exact Fr.refl _ _) | (with_reducible assumption) | (with_reducible exact Fr.of_nil (by assumption)) | (with_reducible refine Fr.drew ?_) | (with_reducible refine Fr.drewN ?_ _) | (with_reducible refine Fr.alloc ?_ _) | (with_reducible refine Fr.set ?_ _ _ (by first | (intros; omega) | (simp; done) | (simp; omega))) | (with_reducible refine Fr.via ?_ (by assumption)) | (with_reducible refine Fr.comp ?_ (by assumption)))))) (natV_one _) (by unfold maxLen; omega) (by omega) (by first | omega | (simp <;> omega)) ?_; intro v5 w5 hown5 hgrow5 hat5; have f5 : Fr Nil W0 w5 := Fr.grown (by (repeat (first | (with_reducible exact Fr.refl _ _) | (with_reducible assumption) | (with_reducible exact Fr.of_nil (by assumption)) | (with_reducible refine Fr.drew ?_) | (with_reducible refine Fr.drewN ?_ _) | (with_reducible refine Fr.alloc ?_ _) | (with_reducible refine Fr.set ?_ _ _ (by first | (intros; omega) | (simp; done) | (simp; omega))) | (with_reducible refine Fr.via ?_ (by assumption)) | (with_reducible refine Fr.comp ?_ (by assumption))))) hgrow5 (fun k q hk => by simp [Value.ownBlock] at q; omega); have HOWN5 := Lib.hid hown5; have hsz5 := f5.size; obtain ⟨b5, k5, rfl⟩ := owns_sh hown5; clear hown5 hgrow5 hat5; have tS := f5.blk HBB.out.1 (by simp [Nil]); have tT := f5.blk HBB.out.2 (by simp [Nil]); have z0 := tS.cell 0; have z1 := tS.free 0; have z2 := tS.lt; have t0 := tT.cell 0; have t1 := tT.cell 1; have t2 := tT.cell 2; have t3 := tT.free 0; have t4 := tT.free 1; have t5 := tT.free 2; have t6 := tT.lt; simp at z0 t0 t1 t2; have ne1 : sb ≠ w.heap.size := Nat.ne_of_lt lt; have ne2 : w.heap.size ≠ sb := Nat.ne_of_gt lt))
  refine bodyPost_ret (v := .agg #[.int .i64 0, .bool false, .int .i64 0]) (by simp [results, Try.results42, go_sem, t0, t1, t2, ne1, ne2]) rfl ⟨rfl, ?_, ?_⟩
  · have hN : RowN W0.heap.size w5 (.slice b5 (1 + n0) k5) (c :: W) := by
      unfold RowN
      rw [show (c :: W).length = 1 + n0 by have := HR.out.2.2.2.2; simp; omega]
      exact HOWN5.out
    refine ⟨HS.out.1, _, _, _, _, ?_, hN.toBS (sb := sb) (T := w.heap.size) (by (repeat (first | (with_reducible exact Fr.refl _ _) | (with_reducible assumption) | (with_reducible exact Fr.of_nil (by assumption)) | (with_reducible refine Fr.drew ?_) | (with_reducible refine Fr.drewN ?_ _) | (with_reducible refine Fr.alloc ?_ _) | (with_reducible refine Fr.set ?_ _ _ (by first | (intro _; exact rfl) | (intro _; exact .inl rfl) | (intro _; exact .inr rfl) | (intro q; exact absurd q (Nat.lt_irrefl _)) | (intro q; simp at q; omega))) | (with_reducible refine Fr.via ?_ (by assumption)) | (with_reducible refine Fr.comp ?_ (by assumption))))) (by omega) (by omega) (fun b q => by have := HX.out b q; omega), HR.out.2.1.frS (S := fun x => x = sb) (by (repeat (first | (with_reducible exact Fr.refl _ _) | (with_reducible assumption) | (with_reducible exact Fr.of_nil (by assumption)) | (with_reducible refine Fr.drew ?_) | (with_reducible refine Fr.drewN ?_ _) | (with_reducible refine Fr.alloc ?_ _) | (with_reducible refine Fr.set ?_ _ _ (by first | (intro _; exact rfl) | (intro _; exact .inl rfl) | (intro _; exact .inr rfl) | (intro q; exact absurd q (Nat.lt_irrefl _)) | (intro q; simp at q; omega))) | (with_reducible refine Fr.via ?_ (by assumption)) | (with_reducible refine Fr.comp ?_ (by assumption))))) HS.out.2, HR.out.2.2.1.frS (S := fun x => x = sb) (by (repeat (first | (with_reducible exact Fr.refl _ _) | (with_reducible assumption) | (with_reducible exact Fr.of_nil (by assumption)) | (with_reducible refine Fr.drew ?_) | (with_reducible refine Fr.drewN ?_ _) | (with_reducible refine Fr.alloc ?_ _) | (with_reducible refine Fr.set ?_ _ _ (by first | (intro _; exact rfl) | (intro _; exact .inl rfl) | (intro _; exact .inr rfl) | (intro q; exact absurd q (Nat.lt_irrefl _)) | (intro q; simp at q; omega))) | (with_reducible refine Fr.via ?_ (by assumption)) | (with_reducible refine Fr.comp ?_ (by assumption))))) HS.out.2, HR.out.2.2.2.1.frS (S := fun x => x = sb) (by (repeat (first | (with_reducible exact Fr.refl _ _) | (with_reducible assumption) | (with_reducible exact Fr.of_nil (by assumption)) | (with_reducible refine Fr.drew ?_) | (with_reducible refine Fr.drewN ?_ _) | (with_reducible refine Fr.alloc ?_ _) | (with_reducible refine Fr.set ?_ _ _ (by first | (intro _; exact rfl) | (intro _; exact .inl rfl) | (intro _; exact .inr rfl) | (intro q; exact absurd q (Nat.lt_irrefl _)) | (intro q; simp at q; omega))) | (with_reducible refine Fr.via ?_ (by assumption)) | (with_reducible refine Fr.comp ?_ (by assumption))))) HS.out.2⟩
    (unfold Blk; simp (disch := first | omega | (simp; done) | (simp; omega)) only [hp_drew, hp_drewN, hp_alloc, hp_other, hp_same, hp_new, upd_cells, Option.map_some, (tS).eq])
    simp
  · (repeat (first | (with_reducible exact Fr.refl _ _) | (with_reducible assumption) | (with_reducible exact Fr.of_nil (by assumption)) | (with_reducible refine Fr.drew ?_) | (with_reducible refine Fr.drewN ?_ _) | (with_reducible refine Fr.alloc ?_ _) | (with_reducible refine Fr.set ?_ _ _ (by first | (intro _; exact rfl) | (intro _; exact .inl rfl) | (intro _; exact .inr rfl) | (intro q; exact absurd q (Nat.lt_irrefl _)) | (intro q; simp at q; omega))) | (with_reducible refine Fr.via ?_ (by assumption)) | (with_reducible refine Fr.comp ?_ (by assumption))))
end Go.Proofs.Ytlpdlhmdhlcdlaa
