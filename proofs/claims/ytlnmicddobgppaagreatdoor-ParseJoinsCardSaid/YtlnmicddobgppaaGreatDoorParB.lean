/-
  Rows of trees that grow (layer 8): of expressions, of binds, of alternatives. No conditions.
  Atoms (layer 8), given what expr does one level deeper. No conditions.
  Rows of atoms as an expression (layer 8), given what expr does one level deeper. No conditions.
-/
import Derived.Test.YtlnmicddobgppaaGreatDoorParA
namespace Go.Proofs.YtlnmicddobgppaaGreatDoor
set_option linter.unusedSimpArgs false
set_option linter.unusedVariables false
open Go.RowKit

/-- A bind as its ten cells lie. -/
def BAt (X : Nat → Prop) (w : World) (c : List Value) (t : TB) : Prop := ∃ (pn : Value) (cs : List Value), c = .string ⟨t.name.toArray⟩ :: pn :: cs ∧ RowS X w pn t.params ∧ EAt X w cs t.body
/-- An alternative as its thirteen cells lie. -/
def AAt (X : Nat → Prop) (w : World) (c : List Value) (t : TA) : Prop := ∃ (pn : Value) (cs : List Value), c = .int .i64 (t.kind : Int) :: .string ⟨t.name.toArray⟩ :: .bool t.flt :: .int .u64 (t.bits : Int) :: pn :: cs ∧ RowS X w pn t.names ∧ EAt X w cs t.body
/-- What a row's elements must keep. -/
structure ElemLaw {α : Type} (R : (Nat → Prop) → World → List Value → α → Prop) (size : Nat) : Prop where
  fr : ∀ {X S : Nat → Prop} {w w' : World} {c : List Value} {a : α}, R X w c a → Fr S w w' → (∀ b, S b → X b) → R X w' c a
  mono : ∀ {X Y : Nat → Prop} {w : World} {c : List Value} {a : α}, R X w c a → (∀ b, b < w.heap.size → Y b → X b) → R Y w c a
  len : ∀ {X : Nat → Prop} {w : World} {c : List Value} {a : α}, R X w c a → c.length = size
theorem lawE : ElemLaw EAt 8 := ⟨fun h f hs => h.fr f hs, fun h hs => h.mono hs, fun h => h.len⟩
theorem lawB : ElemLaw BAt 10 :=
  ⟨fun ⟨pn, cs, e, h1, h2⟩ f hs => ⟨pn, cs, e, RowS.fr h1 f hs, h2.fr f hs⟩, fun ⟨pn, cs, e, h1, h2⟩ hs => ⟨pn, cs, e, RowC.mono h1 (by decide) hs, h2.mono hs⟩, fun ⟨pn, cs, e, h1, h2⟩ => by rw [e]; simp [h2.len]⟩
theorem lawA : ElemLaw AAt 13 :=
  ⟨fun ⟨pn, cs, e, h1, h2⟩ f hs => ⟨pn, cs, e, RowS.fr h1 f hs, h2.fr f hs⟩, fun ⟨pn, cs, e, h1, h2⟩ hs => ⟨pn, cs, e, RowC.mono h1 (by decide) hs, h2.mono hs⟩, fun ⟨pn, cs, e, h1, h2⟩ => by rw [e]; simp [h2.len]⟩
/-- A row of the call's own, each of its elements a tree. -/
def RowsAt {α : Type} (R : (Nat → Prop) → World → List Value → α → Prop) (size : Nat) (t : TypeId) (base : Nat) (w : World) (v : Value) (acc : List α) : Prop :=
  ∃ cl : List (List Value), cl.length = acc.length ∧ (∀ i (h : i < cl.length) (h' : i < acc.length), R (fun b => b < base ∨ v.ownBlock = some b) w cl[i] acc[i]) ∧ w.ownsRow base t size v acc.length cl.flatten
section
variable {α : Type} {R : (Nat → Prop) → World → List Value → α → Prop} {size : Nat} {t : TypeId} {base : Nat} {w w' : World} {v : Value} {acc : List α}
theorem RowsAt.nil : RowsAt R size t base w (.slice none 0 0) ([] : List α) := ⟨[], rfl, fun i h _ => absurd h (Nat.not_lt_zero i), World.ownsRow_nil _ _ _ _⟩
theorem RowsAt.own (h : RowsAt R size t base w v acc) : ∀ k, v.ownBlock = some k → base ≤ k ∧ k < w.heap.size := by
  obtain ⟨cl, _, _, h⟩ := h
  exact h.lt
theorem RowsAt.shape (h : RowsAt R size t base w v acc) : ∃ a cap, v = .slice a acc.length cap := by
  obtain ⟨cl, _, _, h⟩ := h
  exact owns_shape h
theorem RowsAt.fr {S : Nat → Prop} (law : ElemLaw R size) (h : RowsAt R size t base w v acc) (f : Fr S w w') (hs : ∀ b, S b → b < base) : RowsAt R size t base w' v acc := by
  have ho := h.own
  obtain ⟨cl, h1, h2, h3⟩ := h
  exact ⟨cl, h1, fun i a b => law.fr (h2 i a b) f (fun b q => .inl (hs b q)), owns_frS h3 f (fun k q e => by have := (ho k q).1; have := hs k e; omega)⟩
theorem RowsAt.push {v' : Value} {w3 : World} {c : List Value} {a : α} (law : ElemLaw R size) (h : RowsAt R size t base w v acc) (hn : R (fun b => b < base ∨ v.ownBlock = some b) w c a) {cl : List Value} (hcl : w.ownsRow base t size v acc.length cl)
    (ho : w3.ownsRow base t size v' (acc.length + 1) (cl ++ c)) (f : Fr (fun k => v.ownBlock = some k) w w3) (hk : ∀ k, v'.ownBlock = some k → v.ownBlock = some k ∨ w.heap.size ≤ k) : RowsAt R size t base w3 v' (acc ++ [a]) := by
  obtain ⟨cl', h1, h2, h3⟩ := h
  have e : cl = cl'.flatten := by
    rcases h3.2 with ⟨q1, q2⟩ | ⟨g, cap, cur, q1, _, q3, _, _, _, q4⟩
    · have a1 := hcl.1
      have a2 := h3.1
      rw [q2, Nat.zero_mul] at a1 a2
      rw [List.eq_nil_of_length_eq_zero a1, List.eq_nil_of_length_eq_zero a2]
    · rcases hcl.2 with ⟨r1, r2⟩ | ⟨g', cap', cur', r1, _, r3, _, _, _, r4⟩
      · rw [q1] at r1; cases r1
      · rw [q1] at r1
        injection r1 with r1 r1' r1''
        injection r1 with r1
        injection r1 with r1
        subst r1
        rw [q3] at r3
        injection r3 with r3
        injection r3 with r3
        rw [← q4, ← r4, r3]
  have key : ∀ (c : List Value) (a : α), R (fun b => b < base ∨ v.ownBlock = some b) w c a → R (fun b => b < base ∨ v'.ownBlock = some b) w3 c a := fun c a hr =>
    law.mono (law.fr (law.mono (Y := fun b => b < base ∨ v.ownBlock = some b ∨ v'.ownBlock = some b) hr (fun b hb q => by
      rcases q with q | q | q
      · exact .inl q
      · exact .inr q
      · rcases hk b q with q | q
        · exact .inr q
        · omega)) f (fun b q => .inr (.inl q))) (fun b _ q => q.imp id .inr)
  refine ⟨cl' ++ [c], by simp [h1], fun i hi hi' => ?_, ?_⟩
  · by_cases q : i < cl'.length
    · rw [List.getElem_append_left q, List.getElem_append_left (by omega)]
      exact key _ _ (h2 i q (by omega))
    · have e1 : i = cl'.length := by simp at hi; omega
      subst e1
      rw [List.getElem_append_right (Nat.le_refl _), List.getElem_append_right (by omega)]
      simp only [Nat.sub_self, List.getElem_cons_zero, h1]
      exact key _ _ hn
  · rw [List.flatten_append, ← e, List.length_append]
    simpa using ho
theorem RowsAt.cells (h : RowsAt R size t base w v acc) : ∃ cl, w.ownsRow base t size v acc.length cl := by
  obtain ⟨cl, _, _, h⟩ := h
  exact ⟨_, h⟩
theorem flat_at {cl : List (List Value)} (hl : ∀ c ∈ cl, c.length = size) : ∀ {i j : Nat} {u : Value} (hi : i < cl.length), cl[i][j]? = some u → cl.flatten[i * size + j]? = some u := by
  induction cl with
  | nil => intro i j u hi; simp at hi
  | cons c r ih =>
    intro i j u hi hj
    have hc := hl c (by simp)
    cases i with
    | zero =>
      simp at hj ⊢
      rw [List.getElem?_append_left]
      · exact hj
      · exact (List.getElem?_eq_some_iff.1 hj).1
    | succ i =>
      simp only [List.getElem_cons_succ] at hj
      rw [List.flatten_cons, List.getElem?_append_right (by rw [hc, Nat.add_mul]; omega), hc, show (i + 1) * size + j - size = i * size + j by rw [Nat.add_mul]; omega]
      exact ih (fun c h => hl c (by simp [h])) (by simpa using hi) hj
/-- The row as it is read. -/
theorem RowsAt.row (law : ElemLaw R size) (h : RowsAt R size t base w v acc) : ∃ cs : Nat → List Value, RowC (fun b => b < base) w v acc.length size cs ∧ ∀ i (hi : i < acc.length), R (fun b => b < base) w (cs i) acc[i] := by
  obtain ⟨cl, h1, h2, h3⟩ := h
  have hl : ∀ c ∈ cl, c.length = size := fun c hc => by
    obtain ⟨i, hi, rfl⟩ := List.getElem_of_mem hc
    exact law.len (h2 i hi (by omega))
  refine ⟨fun i => cl.getD i [], RowC.of_own h3 (fun b q => q) (fun i hi => ?_) (fun i hi j u hj => ?_), fun i hi => ?_⟩
  · have e : cl.getD i [] = cl[i] := by simp [List.getD, show i < cl.length by omega]
    rw [e]
    exact hl _ (List.getElem_mem _)
  · have e : cl.getD i [] = cl[i] := by simp [List.getD, show i < cl.length by omega]
    rw [e] at hj
    exact flat_at hl (by omega) hj
  · have e : cl.getD i [] = cl[i] := by simp [List.getD, show i < cl.length by omega]
    simp only [e]
    exact law.mono (h2 i (by omega) hi) (fun b _ q => .inl q)
end
end Go.Proofs.YtlnmicddobgppaaGreatDoor

namespace Go.Proofs.YtlnmicddobgppaaGreatDoor
set_option linter.unusedSimpArgs false
set_option linter.unusedVariables false
open Go.RowKit

theorem run_tok2 (a b c d e : Value) (w : World) : (Instr.field 41 (.agg #[a, b, c, d, e]) 2).run Tryz.prog w = .ok (.agg #[c, d]) w := by kernel_rfl
theorem EAt.leaf {X : Nat → Prop} {w : World} (kind : Nat) (name : List UInt8) (flt : Bool) (bits : Nat) : EAt X w [.int .i64 (kind : Int), .string ⟨name.toArray⟩, .bool flt, .int .u64 (bits : Int), .slice none 0 0, .slice none 0 0, .slice none 0 0, .slice none 0 0] (.mk kind name flt bits [] [] [] []) :=
  .mk (params := []) (kids := []) (binds := []) (alts := []) (fun _ => []) (fun _ => []) (fun _ => []) (fun _ => []) (fun _ => []) (fun _ => .bool false) (fun _ => .bool false) .nil .nil (fun i h => absurd h (Nat.not_lt_zero i)) .nil (fun i h => absurd h (Nat.not_lt_zero i)) (fun i h => absurd h (Nat.not_lt_zero i)) (fun i h => absurd h (Nat.not_lt_zero i)) .nil (fun i h => absurd h (Nat.not_lt_zero i)) (fun i h => absurd h (Nat.not_lt_zero i)) (fun i h => absurd h (Nat.not_lt_zero i))
/-- A row of expressions as it is read. -/
def EsAt (X : Nat → Prop) (w : World) (v : Value) (l : List TE) : Prop := ∃ cs : Nat → List Value, RowC X w v l.length 8 cs ∧ ∀ i (h : i < l.length), EAt X w (cs i) l[i]
theorem push_end {α : Type} {R : (Nat → Prop) → World → List Value → α → Prop} {size : Nat} {t : TypeId} {w wr wi Wc w3 : World} {pb Te : Nat} {vT v v' : Value} {L : List TokV} {s st' : PS} {acc : List α} {c cl : List Value} {a : α} (law : ElemLaw R size)
    (h0 : PAt w pb vT L s) (hw : Fr (fun b => b = pb) w wr) (hR : RowsAt R size t w.heap.size wr v acc) (FW : Fr (fun b => b = pb) wr Wc) (hi : PAt wi pb vT L st') (gi : Fr (fun b => b = Te) wi Wc) (hTe : Te ≠ pb)
    (he : R (fun b => b < w.heap.size ∨ v.ownBlock = some b) Wc c a) (hcl : Wc.ownsRow w.heap.size t size v acc.length cl) (ho : w3.ownsRow w.heap.size t size v' (acc.length + 1) (cl ++ c)) (f3 : Fr (fun k => v.ownBlock = some k) Wc w3) (hk : ∀ k, v'.ownBlock = some k → v.ownBlock = some k ∨ Wc.heap.size ≤ k) :
    RowsAt R size t w.heap.size w3 v' (acc ++ [a]) ∧ PAt w3 pb vT L st' ∧ Fr (fun b => b = pb) w w3 := by
  have hpb := h0.blk.lt
  have hR2 := hR.fr law FW (fun b q => by omega)
  have hown : ∀ k, v.ownBlock = some k → w.heap.size ≤ k := fun k q => (hR.own k q).1
  have FF : Fr (fun b => b = pb) w w3 := (hw.comp FW).trans f3 (fun k hk2 q => by have := hown k q; omega)
  refine ⟨hR2.push law he hcl ho f3 hk, h0.keep FF hi (S := fun b => b = Te ∨ v.ownBlock = some b) ((gi.mono (fun _ _ q => .inl q)).trans (f3.mono (fun _ _ q => Or.inr q)) (fun _ _ q => q)) (fun q => ?_), FF⟩
  rcases q with q | q
  · exact hTe q.symm
  · have := hown pb q; omega
section
variable {w : World} {pb : Nat} {vT : Value} {L : List TokV} {s : PS} {deep : Nat} {ex : PS → TE × PS}
set_option maxRecDepth 100000 in
set_option maxHeartbeats 4000000 in
theorem patoms_any (h : PAt w pb vT L s) (hd : deep ≤ 1000) (hgo : ∀ s, Goes L s (ex s).2) (hex : Reads pb vT L 61 ((deep : Int) + 1) ex) :
    Calls Tryz.prog 118 #[.pointer (some ⟨pb, 0, none⟩), .int .i64 (deep : Int)] w fun r w' => ∃ v, r = .returned v ∧ RowsAt EAt 8 49 w.heap.size w' v (atomsF L ex (fuelP L) [] s).1 ∧ PAt w' pb vT L (atomsF L ex (fuelP L) [] s).2 ∧ Fr (fun b => b = pb) w w' := by
  obtain ⟨i0, hi, hz0, hz1, hz2⟩ := info_parts infoE
  obtain ⟨R, hR⟩ : ∃ R, atomsF L ex (fuelP L) [] s = R := ⟨_, rfl⟩
  rw [hR]
  obtain ⟨F, hF⟩ : ∃ F, fuelP L = F := ⟨_, rfl⟩
  have hm := measP_le L s
  rw [hF] at hR hm
  have hF2 : F ≤ 1000002 := by have := h.sz; unfold fuelP at hF; omega
  have hpl := h.blk.lt
  have hf1 := run_tok1
  have hf2 := run_tok2
  have j1 : IntKind.i64.wrap ((deep : Int) + 1) = (deep : Int) + 1 := by rw [IntKind.wrap_i64]; omega
  have HP := Lib.hid (And.intro h (And.intro hR (And.intro hm (And.intro hex hgo))))
  clear h hR hm hF hex hgo
  go_enter Tryz.func118, Tryz.ntmps118
  go_wp2_with fail
  go_loopg [5] F (fun g vo wr => ∃ (acc : List TE) (st : PS) (v : Value), v = vo ∧ acc.length + g = F ∧ Hid (atomsF L ex g acc st = R ∧ measP L st + 1 ≤ g ∧ RowsAt EAt 8 49 w.heap.size wr v acc ∧ PAt wr pb vT L st) ∧ Fr (fun b => b = pb) w wr)
  case atStart => exact ⟨[], s, _, rfl, by simp, Lib.hid ⟨HP.out.2.1, HP.out.2.2.1, .nil, HP.out.1⟩, Fr.refl _ _⟩
  case round =>
    obtain ⟨acc, st, v, rfl, hg, HS, hw⟩ := hrel
    obtain ⟨p0, p1, p2, p3, pf, pl⟩ := HS.out.2.2.2.facts
    obtain ⟨f, hf⟩ : ∃ f, gk = f + 1 := ⟨gk - 1, by have := HS.out.2.1; omega⟩
    by_cases he : st.e = 0
    · have i2 : (st.e : Int) = 0 := by omega
      rw [i2] at p2
      obtain ⟨kd, hkd⟩ : ∃ kd, kindP L st = kd := ⟨_, rfl⟩
      have HKD := Lib.hid (fun w' (f : Fr Nil wr w') => pkind_any (HS.out.2.2.2.fr f))
      rw [hkd] at HKD
      have hst := HS.out.1
      rw [hf] at hst
      unfold atomsF at hst
      rw [if_neg (by simpa using he), hkd] at hst
      have HST := Lib.hid (And.intro hst (And.intro he hkd))
      obtain ⟨cl, hcl⟩ := HS.out.2.2.1.cells
      have hown := HS.out.2.2.1.own
      have HCL := Lib.hid (And.intro hcl hown)
      obtain ⟨Te, hTe⟩ : ∃ Te, wr.heap.size = Te := ⟨_, rfl⟩
      have hne : Te ≠ pb := by omega
      have hwsz := hw.size
      clear hst hkd he i2 hcl hown p3
      go_wp2_with fail
      refine (HKD.out _ (by (repeat (first | (with_reducible exact Fr.refl _ _) | (with_reducible assumption) | (with_reducible exact Fr.of_nil (by assumption)) | (with_reducible refine Fr.drew ?_) | (with_reducible refine Fr.drewN ?_ _) | (with_reducible refine Fr.alloc ?_ _) | (with_reducible refine Fr.set ?_ _ _ (by first | (intros; omega) | (simp; done) | (simp; omega))) | (with_reducible refine Fr.via ?_ (by assumption)) | (with_reducible refine Fr.comp ?_ (by assumption)))))).mono ?_
      rintro e w1 ⟨rfl, f1⟩
      have bE1 : Blk w1 Te #[.int .i64 0, .string ⟨#[]⟩, .bool false, .int .u64 0, .slice none 0 0, .slice none 0 0, .slice none 0 0, .slice none 0 0] 49 := by
        have h := f1.new
        rw [hTe] at h
        exact h
      have F1 : Fr (fun b => b = pb) wr w1 := Fr.trans (S := fun b => b = pb) (S' := Nil) (by (repeat (first | (with_reducible exact Fr.refl _ _) | (with_reducible assumption) | (with_reducible exact Fr.of_nil (by assumption)) | (with_reducible refine Fr.drew ?_) | (with_reducible refine Fr.drewN ?_ _) | (with_reducible refine Fr.alloc ?_ _) | (with_reducible refine Fr.set ?_ _ _ (by first | (intro _; exact rfl) | (intro _; exact .inl rfl) | (intro _; exact .inr rfl) | (intro q; exact absurd q (Nat.lt_irrefl _)) | (intro q; simp at q; omega))) | (with_reducible refine Fr.via ?_ (by assumption)) | (with_reducible refine Fr.comp ?_ (by assumption))))) f1 (fun _ _ q => q.elim)
      have h1 := HP.out.1.keep (hw.comp F1) HS.out.2.2.2 (S := Nil) (Fr.trans (S := Nil) (by (repeat (first | (with_reducible exact Fr.refl _ _) | (with_reducible assumption) | (with_reducible exact Fr.of_nil (by assumption)) | (with_reducible refine Fr.drew ?_) | (with_reducible refine Fr.drewN ?_ _) | (with_reducible refine Fr.alloc ?_ _) | (with_reducible refine Fr.set ?_ _ _ (by first | (intros; omega) | (simp; done) | (simp; omega))) | (with_reducible refine Fr.via ?_ (by assumption)) | (with_reducible refine Fr.comp ?_ (by assumption))))) f1 (fun _ _ q => q)) (fun q => q)
      have H1 := Lib.hid (And.intro h1 bE1)
      clear HKD bE1 h1 f1 p0 p1 p2 pf pl
      by_cases hk1 : kd = 1
      · subst hk1
        have hst := HST.out.1
        rw [if_pos rfl] at hst
        have hT := token_meas (L := L) (k := 1) (by decide) HST.out.2.1
        obtain ⟨tk, st', hts⟩ : ∃ tk st', tokenF L 1 st = (tk, st') := ⟨_, _, rfl⟩
        rw [hts] at hst hT
        have HTS := Lib.hid hts
        have HST2 := Lib.hid (And.intro hst (show measP L st' + 1 ≤ f from by have := HS.out.2.1; simp only at hT; omega))
        clear hst hT hts
        go_wp2_with fail
        refine (ptoken_any 1 (by decide) H1.out.1).mono ?_
        rw [HTS.out]
        rintro e w2 ⟨rfl, h2, f2⟩
        unfold tokV
        have F2 : Fr (fun b => b = pb) wr w2 := F1.comp f2
        have bE2 := f2.blk H1.out.2 hne
        have hs2 := F2.size
        have Ec := bE2.cell
        have Ef := bE2.free
        have El := bE2.lt
        clear f2
        go_upto_region 18 with fail
        obtain ⟨W, hW⟩ : ∃ W, ((((((((w2).setCell ⟨Te, 0, none⟩ (.int .i64 1)).setCell ⟨Te, 1, none⟩ (.string ⟨tk.text.toArray⟩)).setCell ⟨Te, 2, none⟩ (.bool false)).setCell ⟨Te, 3, none⟩ (.int .u64 0)).setCell ⟨Te, 4, none⟩ (.slice none 0 0)).setCell ⟨Te, 5, none⟩ (.slice none 0 0)).setCell ⟨Te, 6, none⟩ (.slice none 0 0)).setCell ⟨Te, 7, none⟩ (.slice none 0 0) = W := ⟨_, rfl⟩
        rw [hW]
        have FW : Fr (fun b => b = pb) wr W := by rw [← hW]; (repeat (first | (with_reducible exact Fr.refl _ _) | (with_reducible assumption) | (with_reducible exact Fr.of_nil (by assumption)) | (with_reducible refine Fr.drew ?_) | (with_reducible refine Fr.drewN ?_ _) | (with_reducible refine Fr.alloc ?_ _) | (with_reducible refine Fr.set ?_ _ _ (by first | (intro _; exact rfl) | (intro _; exact .inl rfl) | (intro _; exact .inr rfl) | (intro q; exact absurd q (Nat.lt_irrefl _)) | (intro q; simp at q; omega))) | (with_reducible refine Fr.via ?_ (by assumption)) | (with_reducible refine Fr.comp ?_ (by assumption))))
        have GW : Fr (fun b => b = Te) w2 W := by rw [← hW]; (repeat (first | (with_reducible exact Fr.refl _ _) | (with_reducible assumption) | (with_reducible exact Fr.of_nil (by assumption)) | (with_reducible refine Fr.drew ?_) | (with_reducible refine Fr.drewN ?_ _) | (with_reducible refine Fr.alloc ?_ _) | (with_reducible refine Fr.set ?_ _ _ (by first | (intro _; exact rfl) | (intro _; exact .inl rfl) | (intro _; exact .inr rfl) | (intro q; exact absurd q (Nat.lt_irrefl _)) | (intro q; simp at q; omega))) | (with_reducible refine Fr.via ?_ (by assumption)) | (with_reducible refine Fr.comp ?_ (by assumption))))
        have bW : Blk W Te #[.int .i64 1, .string ⟨tk.text.toArray⟩, .bool false, .int .u64 0, .slice none 0 0, .slice none 0 0, .slice none 0 0, .slice none 0 0] 49 := by
          rw [← hW]
          (unfold Blk; simp (disch := first | omega | (simp; done) | (simp; omega)) only [hp_drew, hp_drewN, hp_alloc, hp_other, hp_same, hp_new, upd_cells, Option.map_some, (bE2).eq]) <;> simp
        clear hW
        have HW := Lib.hid (And.intro FW GW)
        have hWs := FW.size
        clear Ec Ef El
        have Ec := bW.cell
        have Ef := bW.free
        have El := bW.lt
        clear bW FW GW
        go_wp2_with (first
          | (at_builtin; refine wpList_push (w := W) rfl (.tmp 56) (.tmp 58) 46 rfl w.heap.size 49 i0 (.agg #[.int .i64 0, .string ⟨#[]⟩, .bool false, .int .u64 0, .slice none 0 0, .slice none 0 0, .slice none 0 0, .slice none 0 0]) 8 136 Tryz.underlying46 hi hz0 hz1 hz2 rfl (by decide) v acc.length cl rfl (owns_frS HCL.out.1 HW.out.1 (fun k q e => by have := (HCL.out.2 k q).1; omega)) [.int .i64 1, .string ⟨tk.text.toArray⟩, .bool false, .int .u64 0, .slice none 0 0, .slice none 0 0, .slice none 0 0, .slice none 0 0] rfl rfl (by simp [Value.oneCell']) (by unfold maxLen; omega) (by omega) (by omega) ?_; intro v' w9 hown9 f9 hk9; have HO := Lib.hid (And.intro hown9 (And.intro f9 hk9)); clear hown9 f9 hk9)
          | fail)
        have E := push_end (Te := Te) (a := (.mk 1 tk.text false 0 [] [] [] [])) lawE HP.out.1 hw HS.out.2.2.1 HW.out.1 h2 HW.out.2 hne (EAt.leaf 1 tk.text false 0) (owns_frS HCL.out.1 HW.out.1 (fun k q e => by have := (HCL.out.2 k q).1; omega)) HO.out.1 HO.out.2.1 HO.out.2.2
        go_roundg f
        case rel => exact ⟨acc ++ [(.mk 1 tk.text false 0 [] [] [] [])], st', v', rfl, by simp; omega, Lib.hid ⟨HST2.out.1, HST2.out.2, E.1, E.2.1⟩, E.2.2⟩
        case measure => omega
      by_cases hk2 : kd = 2
      · subst hk2
        have hst := HST.out.1
        rw [if_neg (by decide), if_pos rfl] at hst
        have hT := token_meas (L := L) (k := 2) (by decide) HST.out.2.1
        obtain ⟨tk, st', hts⟩ : ∃ tk st', tokenF L 2 st = (tk, st') := ⟨_, _, rfl⟩
        rw [hts] at hst hT
        have HTS := Lib.hid hts
        have HST2 := Lib.hid (And.intro hst (show measP L st' + 1 ≤ f from by have := HS.out.2.1; simp only at hT; omega))
        clear hst hT hts
        go_wp2_with fail
        refine (ptoken_any 2 (by decide) H1.out.1).mono ?_
        rw [HTS.out]
        rintro e w2 ⟨rfl, h2, f2⟩
        unfold tokV
        have F2 : Fr (fun b => b = pb) wr w2 := F1.comp f2
        have bE2 := f2.blk H1.out.2 hne
        have hs2 := F2.size
        have Ec := bE2.cell
        have Ef := bE2.free
        have El := bE2.lt
        clear f2
        go_upto_region 18 with fail
        obtain ⟨W, hW⟩ : ∃ W, ((((((((w2).setCell ⟨Te, 0, none⟩ (.int .i64 2)).setCell ⟨Te, 1, none⟩ (.string ⟨tk.text.toArray⟩)).setCell ⟨Te, 2, none⟩ (.bool false)).setCell ⟨Te, 3, none⟩ (.int .u64 0)).setCell ⟨Te, 4, none⟩ (.slice none 0 0)).setCell ⟨Te, 5, none⟩ (.slice none 0 0)).setCell ⟨Te, 6, none⟩ (.slice none 0 0)).setCell ⟨Te, 7, none⟩ (.slice none 0 0) = W := ⟨_, rfl⟩
        rw [hW]
        have FW : Fr (fun b => b = pb) wr W := by rw [← hW]; (repeat (first | (with_reducible exact Fr.refl _ _) | (with_reducible assumption) | (with_reducible exact Fr.of_nil (by assumption)) | (with_reducible refine Fr.drew ?_) | (with_reducible refine Fr.drewN ?_ _) | (with_reducible refine Fr.alloc ?_ _) | (with_reducible refine Fr.set ?_ _ _ (by first | (intro _; exact rfl) | (intro _; exact .inl rfl) | (intro _; exact .inr rfl) | (intro q; exact absurd q (Nat.lt_irrefl _)) | (intro q; simp at q; omega))) | (with_reducible refine Fr.via ?_ (by assumption)) | (with_reducible refine Fr.comp ?_ (by assumption))))
        have GW : Fr (fun b => b = Te) w2 W := by rw [← hW]; (repeat (first | (with_reducible exact Fr.refl _ _) | (with_reducible assumption) | (with_reducible exact Fr.of_nil (by assumption)) | (with_reducible refine Fr.drew ?_) | (with_reducible refine Fr.drewN ?_ _) | (with_reducible refine Fr.alloc ?_ _) | (with_reducible refine Fr.set ?_ _ _ (by first | (intro _; exact rfl) | (intro _; exact .inl rfl) | (intro _; exact .inr rfl) | (intro q; exact absurd q (Nat.lt_irrefl _)) | (intro q; simp at q; omega))) | (with_reducible refine Fr.via ?_ (by assumption)) | (with_reducible refine Fr.comp ?_ (by assumption))))
        have bW : Blk W Te #[.int .i64 2, .string ⟨tk.text.toArray⟩, .bool false, .int .u64 0, .slice none 0 0, .slice none 0 0, .slice none 0 0, .slice none 0 0] 49 := by
          rw [← hW]
          (unfold Blk; simp (disch := first | omega | (simp; done) | (simp; omega)) only [hp_drew, hp_drewN, hp_alloc, hp_other, hp_same, hp_new, upd_cells, Option.map_some, (bE2).eq]) <;> simp
        clear hW
        have HW := Lib.hid (And.intro FW GW)
        have hWs := FW.size
        clear Ec Ef El
        have Ec := bW.cell
        have Ef := bW.free
        have El := bW.lt
        clear bW FW GW
        go_wp2_with (first
          | (at_builtin; refine wpList_push (w := W) rfl (.tmp 56) (.tmp 58) 46 rfl w.heap.size 49 i0 (.agg #[.int .i64 0, .string ⟨#[]⟩, .bool false, .int .u64 0, .slice none 0 0, .slice none 0 0, .slice none 0 0, .slice none 0 0]) 8 136 Tryz.underlying46 hi hz0 hz1 hz2 rfl (by decide) v acc.length cl rfl (owns_frS HCL.out.1 HW.out.1 (fun k q e => by have := (HCL.out.2 k q).1; omega)) [.int .i64 2, .string ⟨tk.text.toArray⟩, .bool false, .int .u64 0, .slice none 0 0, .slice none 0 0, .slice none 0 0, .slice none 0 0] rfl rfl (by simp [Value.oneCell']) (by unfold maxLen; omega) (by omega) (by omega) ?_; intro v' w9 hown9 f9 hk9; have HO := Lib.hid (And.intro hown9 (And.intro f9 hk9)); clear hown9 f9 hk9)
          | fail)
        have E := push_end (Te := Te) (a := (.mk 2 tk.text false 0 [] [] [] [])) lawE HP.out.1 hw HS.out.2.2.1 HW.out.1 h2 HW.out.2 hne (EAt.leaf 2 tk.text false 0) (owns_frS HCL.out.1 HW.out.1 (fun k q e => by have := (HCL.out.2 k q).1; omega)) HO.out.1 HO.out.2.1 HO.out.2.2
        go_roundg f
        case rel => exact ⟨acc ++ [(.mk 2 tk.text false 0 [] [] [] [])], st', v', rfl, by simp; omega, Lib.hid ⟨HST2.out.1, HST2.out.2, E.1, E.2.1⟩, E.2.2⟩
        case measure => omega
      by_cases hk7 : kd = 7
      · subst hk7
        have hst := HST.out.1
        rw [if_neg (by decide), if_neg (by decide), if_pos rfl] at hst
        have hT := token_meas (L := L) (k := 7) (by decide) HST.out.2.1
        obtain ⟨tk, st', hts⟩ : ∃ tk st', tokenF L 7 st = (tk, st') := ⟨_, _, rfl⟩
        rw [hts] at hst hT
        have HTS := Lib.hid hts
        have HST2 := Lib.hid (And.intro hst (show measP L st' + 1 ≤ f from by have := HS.out.2.1; simp only at hT; omega))
        clear hst hT hts
        go_wp2_with fail
        refine (ptoken_any 7 (by decide) H1.out.1).mono ?_
        rw [HTS.out]
        rintro e w2 ⟨rfl, h2, f2⟩
        unfold tokV
        have F2 : Fr (fun b => b = pb) wr w2 := F1.comp f2
        have bE2 := f2.blk H1.out.2 hne
        have hs2 := F2.size
        have Ec := bE2.cell
        have Ef := bE2.free
        have El := bE2.lt
        clear f2
        go_upto_region 18 with fail
        obtain ⟨W, hW⟩ : ∃ W, ((((((((w2).setCell ⟨Te, 0, none⟩ (.int .i64 5)).setCell ⟨Te, 1, none⟩ (.string ⟨tk.text.toArray⟩)).setCell ⟨Te, 2, none⟩ (.bool false)).setCell ⟨Te, 3, none⟩ (.int .u64 0)).setCell ⟨Te, 4, none⟩ (.slice none 0 0)).setCell ⟨Te, 5, none⟩ (.slice none 0 0)).setCell ⟨Te, 6, none⟩ (.slice none 0 0)).setCell ⟨Te, 7, none⟩ (.slice none 0 0) = W := ⟨_, rfl⟩
        rw [hW]
        have FW : Fr (fun b => b = pb) wr W := by rw [← hW]; (repeat (first | (with_reducible exact Fr.refl _ _) | (with_reducible assumption) | (with_reducible exact Fr.of_nil (by assumption)) | (with_reducible refine Fr.drew ?_) | (with_reducible refine Fr.drewN ?_ _) | (with_reducible refine Fr.alloc ?_ _) | (with_reducible refine Fr.set ?_ _ _ (by first | (intro _; exact rfl) | (intro _; exact .inl rfl) | (intro _; exact .inr rfl) | (intro q; exact absurd q (Nat.lt_irrefl _)) | (intro q; simp at q; omega))) | (with_reducible refine Fr.via ?_ (by assumption)) | (with_reducible refine Fr.comp ?_ (by assumption))))
        have GW : Fr (fun b => b = Te) w2 W := by rw [← hW]; (repeat (first | (with_reducible exact Fr.refl _ _) | (with_reducible assumption) | (with_reducible exact Fr.of_nil (by assumption)) | (with_reducible refine Fr.drew ?_) | (with_reducible refine Fr.drewN ?_ _) | (with_reducible refine Fr.alloc ?_ _) | (with_reducible refine Fr.set ?_ _ _ (by first | (intro _; exact rfl) | (intro _; exact .inl rfl) | (intro _; exact .inr rfl) | (intro q; exact absurd q (Nat.lt_irrefl _)) | (intro q; simp at q; omega))) | (with_reducible refine Fr.via ?_ (by assumption)) | (with_reducible refine Fr.comp ?_ (by assumption))))
        have bW : Blk W Te #[.int .i64 5, .string ⟨tk.text.toArray⟩, .bool false, .int .u64 0, .slice none 0 0, .slice none 0 0, .slice none 0 0, .slice none 0 0] 49 := by
          rw [← hW]
          (unfold Blk; simp (disch := first | omega | (simp; done) | (simp; omega)) only [hp_drew, hp_drewN, hp_alloc, hp_other, hp_same, hp_new, upd_cells, Option.map_some, (bE2).eq]) <;> simp
        clear hW
        have HW := Lib.hid (And.intro FW GW)
        have hWs := FW.size
        clear Ec Ef El
        have Ec := bW.cell
        have Ef := bW.free
        have El := bW.lt
        clear bW FW GW
        go_wp2_with (first
          | (at_builtin; refine wpList_push (w := W) rfl (.tmp 56) (.tmp 58) 46 rfl w.heap.size 49 i0 (.agg #[.int .i64 0, .string ⟨#[]⟩, .bool false, .int .u64 0, .slice none 0 0, .slice none 0 0, .slice none 0 0, .slice none 0 0]) 8 136 Tryz.underlying46 hi hz0 hz1 hz2 rfl (by decide) v acc.length cl rfl (owns_frS HCL.out.1 HW.out.1 (fun k q e => by have := (HCL.out.2 k q).1; omega)) [.int .i64 5, .string ⟨tk.text.toArray⟩, .bool false, .int .u64 0, .slice none 0 0, .slice none 0 0, .slice none 0 0, .slice none 0 0] rfl rfl (by simp [Value.oneCell']) (by unfold maxLen; omega) (by omega) (by omega) ?_; intro v' w9 hown9 f9 hk9; have HO := Lib.hid (And.intro hown9 (And.intro f9 hk9)); clear hown9 f9 hk9)
          | fail)
        have E := push_end (Te := Te) (a := (.mk 5 tk.text false 0 [] [] [] [])) lawE HP.out.1 hw HS.out.2.2.1 HW.out.1 h2 HW.out.2 hne (EAt.leaf 5 tk.text false 0) (owns_frS HCL.out.1 HW.out.1 (fun k q e => by have := (HCL.out.2 k q).1; omega)) HO.out.1 HO.out.2.1 HO.out.2.2
        go_roundg f
        case rel => exact ⟨acc ++ [(.mk 5 tk.text false 0 [] [] [] [])], st', v', rfl, by simp; omega, Lib.hid ⟨HST2.out.1, HST2.out.2, E.1, E.2.1⟩, E.2.2⟩
        case measure => omega
      by_cases hk3 : kd = 3
      · subst hk3
        have hst := HST.out.1
        rw [if_neg (by decide), if_neg (by decide), if_neg (by decide), if_pos rfl] at hst
        have hT := token_meas (L := L) (k := 3) (by decide) HST.out.2.1
        obtain ⟨tk, st', hts⟩ : ∃ tk st', tokenF L 3 st = (tk, st') := ⟨_, _, rfl⟩
        rw [hts] at hst hT
        have HTS := Lib.hid hts
        have HST2 := Lib.hid (And.intro hst (show measP L st' + 1 ≤ f from by have := HS.out.2.1; simp only at hT; omega))
        clear hst hT hts
        go_wp2_with fail
        refine (ptoken_any 3 (by decide) H1.out.1).mono ?_
        rw [HTS.out]
        rintro e w2 ⟨rfl, h2, f2⟩
        unfold tokV
        have F2 : Fr (fun b => b = pb) wr w2 := F1.comp f2
        have bE2 := f2.blk H1.out.2 hne
        have hs2 := F2.size
        have Ec := bE2.cell
        have Ef := bE2.free
        have El := bE2.lt
        clear f2
        go_upto_region 18 with fail
        obtain ⟨W, hW⟩ : ∃ W, ((((((((w2).setCell ⟨Te, 0, none⟩ (.int .i64 3)).setCell ⟨Te, 1, none⟩ (.string ⟨#[]⟩)).setCell ⟨Te, 2, none⟩ (.bool tk.flt)).setCell ⟨Te, 3, none⟩ (.int .u64 (tk.bits : Int))).setCell ⟨Te, 4, none⟩ (.slice none 0 0)).setCell ⟨Te, 5, none⟩ (.slice none 0 0)).setCell ⟨Te, 6, none⟩ (.slice none 0 0)).setCell ⟨Te, 7, none⟩ (.slice none 0 0) = W := ⟨_, rfl⟩
        rw [hW]
        have FW : Fr (fun b => b = pb) wr W := by rw [← hW]; (repeat (first | (with_reducible exact Fr.refl _ _) | (with_reducible assumption) | (with_reducible exact Fr.of_nil (by assumption)) | (with_reducible refine Fr.drew ?_) | (with_reducible refine Fr.drewN ?_ _) | (with_reducible refine Fr.alloc ?_ _) | (with_reducible refine Fr.set ?_ _ _ (by first | (intro _; exact rfl) | (intro _; exact .inl rfl) | (intro _; exact .inr rfl) | (intro q; exact absurd q (Nat.lt_irrefl _)) | (intro q; simp at q; omega))) | (with_reducible refine Fr.via ?_ (by assumption)) | (with_reducible refine Fr.comp ?_ (by assumption))))
        have GW : Fr (fun b => b = Te) w2 W := by rw [← hW]; (repeat (first | (with_reducible exact Fr.refl _ _) | (with_reducible assumption) | (with_reducible exact Fr.of_nil (by assumption)) | (with_reducible refine Fr.drew ?_) | (with_reducible refine Fr.drewN ?_ _) | (with_reducible refine Fr.alloc ?_ _) | (with_reducible refine Fr.set ?_ _ _ (by first | (intro _; exact rfl) | (intro _; exact .inl rfl) | (intro _; exact .inr rfl) | (intro q; exact absurd q (Nat.lt_irrefl _)) | (intro q; simp at q; omega))) | (with_reducible refine Fr.via ?_ (by assumption)) | (with_reducible refine Fr.comp ?_ (by assumption))))
        have bW : Blk W Te #[.int .i64 3, .string ⟨#[]⟩, .bool tk.flt, .int .u64 (tk.bits : Int), .slice none 0 0, .slice none 0 0, .slice none 0 0, .slice none 0 0] 49 := by
          rw [← hW]
          (unfold Blk; simp (disch := first | omega | (simp; done) | (simp; omega)) only [hp_drew, hp_drewN, hp_alloc, hp_other, hp_same, hp_new, upd_cells, Option.map_some, (bE2).eq]) <;> simp
        clear hW
        have HW := Lib.hid (And.intro FW GW)
        have hWs := FW.size
        clear Ec Ef El
        have Ec := bW.cell
        have Ef := bW.free
        have El := bW.lt
        clear bW FW GW
        go_wp2_with (first
          | (at_builtin; refine wpList_push (w := W) rfl (.tmp 56) (.tmp 58) 46 rfl w.heap.size 49 i0 (.agg #[.int .i64 0, .string ⟨#[]⟩, .bool false, .int .u64 0, .slice none 0 0, .slice none 0 0, .slice none 0 0, .slice none 0 0]) 8 136 Tryz.underlying46 hi hz0 hz1 hz2 rfl (by decide) v acc.length cl rfl (owns_frS HCL.out.1 HW.out.1 (fun k q e => by have := (HCL.out.2 k q).1; omega)) [.int .i64 3, .string ⟨#[]⟩, .bool tk.flt, .int .u64 (tk.bits : Int), .slice none 0 0, .slice none 0 0, .slice none 0 0, .slice none 0 0] rfl rfl (by simp [Value.oneCell']) (by unfold maxLen; omega) (by omega) (by omega) ?_; intro v' w9 hown9 f9 hk9; have HO := Lib.hid (And.intro hown9 (And.intro f9 hk9)); clear hown9 f9 hk9)
          | fail)
        have E := push_end (Te := Te) (a := (.mk 3 [] tk.flt tk.bits [] [] [] [])) lawE HP.out.1 hw HS.out.2.2.1 HW.out.1 h2 HW.out.2 hne (EAt.leaf 3 [] tk.flt tk.bits) (owns_frS HCL.out.1 HW.out.1 (fun k q e => by have := (HCL.out.2 k q).1; omega)) HO.out.1 HO.out.2.1 HO.out.2.2
        go_roundg f
        case rel => exact ⟨acc ++ [(.mk 3 [] tk.flt tk.bits [] [] [] [])], st', v', rfl, by simp; omega, Lib.hid ⟨HST2.out.1, HST2.out.2, E.1, E.2.1⟩, E.2.2⟩
        case measure => omega
      have hst := HST.out.1
      rw [if_neg hk1, if_neg hk2, if_neg hk7, if_neg hk3] at hst
      have HX := Lib.hid hst
      have d1 : (kd == 1) = false := by simpa using hk1
      have d2 : (kd == 2) = false := by simpa using hk2
      have d3 : (kd == 7) = false := by simpa using hk7
      have d4 : (kd == 3) = false := by simpa using hk3
      have g1 := decide_eq_false hk1
      have g2 := decide_eq_false hk2
      have g3 := decide_eq_false hk7
      have g4 := decide_eq_false hk3
      obtain ⟨sx, hsx⟩ : ∃ sx, seesF L [40] st = sx := ⟨_, rfl⟩
      have HSX := Lib.hid hsx
      clear hst hsx hk1 hk2 hk7 hk3
      go_wp2_with fail
      refine (psees_any [40] H1.out.1).mono ?_
      rw [HSX.out]
      rintro e w2 ⟨rfl, f2⟩
      cases sx with
      | false =>
        have hx := HX.out
        rw [if_pos HSX.out] at hx
        have HX := Lib.hid hx
        have H2 := Lib.hid (And.intro (HS.out.2.2.1.fr lawE (F1.comp (Fr.of_nil f2)) (fun b q => by omega)) (And.intro (H1.out.1.fr f2) (hw.comp (F1.comp (Fr.of_nil f2)))))
        clear hx f2
        go_wp2
        go_ret
        rw [← HX.out]
        exact ⟨v, rfl, H2.out.1, H2.out.2.1, H2.out.2.2⟩
      | true =>
        have hlt := sees_lt HSX.out
        have hx := HX.out
        rw [if_neg (by rw [HSX.out]; decide)] at hx
        have hT : measP L (needF L [41] (ex { st with at_ := st.at_ + 1 }).2) < measP L st := measP_lt HST.out.2.1 hlt ((HP.out.2.2.2.2 _).trans (need_goes _ _))
        have HST2 := Lib.hid (And.intro hx (show measP L (needF L [41] (ex { st with at_ := st.at_ + 1 }).2) + 1 ≤ f from by have := HS.out.2.1; omega))
        have h2 := H1.out.1.fr f2
        obtain ⟨p0, p1, p2, p3, pf, pl⟩ := h2.facts
        have hszL := h2.sz
        have j2 : IntKind.i64.wrap ((st.at_ : Int) + 1) = (st.at_ : Int) + 1 := by rw [IntKind.wrap_i64]; omega
        go_upto_region 8 with fail
        obtain ⟨V, hV⟩ : ∃ V, w2.setCell ⟨pb, 1, none⟩ (.int .i64 ((st.at_ : Int) + 1)) = V := ⟨_, rfl⟩
        rw [hV]
        have fV : Fr (fun b => b = pb) w2 V := by rw [← hV]; (repeat (first | (with_reducible exact Fr.refl _ _) | (with_reducible assumption) | (with_reducible exact Fr.of_nil (by assumption)) | (with_reducible refine Fr.drew ?_) | (with_reducible refine Fr.drewN ?_ _) | (with_reducible refine Fr.alloc ?_ _) | (with_reducible refine Fr.set ?_ _ _ (by first | (intro _; exact rfl) | (intro _; exact .inl rfl) | (intro _; exact .inr rfl) | (intro q; exact absurd q (Nat.lt_irrefl _)) | (intro q; simp at q; omega))) | (with_reducible refine Fr.via ?_ (by assumption)) | (with_reducible refine Fr.comp ?_ (by assumption))))
        have bV : Blk V pb #[vT, .int .i64 ((st.at_ : Int) + 1), .int .i64 (st.e : Int), .int .i64 (st.line : Int)] 76 := by
          rw [← hV]
          (unfold Blk; simp (disch := first | omega | (simp; done) | (simp; omega)) only [hp_drew, hp_drewN, hp_alloc, hp_other, hp_same, hp_new, upd_cells, Option.map_some, (h2.blk).eq])
          simp
        have hPV : PAt V pb vT L { st with at_ := st.at_ + 1 } := h2.to fV bV hlt
        have FV : Fr (fun b => b = pb) wr V := F1.comp ((Fr.of_nil f2).comp fV)
        have bEV := fV.blk (f2.blk H1.out.2 (fun q => q)) hne
        have hVs := FV.size
        have hEV := bEV.lt
        have HV := Lib.hid (And.intro hPV bEV)
        clear hV fV bV hPV bEV h2 f2 p0 p1 p2 p3 pf pl hx hT
        go_wp2_with fail
        refine (HP.out.2.2.2.1 _ _ HV.out.1).mono ?_
        rintro e w3 ⟨ve, rfl, he, h3, f3⟩
        obtain ⟨cs, rfl, hE⟩ := he
        obtain ⟨k, nm, fl, bi, a0, n0, c0, a1, n1, c1, a2, n2, c2, a3, n3, c3, rfl⟩ := hE.form
        have bE3 := f3.blk HV.out.2 hne
        have F3 := FV.comp f3
        have H3 := Lib.hid (And.intro h3 hE)
        have Ec := bE3.cell
        have Ef := bE3.free
        have El := bE3.lt
        clear h3 hE f3
        unfold eC
        go_upto_region 9 with fail
        obtain ⟨W, hW⟩ : ∃ W, ((((((((w3).setCell ⟨Te, 0, none⟩ (.int .i64 (k : Int))).setCell ⟨Te, 1, none⟩ (.string nm)).setCell ⟨Te, 2, none⟩ (.bool fl)).setCell ⟨Te, 3, none⟩ (.int .u64 (bi : Int))).setCell ⟨Te, 4, none⟩ (.slice a0 n0 c0)).setCell ⟨Te, 5, none⟩ (.slice a1 n1 c1)).setCell ⟨Te, 6, none⟩ (.slice a2 n2 c2)).setCell ⟨Te, 7, none⟩ (.slice a3 n3 c3) = W := ⟨_, rfl⟩
        rw [hW]
        have GW : Fr (fun b => b = Te) w3 W := by rw [← hW]; (repeat (first | (with_reducible exact Fr.refl _ _) | (with_reducible assumption) | (with_reducible exact Fr.of_nil (by assumption)) | (with_reducible refine Fr.drew ?_) | (with_reducible refine Fr.drewN ?_ _) | (with_reducible refine Fr.alloc ?_ _) | (with_reducible refine Fr.set ?_ _ _ (by first | (intro _; exact rfl) | (intro _; exact .inl rfl) | (intro _; exact .inr rfl) | (intro q; exact absurd q (Nat.lt_irrefl _)) | (intro q; simp at q; omega))) | (with_reducible refine Fr.via ?_ (by assumption)) | (with_reducible refine Fr.comp ?_ (by assumption))))
        have FW : Fr (fun b => b = pb) wr W := by rw [← hW]; (repeat (first | (with_reducible exact Fr.refl _ _) | (with_reducible assumption) | (with_reducible exact Fr.of_nil (by assumption)) | (with_reducible refine Fr.drew ?_) | (with_reducible refine Fr.drewN ?_ _) | (with_reducible refine Fr.alloc ?_ _) | (with_reducible refine Fr.set ?_ _ _ (by first | (intro _; exact rfl) | (intro _; exact .inl rfl) | (intro _; exact .inr rfl) | (intro q; exact absurd q (Nat.lt_irrefl _)) | (intro q; simp at q; omega))) | (with_reducible refine Fr.via ?_ (by assumption)) | (with_reducible refine Fr.comp ?_ (by assumption))))
        have bW : Blk W Te #[.int .i64 (k : Int), .string nm, .bool fl, .int .u64 (bi : Int), .slice a0 n0 c0, .slice a1 n1 c1, .slice a2 n2 c2, .slice a3 n3 c3] 49 := by
          rw [← hW]
          (unfold Blk; simp (disch := first | omega | (simp; done) | (simp; omega)) only [hp_drew, hp_drewN, hp_alloc, hp_other, hp_same, hp_new, upd_cells, Option.map_some, (bE3).eq]) <;> simp
        have hPW := HP.out.1.keep (hw.comp FW) H3.out.1 GW (fun q => hne q.symm)
        have hEW := H3.out.2.fr GW (fun b q => by have q' : b = Te := q; omega)
        clear hW Ec Ef El bE3 F3
        go_wp2_with fail
        refine (pneed_any [41] hPW).mono ?_
        rintro e w4 ⟨rfl, h4, f4⟩
        have FX := FW.comp f4
        have bX := f4.blk bW hne
        have hEX : EAt (fun b => b < w.heap.size ∨ v.ownBlock = some b) w4 (eC k nm fl bi a0 n0 c0 a1 n1 c1 a2 n2 c2 a3 n3 c3) _ := (hEW.fr f4 (fun b q => by have q' : b = pb := q; omega)).mono (fun b _ q => by rcases q with q | q; omega; have := (HCL.out.2 b q).2; omega)
        have HX4 := Lib.hid (And.intro h4 (And.intro FX hEX))
        have hWs := FX.size
        have Ec := bX.cell
        have Ef := bX.free
        have El := bX.lt
        clear bW bX FW GW hPW hEW FX h4 hEX f4
        go_wp2_with (first
          | (at_builtin; refine wpList_push (w := w4) rfl (.tmp 56) (.tmp 58) 46 rfl w.heap.size 49 i0 (.agg #[.int .i64 0, .string ⟨#[]⟩, .bool false, .int .u64 0, .slice none 0 0, .slice none 0 0, .slice none 0 0, .slice none 0 0]) 8 136 Tryz.underlying46 hi hz0 hz1 hz2 rfl (by decide) v acc.length cl rfl (owns_frS HCL.out.1 HX4.out.2.1 (fun k q e => by have := (HCL.out.2 k q).1; omega)) [.int .i64 (k : Int), .string nm, .bool fl, .int .u64 (bi : Int), .slice a0 n0 c0, .slice a1 n1 c1, .slice a2 n2 c2, .slice a3 n3 c3] rfl rfl (by simp [Value.oneCell']) (by unfold maxLen; omega) (by omega) (by omega) ?_; intro v' w9 hown9 f9 hk9; have HO := Lib.hid (And.intro hown9 (And.intro f9 hk9)); clear hown9 f9 hk9)
          | fail)
        have E := push_end (Te := Te) (a := (ex { st with at_ := st.at_ + 1 }).1) lawE HP.out.1 hw HS.out.2.2.1 HX4.out.2.1 HX4.out.1 (Fr.refl _ _) hne HX4.out.2.2 (owns_frS HCL.out.1 HX4.out.2.1 (fun k q e => by have := (HCL.out.2 k q).1; omega)) HO.out.1 HO.out.2.1 HO.out.2.2
        go_roundg f
        case rel => exact ⟨acc ++ [(ex { st with at_ := st.at_ + 1 }).1], _, v', rfl, by simp; omega, Lib.hid ⟨HST2.out.1, HST2.out.2, E.1, E.2.1⟩, E.2.2⟩
        case measure => omega
    · have hst := HS.out.1
      rw [hf] at hst
      unfold atomsF at hst
      rw [if_pos (by simpa using he)] at hst
      have i2 : ¬ (st.e : Int) = 0 := by omega
      have d3 : ((st.e : Int) == 0) = false := by simpa using i2
      have HX := Lib.hid hst
      clear hst
      go_wp2
      go_ret
      rw [← HX.out]
      exact ⟨v, rfl, HS.out.2.2.1, HS.out.2.2.2, hw⟩
end
end Go.Proofs.YtlnmicddobgppaaGreatDoor

namespace Go.Proofs.YtlnmicddobgppaaGreatDoor
set_option linter.unusedSimpArgs false
set_option linter.unusedVariables false
open Go.RowKit

theorem EAt.withKids {X : Nat → Prop} {w : World} {k : Nat} {n : ByteArray} {f : Bool} {b : Nat} {a0 : Option Addr} {n0 c0 : Nat} {a1 : Option Addr} {n1 c1 : Nat} {a2 : Option Addr} {n2 c2 : Nat} {a3 : Option Addr} {n3 c3 : Nat} {t : TE} {ks : List TE} {a4 : Option Addr} {n4 c4 : Nat} {kc : Nat → List Value}
    (h : EAt X w (eC k n f b a0 n0 c0 a1 n1 c1 a2 n2 c2 a3 n3 c3) t) (hk : RowC X w (.slice a4 n4 c4) ks.length 8 kc) (hk2 : ∀ i (h : i < ks.length), EAt X w (kc i) ks[i]) : EAt X w (eC k n f b a0 n0 c0 a4 n4 c4 a2 n2 c2 a3 n3 c3) (t.withKids ks) := by
  generalize hcs : eC k n f b a0 n0 c0 a1 n1 c1 a2 n2 c2 a3 n3 c3 = cs at h
  cases h with
  | mk kc' bc ac be ae bp an hp hk' hk2' hb hb1 hb2 hb3 ha ha1 ha2 ha3 =>
    unfold eC at hcs
    injection hcs with e1 hcs
    injection hcs with e2 hcs
    injection hcs with e3 hcs
    injection hcs with e4 hcs
    injection hcs with e5 hcs
    injection hcs with e6 hcs
    injection hcs with e7 hcs
    injection hcs with e8 hcs
    subst e5 e7 e8
    unfold eC TE.withKids
    rw [e1, e2, e3, e4]
    exact .mk kc bc ac be ae bp an hp hk hk2 hb hb1 hb2 hb3 ha ha1 ha2 ha3
theorem EAt.app {X : Nat → Prop} {w : World} {v : Value} {ks : List TE} {kc : Nat → List Value} (kind : Nat) (name : List UInt8) (hk : RowC X w v ks.length 8 kc) (hk2 : ∀ i (h : i < ks.length), EAt X w (kc i) ks[i]) : EAt X w [.int .i64 (kind : Int), .string ⟨name.toArray⟩, .bool false, .int .u64 ((0 : Nat) : Int), .slice none 0 0, v, .slice none 0 0, .slice none 0 0] (.mk kind name false 0 [] ks [] []) :=
  .mk (params := []) (binds := []) (alts := []) kc (fun _ => []) (fun _ => []) (fun _ => []) (fun _ => []) (fun _ => .bool false) (fun _ => .bool false) .nil hk hk2 .nil (fun i h => absurd h (Nat.not_lt_zero i)) (fun i h => absurd h (Nat.not_lt_zero i)) (fun i h => absurd h (Nat.not_lt_zero i)) .nil (fun i h => absurd h (Nat.not_lt_zero i)) (fun i h => absurd h (Nat.not_lt_zero i)) (fun i h => absurd h (Nat.not_lt_zero i))
def rowEnd (L : List TokV) (kd : Int) (l : List TE) (s : PS) : TE × PS :=
  match l with
  | [] => (zeroE, faultF L 3 s)
  | [e] => (e, s)
  | e :: r => if kd = 2 ∨ kd = 7 then (e.withKids r, s) else (.mk 4 [] false 0 [] (e :: r) [] [], s)
theorem rowF_eq (L : List TokV) (ex : PS → TE × PS) (s : PS) : rowF L ex s = rowEnd L (kindP L s) (atomsF L ex (fuelP L) [] s).1 (atomsF L ex (fuelP L) [] s).2 := by
  unfold rowF
  generalize atomsF L ex (fuelP L) [] s = p
  obtain ⟨l, t⟩ := p
  rcases l with _ | ⟨e, _ | ⟨e2, r⟩⟩ <;> rfl
section
variable {w : World} {pb : Nat} {vT : Value} {L : List TokV} {s : PS} {deep : Nat} {ex : PS → TE × PS}
set_option maxRecDepth 100000 in
set_option maxHeartbeats 4000000 in
theorem prow_any (h : PAt w pb vT L s) (hd : deep ≤ 1000) (hgo : ∀ s, Goes L s (ex s).2) (hex : Reads pb vT L 61 ((deep : Int) + 1) ex) :
    Calls Tryz.prog 95 #[.pointer (some ⟨pb, 0, none⟩), .int .i64 (deep : Int)] w fun r w' => ∃ v, r = .returned v ∧ EVal (fun b => b < w.heap.size) w' v (rowF L ex s).1 ∧ PAt w' pb vT L (rowF L ex s).2 ∧ Fr (fun b => b = pb) w w' := by
  obtain ⟨l, s1, hP⟩ : ∃ l s1, atomsF L ex (fuelP L) [] s = (l, s1) := ⟨_, _, rfl⟩
  obtain ⟨kd, hkd⟩ : ∃ kd, kindP L s = kd := ⟨_, rfl⟩
  have e0 : rowF L ex s = rowEnd L kd l s1 := by rw [rowF_eq, hP, hkd]
  rw [e0]
  have hpl := h.blk.lt
  have HKD := Lib.hid (fun w' (f : Fr Nil w w') => pkind_any (h.fr f))
  rw [hkd] at HKD
  have HP := Lib.hid (And.intro h (And.intro hP (And.intro hgo hex)))
  obtain ⟨T, hT⟩ : ∃ T, w.heap.size = T := ⟨_, rfl⟩
  rw [hT] at hpl ⊢
  have hne : T ≠ pb := by omega
  clear h hP e0 hkd hgo hex
  go_enter Tryz.func95, Tryz.ntmps95
  go_wp2_with fail
  refine (HKD.out _ (by (repeat (first | (with_reducible exact Fr.refl _ _) | (with_reducible assumption) | (with_reducible exact Fr.of_nil (by assumption)) | (with_reducible refine Fr.drew ?_) | (with_reducible refine Fr.drewN ?_ _) | (with_reducible refine Fr.alloc ?_ _) | (with_reducible refine Fr.set ?_ _ _ (by first | (intros; omega) | (simp; done) | (simp; omega))) | (with_reducible refine Fr.via ?_ (by assumption)) | (with_reducible refine Fr.comp ?_ (by assumption)))))).mono ?_
  rintro e w1 ⟨rfl, f1⟩
  have bE1 : Blk w1 T #[.int .i64 0, .string ⟨#[]⟩, .bool false, .int .u64 0, .slice none 0 0, .slice none 0 0, .slice none 0 0, .slice none 0 0] 49 := by
    have h := f1.new
    rw [hT] at h
    exact h
  have F1 : Fr Nil w w1 := Fr.trans (S := Nil) (by (repeat (first | (with_reducible exact Fr.refl _ _) | (with_reducible assumption) | (with_reducible exact Fr.of_nil (by assumption)) | (with_reducible refine Fr.drew ?_) | (with_reducible refine Fr.drewN ?_ _) | (with_reducible refine Fr.alloc ?_ _) | (with_reducible refine Fr.set ?_ _ _ (by first | (intros; omega) | (simp; done) | (simp; omega))) | (with_reducible refine Fr.via ?_ (by assumption)) | (with_reducible refine Fr.comp ?_ (by assumption))))) f1 (fun _ _ q => q)
  have h1 := HP.out.1.fr F1
  have hT1 := bE1.lt
  clear f1 HKD
  go_wp2_with fail
  refine (patoms_any h1 hd HP.out.2.2.1 HP.out.2.2.2).mono ?_
  rw [HP.out.2.1]
  rintro e w2 ⟨v, rfl, hv, h2, f2⟩
  have hv : RowsAt EAt 8 49 _ w2 v l := hv
  have h2 : PAt w2 pb vT L s1 := h2
  have F2 : Fr (fun b => b = pb) w w2 := (Fr.of_nil F1).comp f2
  have bE2 := f2.blk bE1 hne
  obtain ⟨av, cv, rfl⟩ := hv.shape
  obtain ⟨cs, hrow, hcs⟩ := hv.row lawE
  have hrow := hrow.mono (Y := fun b => b < T + 1) (by decide) (fun b _ q => by omega)
  have hcs : ∀ i (hi : i < l.length), EAt (fun b => b < T + 1) w2 (cs i) l[i] := fun i hi => (hcs i hi).mono (fun b _ q => by omega)
  have Ec := bE2.cell
  have Ef := bE2.free
  have El := bE2.lt
  have H2 := Lib.hid (And.intro h2 (And.intro F2 (And.intro bE2 (And.intro hrow hcs))))
  have fin : Hid (∀ wf, Fr (fun b => b = T) w2 wf → Fr (fun b => b = pb) w wf ∧ PAt wf pb vT L s1 ∧ RowC (fun b => b < T + 1) wf (.slice av l.length cv) l.length 8 cs ∧ ∀ i (hi : i < l.length), EAt (fun b => b < T + 1) wf (cs i) l[i]) := fun wf g => by
    have FF : Fr (fun b => b = pb) w wf := F2.trans g (fun b hb q => by have q' : b = T := q; omega)
    exact ⟨FF, HP.out.1.keep FF h2 g (fun q => hne q.symm), hrow.fr g (fun b q => by have q' : b = T := q; omega), fun i hi => (hcs i hi).fr g (fun b q => by have q' : b = T := q; omega)⟩
  clear hv h2 f2 bE2 bE1 h1 F1 F2 hT1 hcs
  rcases l with _ | ⟨x, _ | ⟨y, r⟩⟩
  · simp only [List.length_nil]
    clear hrow fin
    go_wp2_with fail
    refine (pfault_any 3 H2.out.1).mono ?_
    rintro e w3 ⟨rfl, h3, f3⟩
    have bE3 := f3.blk H2.out.2.2.1 hne
    have F3 := H2.out.2.1.comp f3
    have H3 := Lib.hid (And.intro h3 F3)
    clear Ec Ef El
    have Ec := bE3.cell
    have Ef := bE3.free
    have El := bE3.lt
    have fin : Hid (∀ wf, Fr (fun b => b = T) w3 wf → ∃ v', Ending.returned (.agg #[.int .i64 0, .string ⟨#[]⟩, .bool false, .int .u64 0, .slice none 0 0, .slice none 0 0, .slice none 0 0, .slice none 0 0]) = .returned v' ∧ EVal (fun b => b < T) wf v' zeroE ∧ PAt wf pb vT L (faultF L 3 s1) ∧ Fr (fun b => b = pb) w wf) := fun wf g => by
      have FF : Fr (fun b => b = pb) w wf := F3.trans g (fun b hb q => by have q' : b = T := q; omega)
      exact ⟨_, rfl, ⟨_, rfl, EAt.zero⟩, HP.out.1.keep FF h3 g (fun q => hne q.symm), FF⟩
    clear bE3 F3 h3 f3
    go_wp2
    (try simp only [Exit.inBlock, Exit.then])
    refine bodyPost_ret (v := .agg #[.int .i64 0, .string ⟨#[]⟩, .bool false, .int .u64 0, .slice none 0 0, .slice none 0 0, .slice none 0 0, .slice none 0 0]) (by simp [results, Tryz.results95, go_sem, *]) rfl ?_
    exact fin.out _ (by (repeat (first | (with_reducible exact Fr.refl _ _) | (with_reducible assumption) | (with_reducible exact Fr.of_nil (by assumption)) | (with_reducible refine Fr.drew ?_) | (with_reducible refine Fr.drewN ?_ _) | (with_reducible refine Fr.alloc ?_ _) | (with_reducible refine Fr.set ?_ _ _ (by first | (intro _; exact rfl) | (intro _; exact .inl rfl) | (intro _; exact .inr rfl) | (intro q; exact absurd q (Nat.lt_irrefl _)) | (intro q; simp at q; omega))) | (with_reducible refine Fr.via ?_ (by assumption)) | (with_reducible refine Fr.comp ?_ (by assumption)))))
  · have i1 : ¬ (([x] : List TE).length : Int) = 0 := by simp
    simp only [List.length_cons, List.length_nil, Nat.zero_add] at hrow ⊢
    obtain ⟨b0, off0, rfl, hb0, hc0⟩ := RowC.at hrow (i := 0) (by simp)
    have hE0 := H2.out.2.2.2.2 0 (by simp)
    obtain ⟨k, nm, fl, bi, a0, n0, c0, a1, n1, c1, a2, n2, c2, a3, n3, c3, hcs0⟩ := hE0.form
    rw [hcs0] at hc0 hE0
    have q0 := hc0 0 _ rfl
    have q1 := hc0 1 _ rfl
    have q2 := hc0 2 _ rfl
    have q3 := hc0 3 _ rfl
    have q4 := hc0 4 _ rfl
    have q5 := hc0 5 _ rfl
    have q6 := hc0 6 _ rfl
    have q7 := hc0 7 _ rfl
    simp at q0 q1 q2 q3 q4 q5 q6 q7
    have hbl := World.block_lt_of_cell? _ _ q0
    have finR : Hid (∀ wf, Fr (fun b => b = T) w2 wf → ∃ v', Ending.returned (.agg (eC k nm fl bi a0 n0 c0 a1 n1 c1 a2 n2 c2 a3 n3 c3).toArray) = .returned v' ∧ EVal (fun b => b < T) wf v' x ∧ PAt wf pb vT L s1 ∧ Fr (fun b => b = pb) w wf) := fun wf g => by
      obtain ⟨r1, r2, r3, r4⟩ := fin.out wf g
      have h := r4 0 (by simp)
      rw [hcs0] at h
      exact ⟨_, rfl, ⟨_, rfl, h.mono (fun b _ q => by omega)⟩, r2, r1⟩
    clear hrow hc0 hE0 hcs0 fin hb0
    unfold eC at finR
    go_wp2
    (try simp only [Exit.inBlock, Exit.then])
    refine bodyPost_ret (v := .agg (eC k nm fl bi a0 n0 c0 a1 n1 c1 a2 n2 c2 a3 n3 c3).toArray) (by simp [results, Tryz.results95, go_sem, eC, *]) rfl ?_
    exact finR.out _ (by (repeat (first | (with_reducible exact Fr.refl _ _) | (with_reducible assumption) | (with_reducible exact Fr.of_nil (by assumption)) | (with_reducible refine Fr.drew ?_) | (with_reducible refine Fr.drewN ?_ _) | (with_reducible refine Fr.alloc ?_ _) | (with_reducible refine Fr.set ?_ _ _ (by first | (intro _; exact rfl) | (intro _; exact .inl rfl) | (intro _; exact .inr rfl) | (intro q; exact absurd q (Nat.lt_irrefl _)) | (intro q; simp at q; omega))) | (with_reducible refine Fr.via ?_ (by assumption)) | (with_reducible refine Fr.comp ?_ (by assumption)))))
  · obtain ⟨m, hm⟩ : ∃ m, (x :: y :: r).length = m + 1 := ⟨(y :: r).length, rfl⟩
    have hm1 : (y :: r).length = m := by simpa using hm
    have hmp : 1 ≤ m := by rw [← hm1]; simp
    have hcv : m + 1 ≤ cv := by
      obtain ⟨_, _, e, q1, _⟩ := hrow
      cases e
      rw [hm] at q1
      exact q1
    obtain ⟨b0, off0, rfl, hb0, hc0⟩ := RowC.at hrow (i := 0) (by simp)
    have hE0 := H2.out.2.2.2.2 0 (by simp)
    obtain ⟨k, nm, fl, bi, a0, n0, c0, a1, n1, c1, a2, n2, c2, a3, n3, c3, hcs0⟩ := hE0.form
    rw [hcs0] at hc0 hE0
    have q0 := hc0 0 _ rfl
    have q1 := hc0 1 _ rfl
    have q2 := hc0 2 _ rfl
    have q3 := hc0 3 _ rfl
    have q4 := hc0 4 _ rfl
    have q5 := hc0 5 _ rfl
    have q6 := hc0 6 _ rfl
    have q7 := hc0 7 _ rfl
    simp at q0 q1 q2 q3 q4 q5 q6 q7
    have hbl := World.block_lt_of_cell? _ _ q0
    rw [hm] at hrow ⊢
    have HM := Lib.hid (And.intro hm (And.intro hm1 (And.intro hcs0 hrow)))
    have j1 : ¬ (((m + 1 : Nat) : Int) = 0) := by omega
    have j2 : ¬ (((m + 1 : Nat) : Int) = 1) := by omega
    have j3 : ((((m + 1 : Nat) : Int)) == 0) = false := by simpa using j1
    have j4 : ((((m + 1 : Nat) : Int)) == 1) = false := by simpa using j2
    have j3' : (((m : Int) + 1) == 0) = false := by simpa using j1
    have j4' : (((m : Int) + 1) == 1) = false := by simp; omega
    have j5 : (0 : Int) < ((m + 1 : Nat) : Int) := by omega
    have j6 : (1 : Int) ≤ ((m + 1 : Nat) : Int) := by omega
    have j7 : ((m + 1 : Nat) : Int) ≤ (cv : Int) := by omega
    have j8 : (1 : Int) ≤ (cv : Int) := by omega
    have j9 : ¬ cv = 1 := by omega
    by_cases hk : kd = 2 ∨ kd = 7
    · have e1 : rowEnd L kd (x :: y :: r) s1 = (x.withKids (y :: r), s1) := by
        show (if kd = 2 ∨ kd = 7 then _ else _) = _
        rw [if_pos hk]
      have finR : Hid (∀ wf, Fr (fun b => b = T) w2 wf → ∃ v', Ending.returned (.agg (eC k nm fl bi a0 n0 c0 (some ⟨b0, off0 + 8, none⟩) m (cv - 1) a2 n2 c2 a3 n3 c3).toArray) = .returned v' ∧ EVal (fun b => b < T) wf v' (rowEnd L kd (x :: y :: r) s1).1 ∧ PAt wf pb vT L (rowEnd L kd (x :: y :: r) s1).2 ∧ Fr (fun b => b = pb) w wf) := fun wf g => by
        obtain ⟨r1, r2, r3, r4⟩ := fin.out wf g
        rw [e1]
        have h := r4 0 (by simp)
        rw [HM.out.2.2.1] at h
        rw [HM.out.1] at r3
        have ht := RowC.tail r3 (some ⟨b0, off0 + 8, none⟩) (fun _ => rfl)
        refine ⟨_, rfl, ⟨_, rfl, (EAt.withKids h (kc := fun i => cs (i + 1)) (by rw [HM.out.2.1]; exact ht) (fun i hi => ?_)).mono (fun b _ q => by omega)⟩, r2, r1⟩
        exact r4 (i + 1) (by simp at hi ⊢; omega)
      clear hrow hc0 hE0 hcs0 fin hb0 hm hm1 e1
      rcases hk with rfl | rfl
      · skip
        go_wp2
        (try simp only [Exit.inBlock, Exit.then])
        refine bodyPost_ret (v := .agg (eC k nm fl bi a0 n0 c0 (some ⟨b0, off0 + 8, none⟩) m (cv - 1) a2 n2 c2 a3 n3 c3).toArray) (by simp [results, Tryz.results95, go_sem, eC, *]) rfl ?_
        exact finR.out _ (by (repeat (first | (with_reducible exact Fr.refl _ _) | (with_reducible assumption) | (with_reducible exact Fr.of_nil (by assumption)) | (with_reducible refine Fr.drew ?_) | (with_reducible refine Fr.drewN ?_ _) | (with_reducible refine Fr.alloc ?_ _) | (with_reducible refine Fr.set ?_ _ _ (by first | (intro _; exact rfl) | (intro _; exact .inl rfl) | (intro _; exact .inr rfl) | (intro q; exact absurd q (Nat.lt_irrefl _)) | (intro q; simp at q; omega))) | (with_reducible refine Fr.via ?_ (by assumption)) | (with_reducible refine Fr.comp ?_ (by assumption)))))
      · skip
        go_wp2
        (try simp only [Exit.inBlock, Exit.then])
        refine bodyPost_ret (v := .agg (eC k nm fl bi a0 n0 c0 (some ⟨b0, off0 + 8, none⟩) m (cv - 1) a2 n2 c2 a3 n3 c3).toArray) (by simp [results, Tryz.results95, go_sem, eC, *]) rfl ?_
        exact finR.out _ (by (repeat (first | (with_reducible exact Fr.refl _ _) | (with_reducible assumption) | (with_reducible exact Fr.of_nil (by assumption)) | (with_reducible refine Fr.drew ?_) | (with_reducible refine Fr.drewN ?_ _) | (with_reducible refine Fr.alloc ?_ _) | (with_reducible refine Fr.set ?_ _ _ (by first | (intro _; exact rfl) | (intro _; exact .inl rfl) | (intro _; exact .inr rfl) | (intro q; exact absurd q (Nat.lt_irrefl _)) | (intro q; simp at q; omega))) | (with_reducible refine Fr.via ?_ (by assumption)) | (with_reducible refine Fr.comp ?_ (by assumption)))))
    · have e1 : rowEnd L kd (x :: y :: r) s1 = (.mk 4 [] false 0 [] (x :: y :: r) [] [], s1) := by
        show (if kd = 2 ∨ kd = 7 then _ else _) = _
        rw [if_neg hk]
      have finR : Hid (∀ wf, Fr (fun b => b = T) w2 wf → ∃ v', Ending.returned (.agg #[.int .i64 4, .string ⟨#[]⟩, .bool false, .int .u64 0, .slice none 0 0, .slice (some ⟨b0, off0, none⟩) (m + 1) cv, .slice none 0 0, .slice none 0 0]) = .returned v' ∧ EVal (fun b => b < T) wf v' (rowEnd L kd (x :: y :: r) s1).1 ∧ PAt wf pb vT L (rowEnd L kd (x :: y :: r) s1).2 ∧ Fr (fun b => b = pb) w wf) := fun wf g => by
        obtain ⟨r1, r2, r3, r4⟩ := fin.out wf g
        rw [e1]
        rw [HM.out.1] at r3
        refine ⟨_, rfl, ⟨_, rfl, (EAt.app 4 [] (kc := cs) (by rw [HM.out.1]; exact r3) (fun i hi => r4 i hi)).mono (fun b _ q => by omega)⟩, r2, r1⟩
      have d1 : ¬ kd = 2 := fun q => hk (.inl q)
      have d2 : ¬ kd = 7 := fun q => hk (.inr q)
      have d3 : (kd == 2) = false := by simpa using d1
      have d4 : (kd == 7) = false := by simpa using d2
      clear hrow hc0 hE0 hcs0 fin hb0 hm hm1 e1 hk
      go_wp2
      (try simp only [Exit.inBlock, Exit.then])
      refine bodyPost_ret (v := .agg #[.int .i64 4, .string ⟨#[]⟩, .bool false, .int .u64 0, .slice none 0 0, .slice (some ⟨b0, off0, none⟩) (m + 1) cv, .slice none 0 0, .slice none 0 0]) (by simp [results, Tryz.results95, go_sem, eC, *]) rfl ?_
      exact finR.out _ (by (repeat (first | (with_reducible exact Fr.refl _ _) | (with_reducible assumption) | (with_reducible exact Fr.of_nil (by assumption)) | (with_reducible refine Fr.drew ?_) | (with_reducible refine Fr.drewN ?_ _) | (with_reducible refine Fr.alloc ?_ _) | (with_reducible refine Fr.set ?_ _ _ (by first | (intro _; exact rfl) | (intro _; exact .inl rfl) | (intro _; exact .inr rfl) | (intro q; exact absurd q (Nat.lt_irrefl _)) | (intro q; simp at q; omega))) | (with_reducible refine Fr.via ?_ (by assumption)) | (with_reducible refine Fr.comp ?_ (by assumption)))))
end
end Go.Proofs.YtlnmicddobgppaaGreatDoor
