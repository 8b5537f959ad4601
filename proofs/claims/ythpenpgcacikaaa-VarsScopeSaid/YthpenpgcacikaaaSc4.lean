/-
  The document's scope (layer 10): a module's constructors; its first fault. Conditions: a module as a source tells it.
-/
import Derived.Test.YthpenpgcacikaaaSc3
namespace Go.Proofs.Ythpenpgcacikaaa
set_option linter.unusedSimpArgs false
set_option linter.unusedVariables false
open Go.RowKit

/-- Constructors, the four ahead. -/
def fullD (m : TM) : List (List UInt8 × Nat) := [(falseN, 0), (trueN, 0), (nothN, 0), (justN, 1)] ++ m.cons
theorem fullD_names (m : TM) : (fullD m).map (·.1) = consN m := by simp [fullD, consN]
def flatN (l : List (List UInt8 × Nat)) : List Value := l.flatMap (fun d => [.string ⟨d.1.toArray⟩, .int .i64 (d.2 : Int)])
theorem flatN_len (l : List (List UInt8 × Nat)) : (flatN l).length = l.length * 2 := by
  induction l with
  | nil => rfl
  | cons d l ih =>
    have e : flatN (d :: l) = [.string ⟨d.1.toArray⟩, .int .i64 (d.2 : Int)] ++ flatN l := rfl
    rw [e, List.length_append, ih, List.length_cons]
    simp
    omega
theorem flatN_get (l : List (List UInt8 × Nat)) (i : Nat) (hi : i < l.length) : (flatN l)[i * 2]? = some (.string ⟨l[i].1.toArray⟩) ∧ (flatN l)[i * 2 + 1]? = some (.int .i64 (l[i].2 : Int)) := by
  induction l generalizing i with
  | nil => simp at hi
  | cons d l ih =>
    have e : flatN (d :: l) = .string ⟨d.1.toArray⟩ :: .int .i64 (d.2 : Int) :: flatN l := rfl
    cases i with
    | zero => rw [e]; simp
    | succ i =>
      have := ih i (by simpa using hi)
      rw [e, show (i + 1) * 2 = i * 2 + 1 + 1 by omega]
      simpa using this
/-- Constructors as they lie in a row. -/
def DeclsAt (X : Nat → Prop) (w : World) (v : Value) (l : List (List UInt8 × Nat)) : Prop := RowC X w v l.length 2 (fun i => [.string ⟨(l.getD i ([], 0)).1.toArray⟩, .int .i64 ((l.getD i ([], 0)).2 : Int)])
theorem DeclsAt.cell {X : Nat → Prop} {w : World} {a : Option Addr} {n cap : Nat} {l : List (List UInt8 × Nat)} (h : DeclsAt X w (.slice a n cap) l) (i : Nat) (hi : i < l.length) : ∃ b off, a = some ⟨b, off, none⟩ ∧ ¬ X b ∧ w.cell? ⟨b, off + i * 2, none⟩ = some (.string ⟨l[i].1.toArray⟩) ∧ w.cell? ⟨b, off + i * 2 + 1, none⟩ = some (.int .i64 (l[i].2 : Int)) := by
  obtain ⟨a1, cap1, e, h1, h2, hc⟩ := h
  cases e
  obtain ⟨b, off, rfl, hb, hl, hcell⟩ := hc i hi
  have e1 : l.getD i ([], 0) = l[i] := by simp [List.getD, hi]
  simp only [e1] at hcell
  exact ⟨b, off, rfl, hb, hcell 0 _ rfl, hcell 1 _ rfl⟩
theorem DeclsAt.of_own {X : Nat → Prop} {w : World} {base : Nat} {v : Value} {l : List (List UInt8 × Nat)} {t : TypeId} (h : w.ownsRow base t 2 v l.length (flatN l)) (hX : ∀ b, X b → b < base) : DeclsAt X w v l :=
  RowC.of_own h hX (fun i hi => rfl) (fun i hi j u hj => by
    have e1 : l.getD i ([], 0) = l[i] := by simp [List.getD, hi]
    rw [e1] at hj
    have hg := flatN_get l i hi
    match j, hj with
    | 0, hj => simp at hj; subst hj; simpa using hg.1
    | 1, hj => simp at hj; subst hj; exact hg.2)
theorem DeclsAt.src {X : Nat → Prop} {w : World} {a : Option Addr} {n cap : Nat} {l : List (List UInt8 × Nat)} (h : DeclsAt X w (.slice a n cap) l) (hn : l.length = n) : Src w a n 2 (flatN l) := by
  rcases Nat.eq_zero_or_pos l.length with q | q
  · rw [List.length_eq_zero_iff] at q
    subst q
    subst hn
    cases a with
    | none => exact .inl ⟨rfl, rfl, rfl⟩
    | some ad => exact .inr ⟨ad, rfl, rfl, fun j u hj => by simp [flatN] at hj⟩
  · obtain ⟨b, off, rfl, _, _⟩ := h.cell 0 q
    refine .inr ⟨_, rfl, by rw [flatN_len, hn], fun j u hj => ?_⟩
    have hj2 : j < l.length * 2 := by
      have := (List.getElem?_eq_some_iff.1 hj).1
      rwa [flatN_len] at this
    have hi : j / 2 < l.length := by omega
    obtain ⟨b', off', e, _, p0, p1⟩ := h.cell (j / 2) hi
    cases e
    have hg := flatN_get l (j / 2) hi
    rw [add_at]
    rcases Nat.mod_two_eq_zero_or_one j with z | z
    · have ej : j / 2 * 2 = j := by omega
      rw [ej] at p0 hg
      rw [p0, ← hj, hg.1]
    · have ej : j / 2 * 2 + 1 = j := by omega
      have ej2 : off + j / 2 * 2 + 1 = off + j := by omega
      rw [ej2] at p1
      rw [ej] at hg
      rw [p1, ← hj, hg.2]
theorem flatN_one {l : List (List UInt8 × Nat)} : ∀ u ∈ flatN l, u.oneCell' = true := fun u hu => by
  obtain ⟨d, _, hd⟩ := List.mem_flatMap.1 hu
  simp at hd
  rcases hd with rfl | rfl <;> rfl
theorem flatN_app (a b : List (List UInt8 × Nat)) : flatN (a ++ b) = flatN a ++ flatN b := by simp [flatN]
theorem owns_four {w : World} {g base : Nat} (h : Blk w g #[.string ⟨#[70, 97, 108, 115, 101]⟩, .int .i64 0, .string ⟨#[84, 114, 117, 101]⟩, .int .i64 0, .string ⟨#[78, 111, 116, 104, 105, 110, 103]⟩, .int .i64 0, .string ⟨#[74, 117, 115, 116]⟩, .int .i64 1] 65) (hb : base ≤ g) : w.ownsRow base 65 2 (.slice (some ⟨g, 0, none⟩) 4 4) 4 (flatN [(falseN, 0), (trueN, 0), (nothN, 0), (justN, 1)]) :=
  ⟨rfl, .inr ⟨g, 4, _, rfl, hb, h, Nat.le_refl _, by unfold maxLen; omega, rfl, rfl⟩⟩
section
variable {X : Nat → Prop} {w : World} {m : TM} {c1 : Option Addr} {c2 : Nat} {bv : Value}
set_option maxRecDepth 100000 in
theorem rcons_any {b1 : Option Addr} {nb b2 nc : Nat} (hc : DeclsAt X w (.slice c1 nc c2) m.cons) (hnc : m.cons.length = nc) (hl9 : m.cons.length ≤ 100000) :
    Calls Try.prog 26 #[.agg #[.slice c1 nc c2, .slice b1 nb b2]] w fun r w' => ∃ v, r = .returned v ∧ w'.ownsRow w.heap.size 65 2 v (fullD m).length (flatN (fullD m)) ∧ Fr Nil w w' := by
  obtain ⟨i0, hi, hz0, hz1, hz2⟩ := info_parts infoD
  have hfl : (fullD m).length = 4 + nc := by simp [fullD, hnc]; omega
  have HV := Lib.hid (And.intro hc (And.intro hnc hfl))
  rw [hnc] at hl9
  clear hc hnc hfl
  go_enter Try.func26, Try.ntmps26
  go_wp2_with (first
    | (at_builtin; refine wpList_append_src rfl (.tmp 9) (.tmp 11) 41 rfl w.heap.size 65 i0 (.agg #[.string ⟨#[]⟩, .int .i64 0]) 2 24 Try.underlying41 hi hz0 hz1 hz2 rfl (by decide) (.slice (some ⟨w.heap.size + 1, 0, none⟩) 4 4) 4 (flatN [(falseN, 0), (trueN, 0), (nothN, 0), (justN, 1)]) rfl (owns_four (by (unfold Blk; simp (disch := first | omega | (simp; done) | (simp; omega)) only [hp_drew, hp_drewN, hp_alloc, hp_other, hp_same, hp_new, upd_cells, Option.map_some])) (by omega)) c1 nc c2 (flatN m.cons) rfl (DeclsAt.src (RowC.fr HV.out.1 (S := Nil) (by (repeat (first | (with_reducible exact Fr.refl _ _) | (with_reducible assumption) | (with_reducible exact Fr.of_nil (by assumption)) | (with_reducible refine Fr.drew ?_) | (with_reducible refine Fr.drewN ?_ _) | (with_reducible refine Fr.alloc ?_ _) | (with_reducible refine Fr.set ?_ _ _ (by first | (intros; omega) | (simp; done) | (simp; omega))) | (with_reducible refine Fr.via ?_ (by assumption)) | (with_reducible refine Fr.comp ?_ (by assumption))))) (fun _ q => q.elim)) HV.out.2.1) flatN_one (by unfold maxLen; omega) (by omega) (by simp; omega) ?_; intro u1 w1 hown1 g1 hk1; have H1 := Lib.hid (And.intro hown1 g1); clear hown1 g1 hk1)
    | fail)
  have hf : Fr Nil w w1 := Fr.grown (S := Nil) (w := w) (by (repeat (first | (with_reducible exact Fr.refl _ _) | (with_reducible assumption) | (with_reducible exact Fr.of_nil (by assumption)) | (with_reducible refine Fr.drew ?_) | (with_reducible refine Fr.drewN ?_ _) | (with_reducible refine Fr.alloc ?_ _) | (with_reducible refine Fr.set ?_ _ _ (by first | (intros; omega) | (simp; done) | (simp; omega))) | (with_reducible refine Fr.via ?_ (by assumption)) | (with_reducible refine Fr.comp ?_ (by assumption))))) H1.out.2 (fun k q hk => by
    have e : some (w.heap.size + 1) = some k := q
    injection e with e
    omega)
  have ho : w1.ownsRow w.heap.size 65 2 u1 (fullD m).length (flatN (fullD m)) := by
    have h := H1.out.1
    rw [HV.out.2.2]
    unfold fullD
    rw [flatN_app]
    exact h
  have HF := Lib.hid (And.intro ho hf)
  obtain ⟨ua, uc, rfl⟩ := owns_shape ho
  clear ho hf
  go_ret
  exact ⟨_, rfl, HF.out.1, HF.out.2⟩
/-- A module as it lies in two cells. -/
def ModV (X : Nat → Prop) (w : World) (c1 : Option Addr) (nc c2 : Nat) (b1 : Option Addr) (nb b2 : Nat) (m : TM) : Prop := DeclsAt X w (.slice c1 nc c2) m.cons ∧ m.cons.length = nc ∧ BindsAt X w (.slice b1 nb b2) m.binds ∧ m.binds.length = nb
theorem ModV.fr {S : Nat → Prop} {w w' : World} {nc : Nat} {b1 : Option Addr} {nb b2 : Nat} (h : ModV X w c1 nc c2 b1 nb b2 m) (f : Fr S w w') (hs : ∀ b, S b → X b) : ModV X w' c1 nc c2 b1 nb b2 m := ⟨RowC.fr h.1 f hs, h.2.1, h.2.2.1.fr f hs, h.2.2.2⟩
theorem ModV.mono {Y : Nat → Prop} {w : World} {nc : Nat} {b1 : Option Addr} {nb b2 : Nat} (h : ModV X w c1 nc c2 b1 nb b2 m) (hs : ∀ b, b < w.heap.size → Y b → X b) : ModV Y w c1 nc c2 b1 nb b2 m := by
  obtain ⟨h1, h2, ⟨cs, h3, h4⟩, h5⟩ := h
  exact ⟨RowC.mono h1 (by decide) hs, h2, ⟨cs, h3.mono (by decide) hs, fun i hi => lawB.mono (h4 i hi) hs⟩, h5⟩
set_option maxRecDepth 100000 in
set_option maxHeartbeats 8000000 in
theorem rcheck_any {b1 : Option Addr} {nb b2 nc : Nat} (hm : ModV X w c1 nc c2 b1 nb b2 m) (hl9 : m.cons.length ≤ 100000) (hl8 : m.binds.length + wnB m.binds ≤ 900000) :
    Calls Try.prog 17 #[.agg #[.slice c1 nc c2, .slice b1 nb b2]] w fun r w' => r = .returned (.tuple #[.int .i64 ((chkF m).1 : Int), .string ⟨(chkF m).2.toArray⟩]) ∧ Fr Nil w w' := by
  obtain ⟨i0, hi, hz0, hz1, hz2⟩ := info_parts infoS
  have hm := hm.mono (Y := fun b => w.heap.size ≤ b) (fun b h1 h2 => by omega)
  obtain ⟨⟨RE, RN⟩, hR⟩ : ∃ R, chkF m = R := ⟨_, rfl⟩
  rw [hR]
  have hcl : (consN m).length = 4 + nc := by simp [consN, hm.2.1]; omega
  have hfl : (fullD m).length = 4 + nc := by simp [fullD, hm.2.1]; omega
  have hnc9 : nc ≤ 100000 := by have := hm.2.1; omega
  have hnb9 : nb ≤ 900000 := by have := hm.2.2.2; omega
  have HM := Lib.hid (And.intro hm (And.intro hl9 (And.intro hl8 (And.intro hR (And.intro hcl hfl)))))
  clear hm hl9 hl8 hR hcl hfl
  obtain ⟨T, hT⟩ : ∃ T, w.heap.size = T := ⟨_, rfl⟩
  go_enter Try.func17, Try.ntmps17
  go_wp2_with fail
  obtain ⟨W1, hW1⟩ : ∃ W1, (w.alloc (.cells #[.slice c1 nc c2, .slice b1 nb b2] 43)).alloc (.cells #[.int .i64 0, .string ⟨#[]⟩, .slice none 0 0] 62) = W1 := ⟨_, rfl⟩
  rw [hW1]
  have f1 : Fr Nil w W1 := by rw [← hW1]; (repeat (first | (with_reducible exact Fr.refl _ _) | (with_reducible assumption) | (with_reducible exact Fr.of_nil (by assumption)) | (with_reducible refine Fr.drew ?_) | (with_reducible refine Fr.drewN ?_ _) | (with_reducible refine Fr.alloc ?_ _) | (with_reducible refine Fr.set ?_ _ _ (by first | (intros; omega) | (simp; done) | (simp; omega))) | (with_reducible refine Fr.via ?_ (by assumption)) | (with_reducible refine Fr.comp ?_ (by assumption))))
  have bm1 : Blk W1 T #[.slice c1 nc c2, .slice b1 nb b2] 43 := by rw [← hW1]; (unfold Blk; simp (disch := first | omega | (simp; done) | (simp; omega)) only [hp_drew, hp_drewN, hp_alloc, hp_other, hp_same, hp_new, upd_cells, Option.map_some])
  have bs1 : Blk W1 (T + 1) #[.int .i64 0, .string ⟨#[]⟩, .slice none 0 0] 62 := by rw [← hW1]; (unfold Blk; simp (disch := first | omega | (simp; done) | (simp; omega)) only [hp_drew, hp_drewN, hp_alloc, hp_other, hp_same, hp_new, upd_cells, Option.map_some])
  have sz1 : W1.heap.size = T + 2 := by rw [← hW1]; simp [hT]
  have H1 := Lib.hid (And.intro f1 (And.intro bm1 (And.intro bs1 sz1)))
  clear hW1 f1 bm1 bs1 sz1
  refine (rcons_any (X := fun b => w.heap.size ≤ b) (RowC.fr HM.out.1.1 H1.out.1 (fun _ q => q.elim)) HM.out.1.2.1 HM.out.2.1).mono ?_
  rintro e w2 ⟨v2, rfl, own2, f2⟩
  have hd2 : DeclsAt (fun b => b = T + 1) w2 v2 (fullD m) := DeclsAt.of_own own2 (fun b q => by have := H1.out.2.2.2; omega)
  obtain ⟨da, dc, rfl⟩ := owns_shape own2
  have bs2 := f2.blk H1.out.2.2.1 (fun q => q)
  have bm2 := f2.blk H1.out.2.1 (fun q => q)
  have hs2 := f2.size
  rw [HM.out.2.2.2.2.2] at hd2 ⊢
  have H2 := Lib.hid (And.intro hd2 (And.intro bs2 (And.intro bm2 (And.intro (H1.out.1.comp f2) (show T + 2 ≤ w2.heap.size by have := H1.out.2.2.2; omega)))))
  clear own2 f2 hd2 bs2 bm2 hs2
  go_wp2_with fail
  go_loopg [6] (4 + nc) (fun g iv wr => ∃ (k : Nat) (u : Value), g = 4 + nc - k ∧ k ≤ 4 + nc ∧ iv = .int .i64 (k : Int) ∧ Hid (Blk wr (T + 1) #[.int .i64 0, .string ⟨#[]⟩, u] 62 ∧ wr.ownsRow w2.heap.size 9 1 u k (strC ((consN m).take k)) ∧ Fr (fun b => b = T + 1) w2 wr))
  case atStart => exact ⟨0, _, rfl, by omega, rfl, Lib.hid ⟨H2.out.2.1, by simpa [strC] using World.ownsRow_nil _ _ _ _, Fr.refl _ _⟩⟩
  case round =>
    obtain ⟨k, u, rfl, hk, rfl, HS⟩ := hrel
    have j0 : (0 : Int) ≤ (k : Int) := by omega
    have hsz := HS.out.2.2.size
    have s0 := HS.out.1.cell 2
    simp at s0
    have sl := HS.out.1.lt
    have sf := HS.out.1.free
    by_cases hlt : k < 4 + nc
    · have hkD : k < (fullD m).length := by rw [HM.out.2.2.2.2.2]; exact hlt
      have hkC : k < (consN m).length := by rw [HM.out.2.2.2.2.1]; exact hlt
      have wk : IntKind.i64.wrap ((k : Int) + 1) = (k : Int) + 1 := by rw [IntKind.wrap_i64]; omega
      have j1 : (k : Int) < ((4 + nc : Nat) : Int) := by omega
      obtain ⟨db, doff, e, hdb, p0, _⟩ := DeclsAt.cell (RowC.fr H2.out.1 HS.out.2.2 (fun _ q => q)) k hkD
      subst e
      obtain ⟨x, hx⟩ : ∃ x, (consN m)[k] = x := ⟨_, rfl⟩
      have ex : (fullD m)[k].1 = x := by
        have h1 := congrArg (fun z => z[k]?) (fullD_names m)
        simp only [List.getElem?_map, List.getElem?_eq_getElem hkD, List.getElem?_eq_getElem hkC, Option.map_some] at h1
        injection h1 with h1
        rw [h1, hx]
      rw [ex] at p0
      have HX := Lib.hid hx
      have hdl : db < wr.heap.size := World.block_lt_of_cell? _ _ p0
      clear hx ex
      go_upto_region 6 with fail
      have hso := HS.out.2.1.lt
      go_region_law (first
        | (refine step_push (w := wr.drew) rfl (.tmp 22) (.tmp 28) 25 rfl w2.heap.size 9 i0 (.string ⟨#[]⟩) 1 16 Try.underlying25 hi hz0 hz1 hz2 rfl (by decide) u k (strC ((consN m).take k)) (by simp [Act.eval, Act.put]) (owns_fr HS.out.2.1 (Fr.drew (Fr.refl Nil wr))) [.string ⟨x.toArray⟩] (by simp [Act.eval, Act.put]) rfl (by simp [Value.oneCell']) (by unfold maxLen; omega) (by omega) hsz ?_; intro v' w3 hown3 f3 hk3; obtain ⟨g', cap', rfl⟩ := ownsRow_succ hown3; have b3 := f3.blk (Blk.drew HS.out.1) (fun q => by have := (hso _ q).1; have := H2.out.2.2.2.2; omega); have s3 := b3.cell 2; simp at s3; have sl3 := b3.lt; have sf3 := b3.free; have HO3 := Lib.hid (And.intro hown3 (And.intro f3 b3)); clear hown3 f3 hk3 b3))
      all_goals
        go_wp2
        have hso3 := HO3.out.1.lt
        have hs22 := H2.out.2.2.2.2
        have fz : Fr (fun b => b = T + 1) w2 (w3.setCell ⟨T + 1, 2, none⟩ (.slice (some ⟨g', 0, none⟩) (k + 1) cap')) := (Fr.trans (S := fun b => b = T + 1) (w1 := w3) (Fr.trans (S := fun b => b = T + 1) (w1 := wr.drew) HS.out.2.2.drew HO3.out.2.1 (fun q hq e => by have := (hso q e).1; omega)) (Fr.set (S := fun b => b = T + 1) (Fr.refl _ _) _ _ (fun _ => rfl)) (fun _ _ q => q))
        go_roundg (4 + nc - (k + 1))
        case rel =>
          refine ⟨k + 1, _, rfl, by omega, by simp, Lib.hid ⟨HO3.out.2.2.put rfl, ?_, fz⟩⟩
          rw [List.take_succ_eq_append_getElem hkC, HX.out, strC_snoc]
          exact owns_frS HO3.out.1 (Fr.set (S := fun b => b = T + 1) (Fr.refl _ _) ⟨T + 1, 2, none⟩ _ (fun _ => rfl)) (fun q e e2 => by have := (hso3 q e).1; have e3 : q = T + 1 := e2; omega)
        case measure => omega
    · have j1 : ¬ (k : Int) < ((4 + nc : Nat) : Int) := by omega
      have ek : k = 4 + nc := by omega
      obtain ⟨s1, hs1⟩ : ∃ s1, twF (consN m) (0, []) = s1 := ⟨_, rfl⟩
      obtain ⟨s2, hs2⟩ : ∃ s2, twF (nmB m.binds) s1 = s2 := ⟨_, rfl⟩
      obtain ⟨s3, hs3⟩ : ∃ s3, (if mainN ∈ nmB m.binds then s2 else fltS s2 10 mainN) = s3 := ⟨_, rfl⟩
      have hres : scB (consN m) m.binds (nmB m.binds) s3 = (RE, RN) := by
        rw [← HM.out.2.2.2.1, ← hs3, ← hs2, ← hs1]
        rfl
      have hnm : (nmB m.binds).length = nb := by simp [nmB, HM.out.1.2.2.2]
      have hown : wr.ownsRow w2.heap.size 9 1 u (consN m).length (strC (consN m)) := by
        have h := HS.out.2.1
        rw [ek, List.take_of_length_le (by rw [HM.out.2.2.2.2.1]; exact Nat.le_refl _)] at h
        rw [HM.out.2.2.2.2.1]
        exact h
      obtain ⟨ua, uc, eu⟩ := owns_shape hown
      subst eu
      have hs22 := H2.out.2.2.2.2
      have hcr : RowS (fun b => b = T + 1) wr (.slice ua (consN m).length uc) (consN m) := RowS.of_own hown (fun b q => by omega)
      have hsa : SAt wr (T + 1) (consN m) (0, []) := ⟨_, HS.out.1, hcr⟩
      have hF2 : Fr (fun b => b = T + 1) w wr := (Fr.of_nil H2.out.2.2.2.1).comp HS.out.2.2
      have hbm := HS.out.2.2.blk H2.out.2.2.1 (show ¬ (fun b => b = T + 1) T by simp)
      have HN := Lib.hid (And.intro hs1 (And.intro hs2 (And.intro hs3 (And.intro hres hnm))))
      have H3 := Lib.hid (And.intro hsa (And.intro hcr (And.intro hF2 hbm)))
      have hmn : ∀ w', Fr (fun b => b = T + 1) w w' → ModV (fun b => w.heap.size ≤ b) w' c1 nc c2 b1 nb b2 m := fun w' f => HM.out.1.fr f (fun b q => by omega)
      have HMN := Lib.hid hmn
      rw [HM.out.2.2.2.2.1] at s0
      clear HS hs1 hs2 hs3 hres hnm hown hcr hsa hF2 hbm hmn hlt hk
      subst ek
      go_wp2_with fail
      have htw := twice_any H3.out.1 H3.out.2.1 (by rw [HM.out.2.2.2.2.1]; omega)
      rw [HM.out.2.2.2.2.1] at htw
      refine htw.mono ?_
      rintro e w3 ⟨rfl, h3, f3⟩
      rw [HN.out.1] at h3
      have b3 := f3.blk H3.out.2.2.2 (show ¬ (fun b => b = T + 1) T by simp)
      have t1 := b3.cell 1
      simp at t1
      have tl := b3.lt
      have H4 := Lib.hid (And.intro h3 (And.intro (H3.out.2.2.1.comp f3) b3))
      clear h3 f3 b3 htw s0 sl sf
      go_wp2_with fail
      refine (names10_any (HMN.out _ H4.out.2.1).2.2.1 (by have := HM.out.2.2.1; omega)).mono ?_
      rintro e w4 ⟨v4, rfl, own4, f4⟩
      obtain ⟨ga, gc, rfl⟩ := owns_shape own4
      have hsz3 := H4.out.1.lt
      have r4 : RowS (fun b => b = T + 1) w4 (.slice ga nb gc) (nmB m.binds) := by
        have h : RowS (fun b => b = T + 1) w4 _ (nmB m.binds) := RowC.mono (owns_row own4) (by decide) (fun b _ q => by have q' : b = T + 1 := q; omega)
        rw [HN.out.2.2.2.2] at h
        exact h
      rw [HN.out.2.2.2.2]
      have H5 := Lib.hid (And.intro (H4.out.1.fr f4) (And.intro r4 (And.intro (H4.out.2.1.comp (Fr.of_nil (S := fun b => b = T + 1) f4)) (f4.blk H4.out.2.2 (fun q => q)))))
      clear own4 f4 r4 t1 tl
      go_wp2_with fail
      refine (twice_any H5.out.1 H5.out.2.1 (by rw [HN.out.2.2.2.2]; omega)).mono ?_
      rintro e w5 ⟨rfl, h5, f5⟩
      rw [HN.out.2.1] at h5
      have H6 := Lib.hid (And.intro h5 (And.intro (RowS.fr H5.out.2.1 f5 (fun _ q => q)) (And.intro (H5.out.2.2.1.comp f5) (f5.blk H5.out.2.2.2 (show ¬ (fun b => b = T + 1) T by simp)))))
      clear h5 f5
      go_wp2_with fail
      have hin := in_any mainN H6.out.2.1
      by_cases hmain : mainN ∈ nmB m.binds
      · rw [decide_eq_true hmain] at hin
        have hs3 := HN.out.2.2.1
        rw [if_pos hmain] at hs3
        have HS3 := Lib.hid hs3
        clear hmain hs3
        refine hin.mono ?_
        rintro e w6 ⟨rfl, f6⟩
        have H7 := Lib.hid (And.intro (show SAt w6 (T + 1) (consN m) s3 by rw [← HS3.out]; exact H6.out.1.fr f6) (And.intro (RowS.fr H6.out.2.1 f6 (fun _ q => q.elim)) (And.intro (H6.out.2.2.1.comp (Fr.of_nil (S := fun b => b = T + 1) f6)) (f6.blk H6.out.2.2.2 (fun q => q)))))
        clear f6 hin
        have t1 := H7.out.2.2.2.cell 1
        simp at t1
        have tl := H7.out.2.2.2.lt
        go_wp2_with fail
        obtain ⟨cs, hb1, hb2⟩ := (HMN.out _ H7.out.2.2.1).2.2.1
        have hbd := sbinds_any (bs := m.binds) (bc := cs) (fun b _ => sc_all (szE b.body) b.body (Nat.le_refl _)) H7.out.1 (RowC.mono (Y := fun b => b = T + 1) (by rw [HM.out.1.2.2.2]; exact (by rw [HM.out.1.2.2.2] at hb1; exact hb1)) (by decide) (fun b _ q => by omega)) (fun j hj => lawB.mono (hb2 j hj) (fun b _ q => by omega)) H7.out.2.1 (by rw [HN.out.2.2.2.2]; have := HM.out.1.2.2.2; have := HM.out.2.2.1; omega)
        rw [HN.out.2.2.2.1] at hbd
        refine hbd.mono ?_
        rintro e w7 ⟨rfl, h7, f7⟩
        have H8 := Lib.hid (H7.out.2.2.1.comp f7)
        obtain ⟨cv, hb7, _⟩ := h7.b
        have z0 := hb7.cell 0
        have z1 := hb7.cell 1
        simp at z0 z1
        have zl := hb7.lt
        clear hbd hb1 hb2 t1 tl h7 f7 hb7
        go_wp2_with fail
        go_quiet (fail)
        go_wp2
        (try simp only [Exit.inBlock, Exit.then])
        refine bodyPost_ret (v := .tuple #[.int .i64 (RE : Int), .string ⟨RN.toArray⟩]) (by simp [results, Try.results17, go_sem, *]) rfl ?_
        exact ⟨rfl, (H8.out.comp (by (repeat (first | (with_reducible exact Fr.refl _ _) | (with_reducible assumption) | (with_reducible exact Fr.of_nil (by assumption)) | (with_reducible refine Fr.drew ?_) | (with_reducible refine Fr.drewN ?_ _) | (with_reducible refine Fr.alloc ?_ _) | (with_reducible refine Fr.set ?_ _ _ (by first | (intro _; exact rfl) | (intro _; exact .inl rfl) | (intro _; exact .inr rfl) | (intro q; exact absurd q (Nat.lt_irrefl _)) | (intro q; simp at q; omega))) | (with_reducible refine Fr.via ?_ (by assumption)) | (with_reducible refine Fr.comp ?_ (by assumption)))))).mono (fun b hb q => by omega)⟩
      · rw [decide_eq_false hmain] at hin
        have hs3 := HN.out.2.2.1
        rw [if_neg hmain] at hs3
        have HS3 := Lib.hid hs3
        clear hmain hs3
        refine hin.mono ?_
        rintro e w55 ⟨rfl, f55⟩
        have H66 := Lib.hid (And.intro (H6.out.1.fr f55) f55)
        clear f55 hin
        go_wp2_with fail
        refine (fault_any H66.out.1 10 mainN).mono ?_
        rintro e w6 ⟨rfl, h6, f6⟩
        rw [HS3.out] at h6
        have f6' : Fr (fun b => b = T + 1) w5 w6 := (Fr.of_nil (S := fun b => b = T + 1) H66.out.2).comp f6
        have H7 := Lib.hid (And.intro h6 (And.intro (RowS.fr H6.out.2.1 f6' (fun _ q => q)) (And.intro (H6.out.2.2.1.comp f6') (f6'.blk H6.out.2.2.2 (show ¬ (fun b => b = T + 1) T by simp)))))
        clear h6 f6 f6'
        have t1 := H7.out.2.2.2.cell 1
        simp at t1
        have tl := H7.out.2.2.2.lt
        go_wp2_with fail
        obtain ⟨cs, hb1, hb2⟩ := (HMN.out _ H7.out.2.2.1).2.2.1
        have hbd := sbinds_any (bs := m.binds) (bc := cs) (fun b _ => sc_all (szE b.body) b.body (Nat.le_refl _)) H7.out.1 (RowC.mono (Y := fun b => b = T + 1) (by rw [HM.out.1.2.2.2]; exact (by rw [HM.out.1.2.2.2] at hb1; exact hb1)) (by decide) (fun b _ q => by omega)) (fun j hj => lawB.mono (hb2 j hj) (fun b _ q => by omega)) H7.out.2.1 (by rw [HN.out.2.2.2.2]; have := HM.out.1.2.2.2; have := HM.out.2.2.1; omega)
        rw [HN.out.2.2.2.1] at hbd
        refine hbd.mono ?_
        rintro e w7 ⟨rfl, h7, f7⟩
        have H8 := Lib.hid (H7.out.2.2.1.comp f7)
        obtain ⟨cv, hb7, _⟩ := h7.b
        have z0 := hb7.cell 0
        have z1 := hb7.cell 1
        simp at z0 z1
        have zl := hb7.lt
        clear hbd hb1 hb2 t1 tl h7 f7 hb7
        go_wp2_with fail
        go_quiet (fail)
        go_wp2
        (try simp only [Exit.inBlock, Exit.then])
        refine bodyPost_ret (v := .tuple #[.int .i64 (RE : Int), .string ⟨RN.toArray⟩]) (by simp [results, Try.results17, go_sem, *]) rfl ?_
        exact ⟨rfl, (H8.out.comp (by (repeat (first | (with_reducible exact Fr.refl _ _) | (with_reducible assumption) | (with_reducible exact Fr.of_nil (by assumption)) | (with_reducible refine Fr.drew ?_) | (with_reducible refine Fr.drewN ?_ _) | (with_reducible refine Fr.alloc ?_ _) | (with_reducible refine Fr.set ?_ _ _ (by first | (intro _; exact rfl) | (intro _; exact .inl rfl) | (intro _; exact .inr rfl) | (intro q; exact absurd q (Nat.lt_irrefl _)) | (intro q; simp at q; omega))) | (with_reducible refine Fr.via ?_ (by assumption)) | (with_reducible refine Fr.comp ?_ (by assumption)))))).mono (fun b hb q => by omega)⟩
end
end Go.Proofs.Ythpenpgcacikaaa
