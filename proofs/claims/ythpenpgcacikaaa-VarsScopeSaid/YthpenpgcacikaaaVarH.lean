/-
  What a source tells (layers 8, 12): its trees have the parts of their kinds, and names no longer than it. No conditions.
  The bodies of a source's binds; the document's example (layer 12). Conditions: a source of at most 1000000 bytes.
-/
import Derived.Test.YthpenpgcacikaaaVar14
import Derived.Test.YthpenpgcacikaaaVarG
namespace Go.Proofs.Ythpenpgcacikaaa
set_option linter.unusedSimpArgs false
set_option linter.unusedVariables false
open Go.RowKit

theorem lexG_texts (B : Nat) (f : Nat) (acc : List TokV) (l : List UInt8) (ln : Nat) (hB : l.length ≤ B) (ha : ∀ t ∈ acc, t.text.length ≤ B) : ∀ t ∈ (lexG f acc l ln).toks, t.text.length ≤ B := by
  induction f generalizing acc l ln with
  | zero => exact ha
  | succ f ih =>
    by_cases hl : l = []
    · subst hl; rw [lexG_end]; exact ha
    · by_cases he : (oneF l ln).2 = 0
      · by_cases hf : acc.length = 4096
        · rw [lexG_full hl he hf]
          exact fun t ht => by simp at ht
        · rw [lexG_more hl he hf]
          have h1 := skipF_len false (l.drop (oneF l ln).1.text.length) ln
          rw [List.length_drop] at h1
          have h2 := (oneF_pre l ln he).1.length_le
          refine ih _ _ _ (by omega) (fun t ht => ?_)
          rcases List.mem_append.1 ht with q | q
          · exact ha t q
          · obtain rfl : t = (oneF l ln).1 := by simpa using q
            omega
      · rw [lexG_bad hl he]
        exact fun t ht => by simp at ht
theorem lexF_texts (s : List UInt8) : ∀ t ∈ (lexF s).toks, t.text.length ≤ s.length := by
  unfold lexF
  exact lexG_texts s.length _ [] _ _ (skipF_len _ _ _) (fun t ht => by simp at ht)
section
variable {L : List TokV}
theorem isT_le {B : Nat} (hL : ∀ t ∈ L, t.text.length ≤ B) {k : Int} {n : List UInt8} (h : isT L k n) : n.length ≤ B := by
  obtain ⟨t, ht, _, rfl⟩ := h
  exact hL t ht
mutual
theorem wf_ok {B : Nat} (hM : B ≤ maxLen) (hL : ∀ t ∈ L, t.text.length ≤ B) : ∀ e : TE, wfE L e → okE e ∧ vsE e
  | .mk k n fl bi ps ks bs al, h => by
    unfold wfE at h
    obtain ⟨hs, hk, hb, ha⟩ := h
    have ik := wf_okK hM hL ks hk
    have ib := wf_okB hM hL bs hb
    have ia := wf_okA hM hL al ha
    have hz : ([] : List UInt8).length ≤ maxLen := Nat.zero_le _
    have hp0 : ∀ x ∈ ([] : List (List UInt8)), x.length ≤ maxLen := fun x hx => by simp at hx
    unfold okE vsE
    unfold shE at hs
    rcases hs with ⟨rfl, q, _, _, rfl, rfl, rfl, rfl⟩ | ⟨rfl, q, _, _, rfl, rfl, rfl⟩ | ⟨rfl, rfl, _, rfl, rfl, rfl, rfl⟩ | ⟨rfl, rfl, _, _, _, rfl, rfl, rfl⟩ | ⟨rfl, q, _, _, rfl, rfl, rfl⟩ | ⟨rfl, rfl, _, _, _, _, rfl, rfl⟩ | ⟨rfl, rfl, _, _, _, rfl, rfl⟩ | ⟨rfl, rfl, _, _, _, _, q, rfl, rfl⟩
    · exact ⟨⟨Nat.le_trans (isT_le hL q) hM, hp0, ik.1, ib.1, ia.1⟩, .inl rfl, ik.2, ib.2, ia.2⟩
    · exact ⟨⟨Nat.le_trans (isT_le hL q) hM, hp0, ik.1, ib.1, ia.1⟩, .inr (.inr (.inr ⟨by omega, by omega, by omega, rfl, rfl⟩)), ik.2, ib.2, ia.2⟩
    · exact ⟨⟨hz, hp0, ik.1, ib.1, ia.1⟩, .inr (.inr (.inr ⟨by omega, by omega, by omega, rfl, rfl⟩)), ik.2, ib.2, ia.2⟩
    · exact ⟨⟨hz, hp0, ik.1, ib.1, ia.1⟩, .inr (.inr (.inr ⟨by omega, by omega, by omega, rfl, rfl⟩)), ik.2, ib.2, ia.2⟩
    · refine ⟨⟨?_, hp0, ik.1, ib.1, ia.1⟩, .inr (.inr (.inr ⟨by omega, by omega, by omega, rfl, rfl⟩)), ik.2, ib.2, ia.2⟩
      rcases q with q | q
      · exact Nat.le_trans (isT_le hL q) hM
      · exact Nat.le_trans (isT_le hL q.1) hM
    · exact ⟨⟨hz, hp0, ik.1, ib.1, ia.1⟩, .inr (.inl ⟨rfl, rfl, rfl⟩), ik.2, ib.2, ia.2⟩
    · exact ⟨⟨hz, hp0, ik.1, ib.1, ia.1⟩, .inr (.inr (.inr ⟨by omega, by omega, by omega, rfl, rfl⟩)), ik.2, ib.2, ia.2⟩
    · exact ⟨⟨hz, fun x hx => Nat.le_trans (isT_le hL (q x hx)) hM, ik.1, ib.1, ia.1⟩, .inr (.inr (.inl ⟨rfl, rfl, rfl⟩)), ik.2, ib.2, ia.2⟩
theorem wf_okK {B : Nat} (hM : B ≤ maxLen) (hL : ∀ t ∈ L, t.text.length ≤ B) : ∀ l : List TE, wfK L l → okK l ∧ vsK l
  | [], _ => ⟨trivial, trivial⟩
  | e :: l, h => by
    unfold wfK at h
    have h1 := wf_ok hM hL e h.1
    have h2 := wf_okK hM hL l h.2
    exact ⟨⟨h1.1, h2.1⟩, h1.2, h2.2⟩
theorem wf_okB {B : Nat} (hM : B ≤ maxLen) (hL : ∀ t ∈ L, t.text.length ≤ B) : ∀ l : List TB, wfB L l → okB l ∧ vsB l
  | [], _ => ⟨trivial, trivial⟩
  | .mk n p e :: l, h => by
    unfold wfB at h
    have h1 := wf_ok hM hL e h.1.2.2
    have h2 := wf_okB hM hL l h.2
    exact ⟨⟨⟨Nat.le_trans (isT_le hL h.1.1) hM, fun x hx => Nat.le_trans (isT_le hL (h.1.2.1 x hx)) hM, h1.1⟩, h2.1⟩, h1.2, h2.2⟩
theorem wf_okA {B : Nat} (hM : B ≤ maxLen) (hL : ∀ t ∈ L, t.text.length ≤ B) : ∀ l : List TA, wfA L l → okA l ∧ vsA l
  | [], _ => ⟨trivial, trivial⟩
  | .mk k n f b p e :: l, h => by
    unfold wfA at h
    have h1 := wf_ok hM hL e h.1.2
    have h2 := wf_okA hM hL l h.2
    refine ⟨⟨⟨?_, ?_, h1.1⟩, h2.1⟩, h1.2, h2.2⟩
    · rcases h.1.1 with q | q | q
      · exact Nat.le_trans (isT_le hL q.2.1) hM
      · rw [q.2.1]; exact Nat.zero_le _
      · exact Nat.le_trans (isT_le hL q.2.1) hM
    · rcases h.1.1 with q | q | q
      · exact fun x hx => Nat.le_trans (isT_le hL (q.2.2.2.2 x hx)) hM
      · rw [q.2.2.2]; exact fun x hx => by simp at hx
      · rw [q.2.2.2.2]; exact fun x hx => by simp at hx
end
end
theorem vsB_mem : ∀ {bs : List TB} {b : TB}, vsB bs → b ∈ bs → vsE b.body
  | .mk n p e :: l, b, h, hm => by
    unfold vsB at h
    rcases List.mem_cons.1 hm with q | q
    · exact q ▸ h.1
    · exact vsB_mem h.2 q
theorem wtB_mem : ∀ {bs : List TB} {b : TB}, b ∈ bs → wtE b.body + b.params.length ≤ wtB bs
  | .mk n p e :: l, b, hm => by
    unfold wtB
    rcases List.mem_cons.1 hm with q | q
    · subst q
      show wtE e + p.length ≤ _
      omega
    · have := wtB_mem q
      omega
/-- What a source of at most so many bytes tells. -/
structure SrcOk (bs : List TB) : Prop where
  len : bs.length ≤ 4096
  ok : ∀ b ∈ bs, okE b.body ∧ vsE b.body ∧ wtE b.body + b.params.length ≤ 4096 ∧ (∀ x ∈ b.params, x.length ≤ maxLen) ∧ b.name.length ≤ maxLen
theorem parse_src (s : List UInt8) (hs : s.length ≤ maxLen) : SrcOk (parseF s).1.binds := by
  have h := parse_ok s
  have hl := lexF_size8 s
  have hb := wf_okB hs (lexF_texts s) _ h.1
  have hn := nmB_le (parseF s).1.binds
  refine ⟨by simp [nmB] at hn; omega, fun b hm => ?_⟩
  have h1 := okB_mem hb.1 hm
  have h2 := wtB_mem hm
  exact ⟨h1.2.2, vsB_mem hb.2 hm, by omega, h1.2.1, h1.1⟩
end Go.Proofs.Ythpenpgcacikaaa

namespace Go.Proofs.Ythpenpgcacikaaa
set_option linter.unusedSimpArgs false
set_option linter.unusedVariables false
open Go.RowKit

/-- Binds as they lie in a row. -/
def BindsAt (X : Nat → Prop) (w : World) (v : Value) (bs : List TB) : Prop := ∃ cs, RowC X w v bs.length 10 cs ∧ ∀ i (h : i < bs.length), BAt X w (cs i) bs[i]
theorem BindsAt.fr {X S : Nat → Prop} {w w' : World} {v : Value} {bs : List TB} (h : BindsAt X w v bs) (f : Fr S w w') (hs : ∀ b, S b → X b) : BindsAt X w' v bs := by
  obtain ⟨cs, h1, h2⟩ := h
  exact ⟨cs, h1.fr f hs, fun i hi => lawB.fr (h2 i hi) f hs⟩
theorem BindsAt.nocare {X : Nat → Prop} {w : World} {v : Value} {bs : List TB} (h : BindsAt X w v bs) : BindsAt (fun _ => False) w v bs := by
  obtain ⟨cs, h1, h2⟩ := h
  exact ⟨cs, h1.mono (by decide) (fun _ _ q => q.elim), fun i hi => lawB.mono (h2 i hi) (fun _ _ q => q.elim)⟩
theorem BindsAt.shape {X : Nat → Prop} {w : World} {v : Value} {bs : List TB} (h : BindsAt X w v bs) : ∃ a cap, v = .slice a bs.length cap := by
  obtain ⟨cs, h1, h2⟩ := h
  exact h1.shape
/-- A bind of a row, cell by cell. -/
theorem BindsAt.at {w : World} {a : Option Addr} {n cap : Nat} {bs : List TB} (h : BindsAt (fun _ => False) w (.slice a n cap) bs) {i : Nat} (hi : i < bs.length) : ∃ (b off : Nat) (pa : Option Addr) (pn pc : Nat) (c : List Value), a = some ⟨b, off, none⟩ ∧ b < w.heap.size ∧ FormE c ∧ RowS (fun _ => False) w (.slice pa pn pc) bs[i].params ∧ EAt (fun _ => False) w c bs[i].body ∧ pn = bs[i].params.length ∧
    ∀ w', Fr Nil w w' → w'.cell? ⟨b, off + i * 10, none⟩ = some (.string ⟨bs[i].name.toArray⟩) ∧ w'.cell? ⟨b, off + i * 10 + 1, none⟩ = some (.slice pa pn pc) ∧ ∀ j u, c[j]? = some u → w'.cell? ⟨b, off + i * 10 + 2 + j, none⟩ = some u := by
  obtain ⟨cs, h1, h2⟩ := h
  obtain ⟨a1, cap1, e, _, _, hc0⟩ := h1
  cases e
  obtain ⟨b, off, rfl, _, hl, hc⟩ := hc0 i hi
  obtain ⟨pn, c, ec, hr, he⟩ := h2 i hi
  obtain ⟨pa, pc, rfl⟩ := RowC.shape hr
  rw [ec] at hc
  refine ⟨b, off, pa, _, pc, c, rfl, World.block_lt_of_cell? _ _ (hc 0 _ rfl), he.formE, hr, he, rfl, fun w' f => ⟨f.cell (hc 0 _ rfl) (fun q => q), f.cell (hc 1 _ rfl) (fun q => q), fun j u hj => ?_⟩⟩
  have := hc (j + 2) u (by simpa using hj)
  rw [show off + i * 10 + (j + 2) = off + i * 10 + 2 + j by omega] at this
  exact f.cell this (fun q => q)
theorem RowS.of_blk {X : Nat → Prop} {w : World} {b : Nat} {l : List (List UInt8)} {t : TypeId} (h : Blk w b (strC l).toArray t) (hl : l.length ≤ maxLen) (hX : ¬ X b) : RowS X w (.slice (some ⟨b, 0, none⟩) l.length l.length) l :=
  ⟨_, _, rfl, Nat.le_refl _, hl, fun i hi => ⟨b, 0, rfl, hX, rfl, fun j u hj => by
    cases j with
    | succ j => simp at hj
    | zero =>
      simp at hj
      subst hj
      rw [h.cell]
      simp [strC, hi]⟩⟩
theorem awake_src : (parseF [109, 32, 61, 32, 92, 120, 32, 45, 62, 32, 102, 32, 120, 32, 40, 103, 32, 121, 41, 59]).1.binds = [.mk [109] [] (.mk 8 [] false 0 [[120]] [.mk 4 [] false 0 [] [.mk 1 [102] false 0 [] [] [] [], .mk 1 [120] false 0 [] [] [] [], .mk 4 [] false 0 [] [.mk 1 [103] false 0 [] [] [] [], .mk 1 [121] false 0 [] [] [] []] [] []] [] []] [] [])] := by kernel_rfl
set_option maxRecDepth 100000 in
theorem told_any (s : ByteArray) (w : World) (hs : s.size ≤ 1000000) :
    Calls Try.prog 9 #[.string s] w fun r w' => ∃ v, r = .returned v ∧ BindsAt (fun _ => False) w' v (parseF s.data.toList).1.binds ∧ Fr Nil w w' := by
  have HP := rparse_src s w hs
  obtain ⟨⟨M, E1, E2⟩, hM⟩ : ∃ M, parseF s.data.toList = M := ⟨_, rfl⟩
  rw [hM] at HP ⊢
  have HP := Lib.hid HP
  clear hM
  go_enter Try.func9, Try.ntmps9
  go_wp2_with fail
  refine HP.out.mono ?_
  rintro e w1 ⟨v, rfl, hm, f1⟩
  obtain ⟨cv, bv, cs, bs, rfl, h1, h2, h3, h4⟩ := hm
  obtain ⟨c1, c2, rfl⟩ := h1.shape
  obtain ⟨b1, b2, rfl⟩ := h3.shape
  have hb : BindsAt (fun _ => False) w1 (.slice b1 M.binds.length b2) M.binds := ⟨bs, h3.mono (by decide) (fun _ _ q => q.elim), fun i hi => lawB.mono (h4 i hi) (fun _ _ q => q.elim)⟩
  have HB : Hid (∀ wf, Fr Nil w1 wf → BindsAt (fun _ => False) wf (.slice b1 M.binds.length b2) M.binds ∧ Fr Nil w wf) := Lib.hid (fun wf g => ⟨hb.fr g (fun _ q => q.elim), f1.comp g⟩)
  clear h1 h2 h3 h4 f1 HP hb
  generalize M.cons.length = n1
  obtain ⟨n2, hn2⟩ : ∃ n2, M.binds.length = n2 := ⟨_, rfl⟩
  rw [hn2] at HB ⊢
  clear hn2
  go_wp2
  go_ret
  exact ⟨_, rfl, HB.out _ (by (repeat (first | (with_reducible exact Fr.refl _ _) | (with_reducible assumption) | (with_reducible exact Fr.of_nil (by assumption)) | (with_reducible refine Fr.drew ?_) | (with_reducible refine Fr.drewN ?_ _) | (with_reducible refine Fr.alloc ?_ _) | (with_reducible refine Fr.set ?_ _ _ (by first | (intros; omega) | (simp; done) | (simp; omega))) | (with_reducible refine Fr.via ?_ (by assumption)) | (with_reducible refine Fr.comp ?_ (by assumption)))))⟩
theorem awake_any (w : World) :
    Calls Try.prog 8 #[] w fun r w' => r = .returned (.bool true) ∧ Fr Nil w w' := by
  have HT := told_any ⟨#[109, 32, 61, 32, 92, 120, 32, 45, 62, 32, 102, 32, 120, 32, 40, 103, 32, 121, 41, 59]⟩ w (by decide)
  rw [show (parseF (ByteArray.mk #[109, 32, 61, 32, 92, 120, 32, 45, 62, 32, 102, 32, 120, 32, 40, 103, 32, 121, 41, 59]).data.toList).1.binds = _ from awake_src] at HT
  have HT := Lib.hid HT
  go_enter Try.func8, Try.ntmps8
  go_wp2_with fail
  refine HT.out.mono ?_
  rintro e w1 ⟨v, rfl, hb, f1⟩
  obtain ⟨a, cap, rfl⟩ := hb.shape
  obtain ⟨b, off, pa, pn, pc, c, rfl, hlt, hfo, hr, he, hpn, hc⟩ := hb.at (i := 0) (by simp)
  have HE := Lib.hid (And.intro he f1)
  have HFO := Lib.hid hfo
  obtain ⟨k, nm, fl, bi, a0, n0, c0, a1, n1, c1, a2, n2, c2, a3, n3, c3, rfl⟩ := hfo
  obtain ⟨_, _, hc2⟩ := hc w1 (Fr.refl _ _)
  have p0 := hc2 0 _ rfl
  have p1 := hc2 1 _ rfl
  have p2 := hc2 2 _ rfl
  have p3 := hc2 3 _ rfl
  have p4 := hc2 4 _ rfl
  have p5 := hc2 5 _ rfl
  have p6 := hc2 6 _ rfl
  have p7 := hc2 7 _ rfl
  simp only [Nat.add_zero, Nat.zero_mul] at p0 p1 p2 p3 p4 p5 p6 p7
  clear hc hc2 he f1 hb hr hpn
  simp only [List.length_singleton]
  go_wp2_with fail
  have hok := (parse_src [109, 32, 61, 32, 92, 120, 32, 45, 62, 32, 102, 32, 120, 32, 40, 103, 32, 121, 41, 59] (by decide)).ok
  rw [awake_src] at hok
  have hok := hok _ (List.mem_singleton.2 rfl)
  have HF := free_any HE.out.1 hok.1 (Nat.le_trans (Nat.le_of_add_right_le hok.2.2.1) (by decide))
  rw [show uniq (occE _ []) = [[102], [103], [121]] from by kernel_rfl] at HF
  refine HF.mono ?_
  rintro e w2 ⟨v2, rfl, own, f2⟩
  obtain ⟨va, vc, rfl⟩ := owns_shape own
  simp only [List.length_cons, List.length_nil] at own ⊢
  have HO := Lib.hid (And.intro (owns_row (l := [[102], [103], [121]]) own) f2)
  clear own f2 hok HF
  go_wp2_with fail
  have hb2 := Blk.new w2 (strC [[102], [103], [121]]).toArray 9
  have hT := texts_any (RowS.fr HO.out.1 (S := Nil) (w' := w2.alloc (.cells (strC [[102], [103], [121]]).toArray 9)) (by (repeat (first | (with_reducible exact Fr.refl _ _) | (with_reducible assumption) | (with_reducible exact Fr.of_nil (by assumption)) | (with_reducible refine Fr.drew ?_) | (with_reducible refine Fr.drewN ?_ _) | (with_reducible refine Fr.alloc ?_ _) | (with_reducible refine Fr.set ?_ _ _ (by first | (intros; omega) | (simp; done) | (simp; omega))) | (with_reducible refine Fr.via ?_ (by assumption)) | (with_reducible refine Fr.comp ?_ (by assumption))))) (fun _ q => q.elim)) (RowS.of_blk (X := fun _ => False) (l := [[102], [103], [121]]) hb2 (by decide) (fun q => q))
  rw [decide_eq_true rfl] at hT
  refine hT.mono ?_
  rintro e w3 ⟨rfl, f3⟩
  have HF3 := Lib.hid (HE.out.2.comp (HO.out.2.comp (Fr.comp (S := Nil) (by (repeat (first | (with_reducible exact Fr.refl _ _) | (with_reducible assumption) | (with_reducible exact Fr.of_nil (by assumption)) | (with_reducible refine Fr.drew ?_) | (with_reducible refine Fr.drewN ?_ _) | (with_reducible refine Fr.alloc ?_ _) | (with_reducible refine Fr.set ?_ _ _ (by first | (intros; omega) | (simp; done) | (simp; omega))) | (with_reducible refine Fr.via ?_ (by assumption)) | (with_reducible refine Fr.comp ?_ (by assumption))))) f3)))
  clear f3 hT hb2
  go_wp2
  go_ret
  exact ⟨rfl, HF3.out⟩
end Go.Proofs.Ythpenpgcacikaaa
