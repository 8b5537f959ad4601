/-
  The law ScopeOrder, walked (layer 10). Conditions: the listed variable errors.errorType.
-/
import Derived.Test.YtpjlibbdngnnnaaDoorL10o
import Derived.BigQuiet
namespace Go.Proofs.YtpjlibbdngnnnaaDoor
set_option linter.unusedSimpArgs false
set_option linter.unusedVariables false
open Go.RowKit

theorem owns_none (w : World) (base size : Nat) (e : TypeId) (h : base ≤ w.heap.size) : (w.alloc (.cells #[] e)).ownsRow base e size (.slice (some ⟨w.heap.size, 0, none⟩) 0 0) 0 [] :=
  World.ownsRow_made w #[] 0 h (by simp) (by simp)
theorem fr_none {w0 w w1 : World} {t : TypeId} (f : Fr Nil w0 w) (g : (w.alloc (.cells #[] t)).grownBy w1 (Value.ownBlock (.slice (some ⟨w.heap.size, 0, none⟩) 0 0))) : Fr Nil w0 w1 :=
  Fr.grown (S := Nil) (f.alloc _) g (fun k q hk => by
    have e : some w.heap.size = some k := q
    injection e with e
    have := f.size
    omega)
theorem okB_app : ∀ (a b : List TB), okB (a ++ b) ↔ okB a ∧ okB b
  | [], b => by simp [okB]
  | .mk n p e :: l, b => by simp [okB, okB_app l b, and_assoc]
theorem wsB_app : ∀ (a b : List TB), wsB (a ++ b) ↔ wsB a ∧ wsB b
  | [], b => by simp [wsB]
  | .mk n p e :: l, b => by simp [wsB, wsB_app l b, and_assoc]
theorem okB_turn {bs : List TB} (h : okB bs) (t : Nat) : okB (bs.drop t ++ bs.take t) := by
  rw [← List.take_append_drop t bs, okB_app] at h
  exact (okB_app _ _).2 ⟨h.2, h.1⟩
theorem wsB_turn {bs : List TB} (h : wsB bs) (t : Nat) : wsB (bs.drop t ++ bs.take t) := by
  rw [← List.take_append_drop t bs, wsB_app] at h
  exact (wsB_app _ _).2 ⟨h.2, h.1⟩
set_option maxRecDepth 100000 in
set_option maxHeartbeats 8000000 in
theorem order10_any (s : ByteArray) (k : Int) (w : World) (hT : ErrT w) :
    Calls Tryd.prog 3 #[.string s, .int .i64 k] w fun r w' => r = .returned (.bool true) ∧ Fr Nil w w' := by
  obtain ⟨i0, hi, hz0, hz1, hz2⟩ := info_parts infoB
  have HT := Lib.hid hT
  by_cases hs : s.size ≤ 3000
  · have q1 : ¬ (3000 : Int) < (s.size : Int) := by omega
    have hS := parse_src s.data.toList (by rw [size_of]; unfold maxLen; omega)
    have hN := parse_named s.data.toList
    obtain ⟨⟨M, E1, E2⟩, hM⟩ : ∃ M, parseF s.data.toList = M := ⟨_, rfl⟩
    have hP := fun w1 => parse_mod s w1 (by omega) hM
    rw [hM] at hS hN
    obtain ⟨nc, hnc⟩ : ∃ nc, M.cons.length = nc := ⟨_, rfl⟩
    obtain ⟨nb, hnb⟩ : ∃ nb, M.binds.length = nb := ⟨_, rfl⟩
    simp only [hnc, hnb] at hP
    have HS := Lib.hid (And.intro hS (And.intro hN (And.intro hP (And.intro hnc hnb))))
    have hS' : SrcOk M := hS
    have hnb9 : nb ≤ 4096 := by have := hS'.len; omega
    clear hS hS' hN hP hM hs hT hnc hnb
    go_enter Tryd.func3, Tryd.ntmps3
    go_wp2_with fail
    refine (awake10_any w HT.out).mono ?_
    rintro e w1 ⟨rfl, f1⟩
    have HF1 := Lib.hid f1
    clear f1
    go_wp2_with fail
    refine (HS.out.2.2.1 w1).mono ?_
    rintro e w2 ⟨ca, cc, ba, bc, rfl, hm, f2⟩
    have H2 := Lib.hid (And.intro hm (HF1.out.comp f2))
    clear hm f2
    obtain ⟨T, hTs⟩ : ∃ T, w2.heap.size = T := ⟨_, rfl⟩
    have hwT : w.heap.size ≤ T := by have := H2.out.2.size; omega
    have HTS := Lib.hid hTs
    by_cases he : E1 = 0
    · subst he
      by_cases hk0 : k < 0
      · go_wp2
        go_ret
        exact ⟨rfl, H2.out.2.comp (by (repeat (first | (with_reducible exact Fr.refl _ _) | (with_reducible assumption) | (with_reducible exact Fr.of_nil (by assumption)) | (with_reducible refine Fr.drew ?_) | (with_reducible refine Fr.drewN ?_ _) | (with_reducible refine Fr.alloc ?_ _) | (with_reducible refine Fr.set ?_ _ _ (by first | (intros; omega) | (simp; done) | (simp; omega))) | (with_reducible refine Fr.via ?_ (by assumption)) | (with_reducible refine Fr.comp ?_ (by assumption)))))⟩
      obtain ⟨t, rfl⟩ := Int.eq_ofNat_of_zero_le (show 0 ≤ k by omega)
      by_cases htn : t ≤ nb
      · have q3 : ¬ (nb : Int) < (t : Int) := by omega
        have q5 : (t : Int) ≤ (nb : Int) := by omega
        have q4 : (0 : Int) ≤ (t : Int) := by omega
        go_upto_region 8 with fail
        try rw [hTs]
        obtain ⟨W3, hW3⟩ : ∃ W3, w2.alloc (.cells #[.slice ca nc cc, .slice ba nb bc] 26) = W3 := ⟨_, rfl⟩
        rw [hW3]
        have f3 : Fr Nil w2 W3 := by rw [← hW3]; (repeat (first | (with_reducible exact Fr.refl _ _) | (with_reducible assumption) | (with_reducible exact Fr.of_nil (by assumption)) | (with_reducible refine Fr.drew ?_) | (with_reducible refine Fr.drewN ?_ _) | (with_reducible refine Fr.alloc ?_ _) | (with_reducible refine Fr.set ?_ _ _ (by first | (intros; omega) | (simp; done) | (simp; omega))) | (with_reducible refine Fr.via ?_ (by assumption)) | (with_reducible refine Fr.comp ?_ (by assumption))))
        have b3 : Blk W3 T #[.slice ca nc cc, .slice ba nb bc] 26 := by rw [← hW3, ← hTs]; exact Blk.new _ _ _
        have hm3 := H2.out.1.fr f3 (fun _ q => q.elim)
        have hck := scheck_any hm3 HS.out.1.cn HS.out.1.ok HS.out.1.ws HS.out.1.cons (by have := HS.out.1.len; omega) (HT.out.fr (H2.out.2.comp f3))
        obtain ⟨⟨RE, RN⟩, hR⟩ : ∃ R, chkF M = R := ⟨_, rfl⟩
        rw [hR] at hck
        have z0 := b3.cell 0
        have z1 := b3.cell 1
        simp at z0 z1
        have zl := b3.lt
        have H3 := Lib.hid (And.intro f3 (And.intro b3 (And.intro hm3 hR)))
        have HK := Lib.hid hck
        clear hW3 f3 b3 hm3 hck hTs hR
        go_wp2_with fail
        refine HK.out.mono ?_
        rintro e w4 ⟨rfl, f4⟩
        have b4 := f4.blk H3.out.2.1 (fun q => q)
        clear z0 z1 zl
        have z0 := b4.cell 0
        have z1 := b4.cell 1
        simp at z0 z1
        have zl := b4.lt
        have H4 := Lib.hid (And.intro (H3.out.1.comp f4) (And.intro b4 (H3.out.2.2.1.fr f4 (fun _ q => q.elim))))
        clear f4 b4 HK
        go_upto_region 10 with fail
        obtain ⟨N, hN⟩ : ∃ N, w4.heap.size = N := ⟨_, rfl⟩
        try rw [hN]
        obtain ⟨W5, hW5⟩ : ∃ W5, w4.alloc (.cells #[.slice ca nc cc, .slice ba nb bc] 26) = W5 := ⟨_, rfl⟩
        rw [hW5]
        have f5 : Fr Nil w4 W5 := by rw [← hW5]; (repeat (first | (with_reducible exact Fr.refl _ _) | (with_reducible assumption) | (with_reducible exact Fr.of_nil (by assumption)) | (with_reducible refine Fr.drew ?_) | (with_reducible refine Fr.drewN ?_ _) | (with_reducible refine Fr.alloc ?_ _) | (with_reducible refine Fr.set ?_ _ _ (by first | (intros; omega) | (simp; done) | (simp; omega))) | (with_reducible refine Fr.via ?_ (by assumption)) | (with_reducible refine Fr.comp ?_ (by assumption))))
        have b5 : Blk W5 N #[.slice ca nc cc, .slice ba nb bc] 26 := by rw [← hW5, ← hN]; exact Blk.new _ _ _
        have bT5 := f5.blk H4.out.2.1 (fun q => q)
        have hm5 := H4.out.2.2.fr f5 (fun _ q => q.elim)
        obtain ⟨cs, hr2, hb5⟩ := H2.out.1.2.2.1
        rw [HS.out.2.2.2.2] at hr2
        have hr5 := hr2.frN (H4.out.1.comp f5)
        have hbc : nb ≤ bc := by
          obtain ⟨a9, c9, e9, h9, _, _⟩ := hr5
          cases e9
          exact h9
        have q6 : (t : Int) ≤ (bc : Int) := by omega
        have hz5 : W5.heap.size = N + 1 := by rw [← hW5, ← hN]; simp
        have hTN : T < N := by omega
        clear z0 z1 zl
        have z1 := bT5.cell 1
        simp at z1
        have zl := bT5.lt
        obtain ⟨A1, hA1⟩ : ∃ A1, (if bc = t then ba else ba.map (·.add (t * 10))) = A1 := ⟨_, rfl⟩
        have hs1 : ∀ W, Fr Nil W5 W → Src W A1 (nb - t) 10 (flatB cs t (nb - t)) := fun W g => by rw [← hA1]; exact src_drop (hr5.frN g) htn
        have hs2 : ∀ W, Fr Nil W5 W → Src W ba t 10 (flatB cs 0 t) := fun W g => src_take (hr5.frN g) htn
        have hfb : ∀ j, j < nb → FormB (cs j) := fun j hj => (hb5 j (by rw [HS.out.2.2.2.2]; exact hj)).formB
        have HX := Lib.hid (And.intro hs1 (And.intro hs2 (And.intro (flatB_one hfb (t := t) (k := nb - t) (by omega)) (flatB_one hfb (t := 0) (k := t) (by omega)))))
        have H5 := Lib.hid (And.intro (H4.out.1.comp f5) (And.intro b5 (And.intro bT5 (And.intro hm5 (And.intro hr5 (And.intro hb5 (And.intro hz5 hA1)))))))
        have b5l := b5.lt
        have b5f := b5.free
        have b51 := b5.cell 1
        simp at b51
        clear hW5 f5 b5 bT5 hm5 hr5 hb5 hs1 hs2 hfb hN
        have HK2 : Hid (∀ w', Fr (fun b => b = N) W5 w' → w'.cell? ⟨T, 1, none⟩ = some (.slice ba nb bc)) := Lib.hid (fun w' f => f.cell z1 (fun q => by have q' : T = N := q; omega))
        go_region_held3 (fun w' => w'.cell? ⟨T, 1, none⟩ = some (.slice ba nb bc)) (with_reducible refine HK2.out _ ?_; first | exact (Fr.of_nil f7).set _ _ (fun _ => rfl) | exact Fr.of_nil (by assumption) | exact Fr.of_nil (by (repeat (first | (with_reducible exact Fr.refl _ _) | (with_reducible assumption) | (with_reducible exact Fr.of_nil (by assumption)) | (with_reducible refine Fr.drew ?_) | (with_reducible refine Fr.drewN ?_ _) | (with_reducible refine Fr.alloc ?_ _) | (with_reducible refine Fr.set ?_ _ _ (by first | (intros; omega) | (simp; done) | (simp; omega))) | (with_reducible refine Fr.via ?_ (by assumption)) | (with_reducible refine Fr.comp ?_ (by assumption)))))) (first
          | (refine step_append_src rfl (.tmp 48) (.tmp 52) 24 rfl (N + 1) 42 i0 (.agg #[.string ⟨#[]⟩, .slice none 0 0, .int .i64 0, .string ⟨#[]⟩, .bool false, .int .u64 0, .slice none 0 0, .slice none 0 0, .slice none 0 0, .slice none 0 0]) 10 176 Tryd.underlying24 hi hz0 hz1 hz2 rfl (by decide) u1 (nb - t) (flatB cs t (nb - t)) (by simp [Act.eval, Act.put]) H6.out.1 ba t bc (flatB cs 0 t) (by simp [Act.eval, Act.put]) (HX.out.2.1 _ f6) HX.out.2.2.2 (by unfold maxLen; omega) (by omega) (by have := f6.size; omega) ?_; intro u2 w7 hown g7 hk7; obtain ⟨ya, yc, rfl⟩ := owns_shape hown; have f7 : Fr Nil W5 w7 := Fr.grown (S := Nil) f6 g7 (fun k q hk => by have := (H6.out.1.lt k q).1; omega); have H7 := Lib.hid (And.intro hown f7); have s7 := f7.blk H5.out.2.1 (fun q => q); have s71 := s7.cell 1; simp at s71; have s7l := s7.lt; have s7f := s7.free; clear hown g7 hk7 s7)
          | (refine step_append_src (w := W5.drew.alloc (.cells #[] 42)) rfl (.tmp 43) (.tmp 47) 24 rfl (N + 1) 42 i0 (.agg #[.string ⟨#[]⟩, .slice none 0 0, .int .i64 0, .string ⟨#[]⟩, .bool false, .int .u64 0, .slice none 0 0, .slice none 0 0, .slice none 0 0, .slice none 0 0]) 10 176 Tryd.underlying24 hi hz0 hz1 hz2 rfl (by decide) (.slice (some ⟨W5.heap.size, 0, none⟩) 0 0) 0 [] (by simp [Act.eval, Act.put]) (owns_none W5.drew (N + 1) 10 _ (by show N + 1 ≤ W5.heap.size; omega)) A1 (nb - t) (bc - t) (flatB cs t (nb - t)) (by simp [Act.eval, Act.put, hA1]) (HX.out.1 _ (by (repeat (first | (with_reducible exact Fr.refl _ _) | (with_reducible assumption) | (with_reducible exact Fr.of_nil (by assumption)) | (with_reducible refine Fr.drew ?_) | (with_reducible refine Fr.drewN ?_ _) | (with_reducible refine Fr.alloc ?_ _) | (with_reducible refine Fr.set ?_ _ _ (by first | (intros; omega) | (simp; done) | (simp; omega))) | (with_reducible refine Fr.via ?_ (by assumption)) | (with_reducible refine Fr.comp ?_ (by assumption)))))) HX.out.2.2.1 (by unfold maxLen; omega) (by omega) (by simp; omega) ?_; intro u1 w6 hown g6 hk6; have H6 := Lib.hid (And.intro (show w6.ownsRow (N + 1) 42 10 u1 (nb - t) (flatB cs t (nb - t)) by rw [Nat.zero_add, List.nil_append] at hown; exact hown) True.intro); have f6 : Fr Nil W5 w6 := fr_none (w := W5.drew) (by (repeat (first | (with_reducible exact Fr.refl _ _) | (with_reducible assumption) | (with_reducible exact Fr.of_nil (by assumption)) | (with_reducible refine Fr.drew ?_) | (with_reducible refine Fr.drewN ?_ _) | (with_reducible refine Fr.alloc ?_ _) | (with_reducible refine Fr.set ?_ _ _ (by first | (intros; omega) | (simp; done) | (simp; omega))) | (with_reducible refine Fr.via ?_ (by assumption)) | (with_reducible refine Fr.comp ?_ (by assumption))))) g6; clear hown g6 hk6))
        rename_i hHeld
        clear hHeld
        have hnn : nb - t + t = nb := by omega
        rw [hnn] at H7
        obtain ⟨W8, hW8⟩ : ∃ W8, w7.setCell ⟨N, 1, none⟩ (.slice ya nb yc) = W8 := ⟨_, rfl⟩
        rw [hW8]
        have f28 : Fr Nil w2 W8 := by
          rw [← hW8]
          exact (H5.out.1.comp H7.out.2).set _ _ (fun q => by
            have := HTS.out
            have q' : N < w2.heap.size := q
            omega)
        have f78 : Fr (fun b => b = N) w7 W8 := by rw [← hW8]; exact (Fr.refl _ _).set _ _ (fun _ => rfl)
        have b8 : Blk W8 N #[.slice ca nc cc, .slice ya nb yc] 26 := by rw [← hW8]; exact (H7.out.2.blk H5.out.2.1 (fun q => q)).put rfl
        have ho8 := owns_frS H7.out.1 f78 (fun q e z => by have z' : q = N := z; have := (H7.out.1.lt q e).1; omega)
        have hlen : (M.binds.drop t ++ M.binds.take t).length = nb := by rw [List.length_append, List.length_drop, List.length_take, HS.out.2.2.2.2]; omega
        have hbt := binds_turn HS.out.2.2.2.2 (H5.out.2.2.2.2.1.lens) H5.out.2.2.2.2.2.1 htn f28 ho8
        have hm8 : ModV (fun _ => False) W8 ca nc cc ya nb yc ⟨M.cons, M.binds.drop t ++ M.binds.take t⟩ := ⟨RowC.frN H2.out.1.1 f28, H2.out.1.2.1, hbt, hlen⟩
        have hwn : (M.binds.drop t ++ M.binds.take t).length + wnB (M.binds.drop t ++ M.binds.take t) ≤ 700000 := by
          have h1 : wnB M.binds = wnB (M.binds.take t) + wnB (M.binds.drop t) := by rw [← wnB_app, List.take_append_drop]
          have h2 := HS.out.1.len
          rw [wnB_app, hlen]
          have := HS.out.2.2.2.2
          omega
        have hck := scheck_any hm8 HS.out.1.cn (okB_turn HS.out.1.ok t) (wsB_turn HS.out.1.ws t) HS.out.1.cons hwn (HT.out.fr (H2.out.2.comp f28))
        obtain ⟨⟨RE2, RN2⟩, hR2⟩ : ∃ R, chkF ⟨M.cons, M.binds.drop t ++ M.binds.take t⟩ = R := ⟨_, rfl⟩
        rw [hR2] at hck
        have hz := turn_zero M t
        rw [hR2, H3.out.2.2.2] at hz
        have hnm := HS.out.2.1
        have hnf := chk_nf M
        rw [H3.out.2.2.2] at hnm hnf
        have HZ := Lib.hid (And.intro hz (And.intro hnm hnf))
        have HK8 := Lib.hid hck
        have H8 := Lib.hid (H2.out.2.comp f28)
        have z8 := b8.cell 0
        have z9 := b8.cell 1
        simp at z8 z9
        have zl8 := b8.lt
        clear hz hnm hnf hck hwn hm8 hbt hlen ho8 b8 f78 f28 hW8 z1 zl hA1 b5l b5f b51 f6 f7 s71 s7l s7f hR2
        go_wp2_with fail
        refine HK8.out.mono ?_
        rintro e w9 ⟨rfl, f9⟩
        have HF9 := Lib.hid (H8.out.comp f9)
        clear f9 z8 z9 zl8
        by_cases hr : RE = 0
        · have hr2 : RE2 = 0 := HZ.out.1.2 hr
          have hrn : RN = [] := by
            have h := HZ.out.2.2 hr
            injection h
          subst hr hr2 hrn
          go_wp2
          go_ret
          exact ⟨rfl, HF9.out⟩
        · have hr2 : RE2 ≠ 0 := fun q => hr (HZ.out.1.1 q)
          have hrn : RN ≠ [] := HZ.out.2.1 hr
          have d1 : ((RE : Int) == 0) = false := by rw [beq_eq_false_iff_ne]; omega
          have d2 : ((RE2 : Int) == 0) = false := by rw [beq_eq_false_iff_ne]; omega
          have d3 : (RN == []) = false := by simpa using hrn
          have e1 : ¬ (RE : Int) = 0 := by omega
          have e2 : ¬ (RE2 : Int) = 0 := by omega
          clear hr hr2
          go_wp2
          go_ret
          exact ⟨rfl, HF9.out⟩
      · have q3 : (nb : Int) < (t : Int) := by omega
        go_wp2
        go_ret
        exact ⟨rfl, H2.out.2.comp (by (repeat (first | (with_reducible exact Fr.refl _ _) | (with_reducible assumption) | (with_reducible exact Fr.of_nil (by assumption)) | (with_reducible refine Fr.drew ?_) | (with_reducible refine Fr.drewN ?_ _) | (with_reducible refine Fr.alloc ?_ _) | (with_reducible refine Fr.set ?_ _ _ (by first | (intros; omega) | (simp; done) | (simp; omega))) | (with_reducible refine Fr.via ?_ (by assumption)) | (with_reducible refine Fr.comp ?_ (by assumption)))))⟩
    · have d3 : (E1 == 0) = false := by simpa using he
      go_wp2
      go_ret
      exact ⟨rfl, H2.out.2.comp (by (repeat (first | (with_reducible exact Fr.refl _ _) | (with_reducible assumption) | (with_reducible exact Fr.of_nil (by assumption)) | (with_reducible refine Fr.drew ?_) | (with_reducible refine Fr.drewN ?_ _) | (with_reducible refine Fr.alloc ?_ _) | (with_reducible refine Fr.set ?_ _ _ (by first | (intros; omega) | (simp; done) | (simp; omega))) | (with_reducible refine Fr.via ?_ (by assumption)) | (with_reducible refine Fr.comp ?_ (by assumption)))))⟩
  · have q1 : (3000 : Int) < (s.size : Int) := by omega
    go_enter Tryd.func3, Tryd.ntmps3
    go_wp2_with fail
    refine (awake10_any w HT.out).mono ?_
    rintro e w1 ⟨rfl, f1⟩
    have HF := Lib.hid f1
    clear f1
    go_wp2
    go_ret
    exact ⟨rfl, HF.out⟩
end Go.Proofs.YtpjlibbdngnnnaaDoor
