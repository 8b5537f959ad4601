/-
  The law ShowParts, walked (layer 9). Conditions: the tables that Go's library reads.
-/
import Derived.Test.YtpjlibbdngnnnaaDoorL09a
namespace Go.Proofs.YtpjlibbdngnnnaaDoor
set_option linter.unusedSimpArgs false
set_option linter.unusedVariables false
open Go.RowKit

theorem RowC.sub1 {X : Nat → Prop} {w : World} {b off n cap size : Nat} {cs : Nat → List Value} (h : RowC X w (.slice (some ⟨b, off, none⟩) n cap) n size cs) {j : Nat} (hj : j < n) {c' : Nat} (h1 : 1 ≤ c') (h2 : c' ≤ maxLen) : RowC X w (.slice (some ⟨b, off + j * size, none⟩) 1 c') 1 size (fun _ => cs j) := by
  obtain ⟨a1, cap1, e, _, _, hc⟩ := h
  cases e
  refine ⟨_, _, rfl, h1, h2, fun i hi => ?_⟩
  obtain rfl : i = 0 := by omega
  obtain ⟨b', off', e, hb, hl, hcell⟩ := hc j hj
  cases e
  refine ⟨b, off + j * size, rfl, hb, hl, fun q u hq => ?_⟩
  rw [Nat.zero_mul, Nat.add_zero]
  exact hcell q u hq
theorem SvM.cons_ {m : TM} (h : SvM m) : SvM ⟨m.cons, []⟩ := ⟨trivial, by show (0 : Nat) ≤ _; omega, h.nm, h.ar, h.len⟩
theorem SvM.bind_ {m : TM} (h : SvM m) {b : TB} (hb : b ∈ m.binds) : SvM ⟨[], [b]⟩ := by
  refine ⟨?_, ?_, fun d hd => by simp at hd, fun d hd => by simp at hd, Nat.zero_le _⟩
  · have := svB_mem h.sv hb
    obtain ⟨n, ps, e⟩ := b
    exact ⟨this, trivial⟩
  · have h1 := zB_mem hb
    have h2 := h.z
    obtain ⟨n, ps, e⟩ := b
    simp only [TB.body, TB.name, TB.params] at h1
    simp only [zB]
    omega
theorem cons_text (m : TM) : swM prF ⟨m.cons, []⟩ = consT m.cons := List.append_nil _
theorem bind_text (b : TB) : swM prF ⟨[], [b]⟩ = swB1 prF b ++ [59, 10] := by
  show [] ++ ((swB1 prF b ++ [59, 10]) ++ []) = _
  simp
set_option maxRecDepth 100000 in
set_option maxHeartbeats 4000000 in
theorem parts9_any (s : ByteArray) (w : World) (hT : Tabs w) :
    Calls Tryd.prog 9 #[.string s] w fun r w' => r = .returned (.bool true) ∧ Fr Nil w w' := by
  have HA := Lib.hid (awake9_any w hT)
  have HT := Lib.hid hT
  clear hT
  by_cases hs : s.size ≤ 5000
  · have q1 : ¬ (5000 : Int) < (s.size : Int) := by omega
    obtain ⟨⟨m, E1, E2⟩, hM⟩ : ∃ M, parseF s.data.toList = M := ⟨_, rfl⟩
    have hsv := src_svm s.data.toList (by rw [size_of]; exact hs)
    rw [hM] at hsv
    obtain ⟨nc, hnc⟩ : ∃ n, m.cons.length = n := ⟨_, rfl⟩
    obtain ⟨nb, hnb⟩ : ∃ n, m.binds.length = n := ⟨_, rfl⟩
    have HP := Lib.hid (fun w' => told9_any s w' (by omega) hM hnc hnb)
    have hsv' : SvM m := hsv
    have HS := Lib.hid (And.intro hsv' (And.intro hnc hnb))
    clear hsv hsv' hM hnc hnb
    go_enter Tryd.func9, Tryd.ntmps9
    go_wp2_with fail
    refine HA.out.mono ?_
    rintro e w1 ⟨rfl, f1⟩
    have HF1 := Lib.hid f1
    clear f1 HA
    go_wp2_with fail
    refine (HP.out w1).mono ?_
    rintro e w2 ⟨ca, cc, ba, bc, rfl, hm, f2⟩
    have H2 := Lib.hid (And.intro hm (HF1.out.comp f2))
    clear hm f2 HP
    obtain ⟨T, hTs⟩ : ∃ T, w2.heap.size = T := ⟨_, rfl⟩
    by_cases he : E1 = 0
    · subst he
      obtain ⟨W3, hW3⟩ : ∃ W3, w2.alloc (.cells #[.slice ca nc cc, .slice ba nb bc] 26) = W3 := ⟨_, rfl⟩
      have f3 : Fr Nil w2 W3 := by rw [← hW3]; (repeat (first | (with_reducible exact Fr.refl _ _) | (with_reducible assumption) | (with_reducible exact Fr.of_nil (by assumption)) | (with_reducible refine Fr.drew ?_) | (with_reducible refine Fr.drewN ?_ _) | (with_reducible refine Fr.alloc ?_ _) | (with_reducible refine Fr.set ?_ _ _ (by first | (intros; omega) | (simp; done) | (simp; omega))) | (with_reducible refine Fr.via ?_ (by assumption)) | (with_reducible refine Fr.comp ?_ (by assumption))))
      have b3 : Blk W3 T #[.slice ca nc cc, .slice ba nb bc] 26 := by rw [← hW3, ← hTs]; exact Blk.new _ _ _
      have hm3 := H2.out.1.fr f3 (fun _ q => q.elim)
      have HK2 : Hid (∀ w', Fr Nil W3 w' → w'.cell? ⟨T, 0, none⟩ = some (.slice ca nc cc) ∧ w'.cell? ⟨T, 1, none⟩ = some (.slice ba nb bc)) := Lib.hid (fun w' f => by
        have b := f.blk b3 (fun q => q)
        have z0 := b.cell 0
        have z1 := b.cell 1
        simp at z0 z1
        exact ⟨z0, z1⟩)
      obtain ⟨cs, hb1, hb2⟩ := hm3.2.2.1
      have hnb' := HS.out.2.2
      rw [hnb'] at hb1
      have hnb9 : nb ≤ 9223372036854775807 := hb1.lenX
      have hbc9 : bc ≤ 9223372036854775807 := hb1.capX
      have hbcn : nb ≤ bc := by
        obtain ⟨_, _, e9, h9, _, _⟩ := hb1
        cases e9
        exact h9
      have H3 := Lib.hid (And.intro (H2.out.2.comp f3) (And.intro hm3 (And.intro (HT.out.fr (H2.out.2.comp f3)) (And.intro hb1 hb2))))
      clear b3 hm3 f3 hb1 hb2 hnb'
      go_upto_region 8 with fail
      try rw [hTs]
      try rw [hW3]
      clear hTs hW3
      obtain ⟨z0, z1⟩ := HK2.out W3 (Fr.refl _ _)
      have zl := World.block_lt_of_cell? _ _ z0
      have hcm : ∀ w', Fr Nil W3 w' → Calls Tryd.prog 19 #[.agg #[.slice ca nc cc, .slice none 0 0]] w' fun r w2 => r = .returned (.string ⟨(consT m.cons).toArray⟩) ∧ Fr Nil w' w2 := fun w' f => by
        rw [← cons_text m]
        exact pmod_any (m := ⟨m.cons, []⟩) ⟨RowC.fr H3.out.2.1.1 f (fun _ q => q.elim), HS.out.2.1, ⟨fun _ => [], .nil, fun i h => absurd h (Nat.not_lt_zero i)⟩, rfl⟩ HS.out.1.cons_ (H3.out.2.2.1.fr f)
      obtain ⟨S0, hS0⟩ : ∃ S0, consT m.cons = S0 := ⟨_, rfl⟩
      rw [hS0] at hcm
      have l0 : S0.length ≤ 504000002 := by
        rw [← hS0]
        by_cases h : m.cons = []
        · rw [h]; decide
        · rw [consT_ne h, List.length_append]
          have := HS.out.1.conL
          simp
          omega
      have hE : (S0 = [] ∧ nc = 0) ∨ (S0 ≠ [] ∧ nc ≠ 0) := by
        by_cases h : m.cons = []
        · refine .inl ⟨by rw [← hS0, h]; rfl, by rw [← HS.out.2.1, h]; rfl⟩
        · refine .inr ⟨by rw [← hS0, consT_ne h]; simp, fun z => h (List.eq_nil_of_length_eq_zero (by rw [HS.out.2.1]; exact z))⟩
      have HC := Lib.hid hcm
      have HS0 := Lib.hid hS0
      clear hcm hS0
      go_wp2_with fail
      refine (HC.out _ (by first | exact Fr.refl _ _ | (repeat (first | (with_reducible exact Fr.refl _ _) | (with_reducible assumption) | (with_reducible exact Fr.of_nil (by assumption)) | (with_reducible refine Fr.drew ?_) | (with_reducible refine Fr.drewN ?_ _) | (with_reducible refine Fr.alloc ?_ _) | (with_reducible refine Fr.set ?_ _ _ (by first | (intros; omega) | (simp; done) | (simp; omega))) | (with_reducible refine Fr.via ?_ (by assumption)) | (with_reducible refine Fr.comp ?_ (by assumption)))))).mono ?_
      rintro r w4 ⟨rfl, f4⟩
      have F4 : Fr Nil W3 w4 := Fr.comp (S := Nil) (by (repeat (first | (with_reducible exact Fr.refl _ _) | (with_reducible assumption) | (with_reducible exact Fr.of_nil (by assumption)) | (with_reducible refine Fr.drew ?_) | (with_reducible refine Fr.drewN ?_ _) | (with_reducible refine Fr.alloc ?_ _) | (with_reducible refine Fr.set ?_ _ _ (by first | (intros; omega) | (simp; done) | (simp; omega))) | (with_reducible refine Fr.via ?_ (by assumption)) | (with_reducible refine Fr.comp ?_ (by assumption))))) f4
      clear f4 z0 z1 zl
      obtain ⟨z0, z1⟩ := HK2.out w4 F4
      have zl := World.block_lt_of_cell? _ _ z0
      have H4 := Lib.hid F4
      clear F4
      rcases hE with ⟨hE1, hE2⟩ | ⟨hE1, hE2⟩
      · subst hE2
        have l0' := l0
        subst hE1
        go_wp2_with fail
        clear z0 z1 zl
        go_loopg [5, 6] nb (fun g sv iv wr => ∃ j : Nat, g = nb - j ∧ j ≤ nb ∧ sv = .string ⟨([] ++ bindsT prF (m.binds.take j)).toArray⟩ ∧ iv = .int .i64 (j : Int) ∧ Hid (Fr Nil W3 wr))
        case atStart => exact ⟨0, rfl, by omega, by rw [List.take_zero]; first | rfl | (show _ = Value.string ⟨([] ++ []).toArray⟩; rw [List.append_nil]), rfl, H4⟩
        case round =>
          obtain ⟨j, rfl, hjn, rfl, rfl, HQ⟩ := hrel
          obtain ⟨Vr, hVr⟩ : ∃ V, V = wr := ⟨_, rfl⟩
          subst hVr
          obtain ⟨z0, z1⟩ := HK2.out Vr HQ.out
          have zl := World.block_lt_of_cell? _ _ z0
          have j0 : (0 : Int) ≤ (j : Int) := by omega
          by_cases hlt : j < nb
          · have hjl : j < m.binds.length := by rw [HS.out.2.2]; exact hlt
            have wk : IntKind.i64.wrap ((j : Int) + 1) = (j : Int) + 1 := by rw [IntKind.wrap_i64]; omega
            have j1 : (j : Int) < (nb : Int) := by omega
            have k1 : (j : Int) ≤ (j : Int) + 1 := by omega
            have k2 : (j : Int) + 1 ≤ (bc : Int) := by omega
            have k3 : (j : Int) ≤ (bc : Int) := by omega
            have k4 : ¬ bc - j = 0 := by omega
            have k5 : ¬ bc = j := by omega
            obtain ⟨b, off, e2, _, _⟩ := H3.out.2.2.2.1.at hlt
            subst e2
            have hbm : ∀ w', Fr Nil W3 w' → Calls Tryd.prog 19 #[.agg #[.slice none 0 0, .slice (some ⟨b, off + j * 10, none⟩) 1 (bc - j)]] w' fun r w2 => r = .returned (.string ⟨(swB1 prF m.binds[j] ++ [59, 10]).toArray⟩) ∧ Fr Nil w' w2 := fun w' f => by
              rw [← bind_text m.binds[j]]
              exact pmod_any (m := ⟨[], [m.binds[j]]⟩) ⟨.nil, rfl, ⟨fun _ => cs j, (H3.out.2.2.2.1.frN f).sub1 hlt (by omega) (by unfold maxLen; omega), fun i hi => by
                obtain rfl : i = 0 := by simp at hi; exact hi
                exact (H3.out.2.2.2.2 j hjl).frN f⟩, rfl⟩ (HS.out.1.bind_ (List.getElem_mem hjl)) (H3.out.2.2.1.fr f)
            have hw := bindsT_take prF hjl
            have h1 := lenS_takeB hjl
            have h3 := HS.out.1.z
            obtain ⟨y, hy⟩ : ∃ y, swB1 prF m.binds[j] = y := ⟨_, rfl⟩
            rw [hy] at hw h1 hbm
            obtain ⟨x, hx⟩ : ∃ x, y ++ [59, 10] = x := ⟨_, rfl⟩
            have lx : x.length = y.length + 2 := by rw [← hx]; simp
            rw [hx] at hbm
            obtain ⟨S, hS⟩ : ∃ x, [] ++ bindsT prF (m.binds.take j) = x := ⟨_, rfl⟩
            have ls : S.length = 0 + (bindsT prF (m.binds.take j)).length := by rw [← hS]; simp
            obtain ⟨S3, hS3⟩ : ∃ y, [] ++ bindsT prF (m.binds.take (j + 1)) = y := ⟨_, rfl⟩
            have e3 : S3 = S ++ x := by rw [← hS3, hw, ← hS, ← hx]; simp
            rw [hS]
            have sa1 : ∀ w, (Op.stringOp .add ⟨S.toArray⟩ ⟨x.toArray⟩).run Tryd.prog w = .ok (.string ⟨S3.toArray⟩) w := fun w => by rw [e3]; exact sadd S x (by omega) w
            have HB := Lib.hid (And.intro hS3 hbm)
            clear hS3 hbm hw h1 h3 hy hx lx hS ls e3
            go_wp2_with fail
            refine (HB.out.2 _ (HQ.out.comp (by first | exact Fr.refl _ _ | (repeat (first | (with_reducible exact Fr.refl _ _) | (with_reducible assumption) | (with_reducible exact Fr.of_nil (by assumption)) | (with_reducible refine Fr.drew ?_) | (with_reducible refine Fr.drewN ?_ _) | (with_reducible refine Fr.alloc ?_ _) | (with_reducible refine Fr.set ?_ _ _ (by first | (intros; omega) | (simp; done) | (simp; omega))) | (with_reducible refine Fr.via ?_ (by assumption)) | (with_reducible refine Fr.comp ?_ (by assumption))))))).mono ?_
            rintro r w5 ⟨rfl, f5⟩
            have HF : Hid (Fr Nil W3 w5) := Lib.hid (HQ.out.comp (Fr.comp (S := Nil) (by (repeat (first | (with_reducible exact Fr.refl _ _) | (with_reducible assumption) | (with_reducible exact Fr.of_nil (by assumption)) | (with_reducible refine Fr.drew ?_) | (with_reducible refine Fr.drewN ?_ _) | (with_reducible refine Fr.alloc ?_ _) | (with_reducible refine Fr.set ?_ _ _ (by first | (intros; omega) | (simp; done) | (simp; omega))) | (with_reducible refine Fr.via ?_ (by assumption)) | (with_reducible refine Fr.comp ?_ (by assumption))))) f5))
            clear f5
            go_wp2
            go_roundg (nb - (j + 1))
            case rel => exact ⟨j + 1, rfl, by omega, by rw [HB.out.1], rfl, Lib.hid HF.out⟩
            case measure => omega
          · have j1 : ¬ (j : Int) < (nb : Int) := by omega
            have e : [] ++ bindsT prF (m.binds.take j) = swM prF m := by
              rw [List.take_of_length_le (by rw [HS.out.2.2]; omega)]
              show _ = consT m.cons ++ bindsT prF m.binds
              rw [HS0.out]
            rw [e]
            have HMM := Lib.hid (fun w' (f : Fr Nil W3 w') => pmod_any (H3.out.2.1.fr f (fun _ q => q.elim)) HS.out.1 (H3.out.2.2.1.fr f))
            clear e
            go_wp2_with fail
            refine (HMM.out _ (HQ.out.comp (by first | exact Fr.refl _ _ | (repeat (first | (with_reducible exact Fr.refl _ _) | (with_reducible assumption) | (with_reducible exact Fr.of_nil (by assumption)) | (with_reducible refine Fr.drew ?_) | (with_reducible refine Fr.drewN ?_ _) | (with_reducible refine Fr.alloc ?_ _) | (with_reducible refine Fr.set ?_ _ _ (by first | (intros; omega) | (simp; done) | (simp; omega))) | (with_reducible refine Fr.via ?_ (by assumption)) | (with_reducible refine Fr.comp ?_ (by assumption))))))).mono ?_
            rintro r w5 ⟨rfl, f5⟩
            have HF : Hid (Fr Nil W3 w5) := Lib.hid (HQ.out.comp (Fr.comp (S := Nil) (by (repeat (first | (with_reducible exact Fr.refl _ _) | (with_reducible assumption) | (with_reducible exact Fr.of_nil (by assumption)) | (with_reducible refine Fr.drew ?_) | (with_reducible refine Fr.drewN ?_ _) | (with_reducible refine Fr.alloc ?_ _) | (with_reducible refine Fr.set ?_ _ _ (by first | (intros; omega) | (simp; done) | (simp; omega))) | (with_reducible refine Fr.via ?_ (by assumption)) | (with_reducible refine Fr.comp ?_ (by assumption))))) f5))
            clear f5
            go_wp2
            go_ret
            exact ⟨by simp, H3.out.1.comp HF.out⟩
      · have d1 : (S0 == []) = false := by simpa using hE1
        have d2 : ((nc : Int) == 0) = false := by rw [beq_eq_false_iff_ne]; omega
        have d3 : ¬ (nc : Int) = 0 := by omega
        go_wp2_with fail
        clear z0 z1 zl
        go_loopg [5, 6] nb (fun g sv iv wr => ∃ j : Nat, g = nb - j ∧ j ≤ nb ∧ sv = .string ⟨(S0 ++ bindsT prF (m.binds.take j)).toArray⟩ ∧ iv = .int .i64 (j : Int) ∧ Hid (Fr Nil W3 wr))
        case atStart => exact ⟨0, rfl, by omega, by rw [List.take_zero]; first | rfl | (show _ = Value.string ⟨(S0 ++ []).toArray⟩; rw [List.append_nil]), rfl, H4⟩
        case round =>
          obtain ⟨j, rfl, hjn, rfl, rfl, HQ⟩ := hrel
          obtain ⟨Vr, hVr⟩ : ∃ V, V = wr := ⟨_, rfl⟩
          subst hVr
          obtain ⟨z0, z1⟩ := HK2.out Vr HQ.out
          have zl := World.block_lt_of_cell? _ _ z0
          have j0 : (0 : Int) ≤ (j : Int) := by omega
          by_cases hlt : j < nb
          · have hjl : j < m.binds.length := by rw [HS.out.2.2]; exact hlt
            have wk : IntKind.i64.wrap ((j : Int) + 1) = (j : Int) + 1 := by rw [IntKind.wrap_i64]; omega
            have j1 : (j : Int) < (nb : Int) := by omega
            have k1 : (j : Int) ≤ (j : Int) + 1 := by omega
            have k2 : (j : Int) + 1 ≤ (bc : Int) := by omega
            have k3 : (j : Int) ≤ (bc : Int) := by omega
            have k4 : ¬ bc - j = 0 := by omega
            have k5 : ¬ bc = j := by omega
            obtain ⟨b, off, e2, _, _⟩ := H3.out.2.2.2.1.at hlt
            subst e2
            have hbm : ∀ w', Fr Nil W3 w' → Calls Tryd.prog 19 #[.agg #[.slice none 0 0, .slice (some ⟨b, off + j * 10, none⟩) 1 (bc - j)]] w' fun r w2 => r = .returned (.string ⟨(swB1 prF m.binds[j] ++ [59, 10]).toArray⟩) ∧ Fr Nil w' w2 := fun w' f => by
              rw [← bind_text m.binds[j]]
              exact pmod_any (m := ⟨[], [m.binds[j]]⟩) ⟨.nil, rfl, ⟨fun _ => cs j, (H3.out.2.2.2.1.frN f).sub1 hlt (by omega) (by unfold maxLen; omega), fun i hi => by
                obtain rfl : i = 0 := by simp at hi; exact hi
                exact (H3.out.2.2.2.2 j hjl).frN f⟩, rfl⟩ (HS.out.1.bind_ (List.getElem_mem hjl)) (H3.out.2.2.1.fr f)
            have hw := bindsT_take prF hjl
            have h1 := lenS_takeB hjl
            have h3 := HS.out.1.z
            obtain ⟨y, hy⟩ : ∃ y, swB1 prF m.binds[j] = y := ⟨_, rfl⟩
            rw [hy] at hw h1 hbm
            obtain ⟨x, hx⟩ : ∃ x, y ++ [59, 10] = x := ⟨_, rfl⟩
            have lx : x.length = y.length + 2 := by rw [← hx]; simp
            rw [hx] at hbm
            obtain ⟨S, hS⟩ : ∃ x, S0 ++ bindsT prF (m.binds.take j) = x := ⟨_, rfl⟩
            have ls : S.length = S0.length + (bindsT prF (m.binds.take j)).length := by rw [← hS]; simp
            obtain ⟨S3, hS3⟩ : ∃ y, S0 ++ bindsT prF (m.binds.take (j + 1)) = y := ⟨_, rfl⟩
            have e3 : S3 = S ++ x := by rw [← hS3, hw, ← hS, ← hx]; simp
            rw [hS]
            have sa1 : ∀ w, (Op.stringOp .add ⟨S.toArray⟩ ⟨x.toArray⟩).run Tryd.prog w = .ok (.string ⟨S3.toArray⟩) w := fun w => by rw [e3]; exact sadd S x (by omega) w
            have HB := Lib.hid (And.intro hS3 hbm)
            clear hS3 hbm hw h1 h3 hy hx lx hS ls e3
            go_wp2_with fail
            refine (HB.out.2 _ (HQ.out.comp (by first | exact Fr.refl _ _ | (repeat (first | (with_reducible exact Fr.refl _ _) | (with_reducible assumption) | (with_reducible exact Fr.of_nil (by assumption)) | (with_reducible refine Fr.drew ?_) | (with_reducible refine Fr.drewN ?_ _) | (with_reducible refine Fr.alloc ?_ _) | (with_reducible refine Fr.set ?_ _ _ (by first | (intros; omega) | (simp; done) | (simp; omega))) | (with_reducible refine Fr.via ?_ (by assumption)) | (with_reducible refine Fr.comp ?_ (by assumption))))))).mono ?_
            rintro r w5 ⟨rfl, f5⟩
            have HF : Hid (Fr Nil W3 w5) := Lib.hid (HQ.out.comp (Fr.comp (S := Nil) (by (repeat (first | (with_reducible exact Fr.refl _ _) | (with_reducible assumption) | (with_reducible exact Fr.of_nil (by assumption)) | (with_reducible refine Fr.drew ?_) | (with_reducible refine Fr.drewN ?_ _) | (with_reducible refine Fr.alloc ?_ _) | (with_reducible refine Fr.set ?_ _ _ (by first | (intros; omega) | (simp; done) | (simp; omega))) | (with_reducible refine Fr.via ?_ (by assumption)) | (with_reducible refine Fr.comp ?_ (by assumption))))) f5))
            clear f5
            go_wp2
            go_roundg (nb - (j + 1))
            case rel => exact ⟨j + 1, rfl, by omega, by rw [HB.out.1], rfl, Lib.hid HF.out⟩
            case measure => omega
          · have j1 : ¬ (j : Int) < (nb : Int) := by omega
            have e : S0 ++ bindsT prF (m.binds.take j) = swM prF m := by
              rw [List.take_of_length_le (by rw [HS.out.2.2]; omega)]
              show _ = consT m.cons ++ bindsT prF m.binds
              rw [HS0.out]
            rw [e]
            have HMM := Lib.hid (fun w' (f : Fr Nil W3 w') => pmod_any (H3.out.2.1.fr f (fun _ q => q.elim)) HS.out.1 (H3.out.2.2.1.fr f))
            clear e
            go_wp2_with fail
            refine (HMM.out _ (HQ.out.comp (by first | exact Fr.refl _ _ | (repeat (first | (with_reducible exact Fr.refl _ _) | (with_reducible assumption) | (with_reducible exact Fr.of_nil (by assumption)) | (with_reducible refine Fr.drew ?_) | (with_reducible refine Fr.drewN ?_ _) | (with_reducible refine Fr.alloc ?_ _) | (with_reducible refine Fr.set ?_ _ _ (by first | (intros; omega) | (simp; done) | (simp; omega))) | (with_reducible refine Fr.via ?_ (by assumption)) | (with_reducible refine Fr.comp ?_ (by assumption))))))).mono ?_
            rintro r w5 ⟨rfl, f5⟩
            have HF : Hid (Fr Nil W3 w5) := Lib.hid (HQ.out.comp (Fr.comp (S := Nil) (by (repeat (first | (with_reducible exact Fr.refl _ _) | (with_reducible assumption) | (with_reducible exact Fr.of_nil (by assumption)) | (with_reducible refine Fr.drew ?_) | (with_reducible refine Fr.drewN ?_ _) | (with_reducible refine Fr.alloc ?_ _) | (with_reducible refine Fr.set ?_ _ _ (by first | (intros; omega) | (simp; done) | (simp; omega))) | (with_reducible refine Fr.via ?_ (by assumption)) | (with_reducible refine Fr.comp ?_ (by assumption))))) f5))
            clear f5
            go_wp2
            go_ret
            exact ⟨by simp, H3.out.1.comp HF.out⟩
    · have d3 : (E1 == 0) = false := by simpa using he
      go_wp2
      go_ret
      exact ⟨rfl, H2.out.2.comp (by (repeat (first | (with_reducible exact Fr.refl _ _) | (with_reducible assumption) | (with_reducible exact Fr.of_nil (by assumption)) | (with_reducible refine Fr.drew ?_) | (with_reducible refine Fr.drewN ?_ _) | (with_reducible refine Fr.alloc ?_ _) | (with_reducible refine Fr.set ?_ _ _ (by first | (intros; omega) | (simp; done) | (simp; omega))) | (with_reducible refine Fr.via ?_ (by assumption)) | (with_reducible refine Fr.comp ?_ (by assumption)))))⟩
  · have q1 : (5000 : Int) < (s.size : Int) := by omega
    go_enter Tryd.func9, Tryd.ntmps9
    go_wp2_with fail
    refine HA.out.mono ?_
    rintro e w1 ⟨rfl, f1⟩
    have HF := Lib.hid f1
    clear f1
    go_wp2
    go_ret
    exact ⟨rfl, HF.out⟩
end Go.Proofs.YtpjlibbdngnnnaaDoor
