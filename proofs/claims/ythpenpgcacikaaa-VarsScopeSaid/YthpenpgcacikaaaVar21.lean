/-
  The law VarsScope, walked (layer 12). Conditions: none but the argument's form.
-/
import Derived.Test.YthpenpgcacikaaaSc5
import Derived.Test.YthpenpgcacikaaaVar17
import Derived.Deep.RegionHeld3
import Derived.StillTailTactics
namespace Go.Proofs.Ythpenpgcacikaaa
set_option linter.unusedSimpArgs false
set_option linter.unusedVariables false
open Go.RowKit

theorem BindsAt.ten {X : Nat → Prop} {w : World} {a : Option Addr} {n cap : Nat} {bs : List TB} (h : BindsAt X w (.slice a n cap) bs) {i : Nat} (hi : i < bs.length) : ∃ (b off : Nat) (pa : Option Addr) (pn pc : Nat) (c : List Value), a = some ⟨b, off, none⟩ ∧ FormE c ∧ BAt X w (.string ⟨bs[i].name.toArray⟩ :: .slice pa pn pc :: c) bs[i] ∧
    w.cell? ⟨b, off + i * 10, none⟩ = some (.string ⟨bs[i].name.toArray⟩) ∧ w.cell? ⟨b, off + i * 10 + 1, none⟩ = some (.slice pa pn pc) ∧ ∀ j u, c[j]? = some u → w.cell? ⟨b, off + i * 10 + 2 + j, none⟩ = some u := by
  obtain ⟨cs, h1, h2⟩ := h
  obtain ⟨a1, cap1, e, _, _, hc0⟩ := h1
  cases e
  obtain ⟨b, off, rfl, _, hl, hc⟩ := hc0 i hi
  have hb := h2 i hi
  obtain ⟨pn, c, ec, hr, he⟩ := h2 i hi
  obtain ⟨pa, pc, rfl⟩ := RowC.shape hr
  rw [ec] at hc hb
  refine ⟨b, off, pa, _, pc, c, rfl, he.formE, hb, hc 0 _ rfl, hc 1 _ rfl, fun j u hj => ?_⟩
  have := hc (j + 2) u (by simpa using hj)
  rw [show off + i * 10 + (j + 2) = off + i * 10 + 2 + j by omega] at this
  exact this
theorem nmB_at {bs : List TB} {j : Nat} (h : j < bs.length) : nmB (bs.take (j + 1)) = nmB (bs.take j) ++ [bs[j].name] := by
  rw [List.take_succ_eq_append_getElem h]
  unfold nmB
  rw [List.map_append]
  rfl
set_option maxRecDepth 100000 in
set_option maxHeartbeats 40000000 in
theorem scope12_any (s : ByteArray) (w : World) :
    Calls Try.prog 5 #[.string s] w fun r w' => r = .returned (.bool true) ∧ Fr Nil w w' := by
  obtain ⟨i0, hi, hz0, hz1, hz2⟩ := info_parts infoB
  by_cases hs : s.size ≤ 3000
  · have q1 : ¬ (3000 : Int) < (s.size : Int) := by omega
    have hS := parse_src s.data.toList (by rw [size_of]; unfold maxLen; omega)
    have hW := parse_few s.data.toList
    have hP := fun w1 => rparse_src s w1 (by omega)
    obtain ⟨⟨M, E1, E2⟩, hM⟩ : ∃ M, parseF s.data.toList = M := ⟨_, rfl⟩
    simp only [hM] at hS hW hP
    have HS := Lib.hid (And.intro hS (And.intro hW hP))
    clear hS hW hP hM hs
    go_enter Try.func5, Try.ntmps5
    go_wp2_with fail
    refine (awake_any w).mono ?_
    rintro e w1 ⟨rfl, f1⟩
    have HF1 := Lib.hid f1
    clear f1
    go_wp2_with fail
    refine (HS.out.2.2 w1).mono ?_
    rintro e w2 ⟨v, rfl, hm, f2⟩
    obtain ⟨cv, bv, ec, eb, rfl, h1, h2, h3, h4⟩ := hm
    obtain ⟨ca, cc, rfl⟩ := h1.shape
    obtain ⟨ba, bc, rfl⟩ := h3.shape
    have hmv : ModV (fun b => w2.heap.size ≤ b) w2 ca M.cons.length cc ba M.binds.length bc M :=
      ⟨RowC.congr (RowC.mono h1 (by decide) (fun b hb q => by omega)) (fun i hi => by rw [h2 i hi]; simp [List.getD, hi]), rfl, ⟨eb, h3.mono (by decide) (fun b hb q => by omega), fun i hi => lawB.mono (h4 i hi) (fun b hb q => by omega)⟩, rfl⟩
    obtain ⟨nb, hnb⟩ : ∃ nb, M.binds.length = nb := ⟨_, rfl⟩
    obtain ⟨nc, hnc⟩ : ∃ nc, M.cons.length = nc := ⟨_, rfl⟩
    obtain ⟨T, hT⟩ : ∃ T, w2.heap.size = T := ⟨_, rfl⟩
    have hnb9 : nb ≤ 4096 := by have := HS.out.1.len; omega
    rw [hnb, hnc, hT] at hmv
    rw [hnb, hnc]
    have HB := Lib.hid (And.intro hmv (And.intro hnb (HF1.out.comp f2)))
    clear h1 h2 h3 h4 hmv f2 hnb hnc
    by_cases he : E1 = 0
    · subst he
      go_wp2_with fail
      obtain ⟨W3, hW3⟩ : ∃ W3, w2.alloc (.cells #[.slice ca nc cc, .slice ba nb bc] 43) = W3 := ⟨_, rfl⟩
      try rw [hT]
      rw [hW3]
      have f3 : Fr Nil w2 W3 := by rw [← hW3]; (repeat (first | (with_reducible exact Fr.refl _ _) | (with_reducible assumption) | (with_reducible exact Fr.of_nil (by assumption)) | (with_reducible refine Fr.drew ?_) | (with_reducible refine Fr.drewN ?_ _) | (with_reducible refine Fr.alloc ?_ _) | (with_reducible refine Fr.set ?_ _ _ (by first | (intros; omega) | (simp; done) | (simp; omega))) | (with_reducible refine Fr.via ?_ (by assumption)) | (with_reducible refine Fr.comp ?_ (by assumption))))
      have bT3 : Blk W3 T #[.slice ca nc cc, .slice ba nb bc] 43 := by rw [← hW3, ← hT]; exact Blk.new _ _ _
      have hch := rcheck_any (X := fun b => T ≤ b) (m := M) (HB.out.1.fr f3 (fun _ q => q.elim)) HS.out.2.1.1 (by have := HS.out.2.1.2; omega)
      obtain ⟨⟨RE, RN⟩, hR⟩ : ∃ R, chkF M = R := ⟨_, rfl⟩
      rw [hR] at hch
      refine hch.mono ?_
      rintro e w4 ⟨rfl, f4⟩
      have bT4 := f4.blk bT3 (fun q => q)
      have hm4 := (HB.out.1.fr f3 (fun _ q => q.elim)).fr f4 (fun _ q => q.elim)
      have hF4 : Fr Nil w w4 := (HB.out.2.2.comp f3).comp f4
      have H4 := Lib.hid (And.intro bT4 (And.intro hm4 (And.intro hF4 hR)))
      clear hW3 f3 bT3 hch hR f4 bT4 hm4 hF4 hT
      by_cases hk : RE = 0
      · subst hk
        have z0 := H4.out.1.cell 0
        have z1 := H4.out.1.cell 1
        simp at z0 z1
        have zl := H4.out.1.lt
        have zf := H4.out.1.free
        go_wp2_with fail
        clear z0 z1 zl zf
        go_loopg [8] nb (fun g iv wr => ∃ i : Nat, g = nb - i ∧ i ≤ nb ∧ iv = .int .i64 (i : Int) ∧ Hid (Fr Nil w4 wr))
        case atStart => exact ⟨0, rfl, by omega, rfl, Lib.hid (Fr.refl _ _)⟩
        case round =>
          obtain ⟨i, rfl, hil, rfl, HF⟩ := hrel
          obtain ⟨Vr, hVr⟩ : ∃ V, V = wr := ⟨_, rfl⟩
          subst hVr
          have j0 : (0 : Int) ≤ (i : Int) := by omega
          have bTr := HF.out.blk H4.out.1 (fun q => q)
          have z0 := bTr.cell 0
          have z1 := bTr.cell 1
          simp at z0 z1
          have zl := bTr.lt
          have zf := bTr.free
          by_cases hlt : i < nb
          · have hiL : i < M.binds.length := by rw [HB.out.2.1]; exact hlt
            have wk : IntKind.i64.wrap ((i : Int) + 1) = (i : Int) + 1 := by rw [IntKind.wrap_i64]; omega
            have j1 : (i : Int) < (nb : Int) := by omega
            obtain ⟨b, off, pa, pn, pc, c, rfl, hlb, hfo, hpr, hE, hpn, hc⟩ := (H4.out.2.1.2.2.1.nocare.fr HF.out (fun _ q => q.elim)).at hiL
            have hok := HS.out.1.ok _ (List.getElem_mem hiL)
            obtain ⟨e, he⟩ : ∃ e, M.binds[i].body = e := ⟨_, rfl⟩
            obtain ⟨pl, hpl⟩ : ∃ e, M.binds[i].params = e := ⟨_, rfl⟩
            rw [he] at hE hok
            rw [hpl] at hpr
            obtain ⟨k, nm, fl, bi, a0, n0, c0, a1, n1, c1, a2, n2, c2, a3, n3, c3, rfl⟩ := hfo
            obtain ⟨V, hV⟩ : ∃ V, woF (freeE e) pl = V := ⟨_, rfl⟩
            obtain ⟨nV, hnV⟩ : ∃ n, V.length = n := ⟨_, rfl⟩
            have hwt : wtE e ≤ 4096 := by have := hok.2.2.1; omega
            have hV9 : nV ≤ 4096 := by
              have h1 := woF_len (freeE e) pl
              have h2 := freeE_len e
              rw [hV] at h1
              omega
            have hall : ∀ x ∈ V, x ∈ nmB M.binds := fun x hx => chk_all (m := M) (by rw [H4.out.2.2.2]) (List.getElem_mem hiL) (by rw [he]; exact hok.2.1) x (by rw [he, hpl, hV]; exact hx)
            have A1 : ∀ w', Fr Nil Vr w' → Calls Try.prog 14 #[.slice pa pn pc, .agg #[.int .i64 (k : Int), .string nm, .bool fl, .int .u64 (bi : Int), .slice a0 n0 c0, .slice a1 n1 c1, .slice a2 n2 c2, .slice a3 n3 c3]] w' fun r w2 => ∃ va vc, r = .returned (.slice va nV vc) ∧ RowS (fun _ => False) w2 (.slice va nV vc) V ∧ Fr Nil w' w2 :=
              fun w' f => body_row (RowS.fr hpr f (fun _ q => q.elim)) (hE.fr f (fun _ q => q.elim)) hok.1 hwt (by rw [uniq_free hok.2.1, hV]) hnV
            have hK : ∀ w', Fr Nil Vr w' → w'.cell? ⟨T, 1, none⟩ = some (.slice (some ⟨b, off, none⟩) nb bc) ∧ w'.cell? ⟨b, off + i * 10 + 1, none⟩ = some (.slice pa pn pc) ∧ w'.cell? ⟨b, off + i * 10 + 2, none⟩ = some (.int .i64 (k : Int)) ∧ w'.cell? ⟨b, off + i * 10 + 2 + 1, none⟩ = some (.string nm) ∧ w'.cell? ⟨b, off + i * 10 + 2 + 2, none⟩ = some (.bool fl) ∧ w'.cell? ⟨b, off + i * 10 + 2 + 3, none⟩ = some (.int .u64 (bi : Int)) ∧ w'.cell? ⟨b, off + i * 10 + 2 + 4, none⟩ = some (.slice a0 n0 c0) ∧ w'.cell? ⟨b, off + i * 10 + 2 + 5, none⟩ = some (.slice a1 n1 c1) ∧ w'.cell? ⟨b, off + i * 10 + 2 + 6, none⟩ = some (.slice a2 n2 c2) ∧ w'.cell? ⟨b, off + i * 10 + 2 + 7, none⟩ = some (.slice a3 n3 c3) := fun w' f => by
              obtain ⟨_, h1, h⟩ := hc w' f
              have z := (f.blk bTr (fun q => q)).cell 1
              simp at z
              exact ⟨z, h1, h 0 _ rfl, h 1 _ rfl, h 2 _ rfl, h 3 _ rfl, h 4 _ rfl, h 5 _ rfl, h 6 _ rfl, h 7 _ rfl⟩
            have HA := Lib.hid A1
            have HK := Lib.hid hK
            have HV := Lib.hid (And.intro hall (And.intro hnV (And.intro hV (And.intro he (And.intro hpl hok.2.1)))))
            have HT := Lib.hid bTr
            clear A1 hK hall hnV hV he hpl hok hE hpr hpn hc hwt
            go_upto_region 14 with fail
            clear z0 z1
            go_region_held3 (fun w' => w'.cell? ⟨T, 1, none⟩ = some (.slice (some ⟨b, off, none⟩) nb bc) ∧ w'.cell? ⟨b, off + i * 10 + 1, none⟩ = some (.slice pa pn pc) ∧ w'.cell? ⟨b, off + i * 10 + 2, none⟩ = some (.int .i64 (k : Int)) ∧ w'.cell? ⟨b, off + i * 10 + 2 + 1, none⟩ = some (.string nm) ∧ w'.cell? ⟨b, off + i * 10 + 2 + 2, none⟩ = some (.bool fl) ∧ w'.cell? ⟨b, off + i * 10 + 2 + 3, none⟩ = some (.int .u64 (bi : Int)) ∧ w'.cell? ⟨b, off + i * 10 + 2 + 4, none⟩ = some (.slice a0 n0 c0) ∧ w'.cell? ⟨b, off + i * 10 + 2 + 5, none⟩ = some (.slice a1 n1 c1) ∧ w'.cell? ⟨b, off + i * 10 + 2 + 6, none⟩ = some (.slice a2 n2 c2) ∧ w'.cell? ⟨b, off + i * 10 + 2 + 7, none⟩ = some (.slice a3 n3 c3)) (with_reducible refine HK.out _ ?_; first | assumption | (repeat (first | (with_reducible exact Fr.refl _ _) | (with_reducible assumption) | (with_reducible exact Fr.of_nil (by assumption)) | (with_reducible refine Fr.drew ?_) | (with_reducible refine Fr.drewN ?_ _) | (with_reducible refine Fr.alloc ?_ _) | (with_reducible refine Fr.set ?_ _ _ (by first | (intros; omega) | (simp; done) | (simp; omega))) | (with_reducible refine Fr.via ?_ (by assumption)) | (with_reducible refine Fr.comp ?_ (by assumption))))) (first
              | (go_at_call 14; refine (HA.out _ (by first | assumption | (repeat (first | (with_reducible exact Fr.refl _ _) | (with_reducible assumption) | (with_reducible exact Fr.of_nil (by assumption)) | (with_reducible refine Fr.drew ?_) | (with_reducible refine Fr.drewN ?_ _) | (with_reducible refine Fr.alloc ?_ _) | (with_reducible refine Fr.set ?_ _ _ (by first | (intros; omega) | (simp; done) | (simp; omega))) | (with_reducible refine Fr.via ?_ (by assumption)) | (with_reducible refine Fr.comp ?_ (by assumption)))))).mono ?_; rintro r wa ⟨xa, ya, rfl, r1, fa⟩; have ga : Fr Nil Vr wa := Fr.comp (S := Nil) (by first | assumption | (repeat (first | (with_reducible exact Fr.refl _ _) | (with_reducible assumption) | (with_reducible exact Fr.of_nil (by assumption)) | (with_reducible refine Fr.drew ?_) | (with_reducible refine Fr.drewN ?_ _) | (with_reducible refine Fr.alloc ?_ _) | (with_reducible refine Fr.set ?_ _ _ (by first | (intros; omega) | (simp; done) | (simp; omega))) | (with_reducible refine Fr.via ?_ (by assumption)) | (with_reducible refine Fr.comp ?_ (by assumption))))) fa; clear fa))
            go_wp2_with fail
            rename_i hHeld
            clear hHeld
            have HL := Lib.hid (And.intro r1 (And.intro ga (ga.blk HT.out (fun q => q))))
            clear r1 ga HA HK zl zf
            go_loopg [10] nV (fun g iv wr => ∃ k2 : Nat, g = nV - k2 ∧ k2 ≤ nV ∧ iv = .int .i64 (k2 : Int) ∧ Hid (Fr Nil wa wr))
            case atStart => exact ⟨0, rfl, by omega, rfl, Lib.hid (Fr.refl _ _)⟩
            case round =>
              obtain ⟨k2, rfl, hkl, rfl, HX⟩ := hrel
              obtain ⟨Vx, hVx⟩ : ∃ V, V = wr := ⟨_, rfl⟩
              subst hVx
              have i00 : (0 : Int) ≤ (k2 : Int) := by omega
              by_cases hlt2 : k2 < nV
              · have hkV : k2 < V.length := by rw [HV.out.2.1]; exact hlt2
                have wk2 : IntKind.i64.wrap ((k2 : Int) + 1) = (k2 : Int) + 1 := by rw [IntKind.wrap_i64]; omega
                have i1 : (k2 : Int) < (nV : Int) := by omega
                obtain ⟨ub, uo, rfl, _, p0⟩ := (RowS.fr HL.out.1 HX.out (fun _ q => q.elim)).cell k2 hkV
                obtain ⟨x, hx⟩ : ∃ x, V[k2] = x := ⟨_, rfl⟩
                rw [hx] at p0
                have hxV : x ∈ V := hx ▸ List.getElem_mem hkV
                have hub : ub < Vx.heap.size := World.block_lt_of_cell? _ _ p0
                have HP := Lib.hid (And.intro p0 (And.intro hxV (HV.out.1 x hxV)))
                clear p0 hxV hx
                go_wp2_with fail
                go_loopg [11, 12] nb (fun g kv jv wr => ∃ (j : Nat) (kn : Bool), g = nb - j ∧ j ≤ nb ∧ kv = .bool kn ∧ jv = .int .i64 (j : Int) ∧ Hid (decide (x ∈ nmB (M.binds.take j)) = kn ∧ Fr Nil Vx wr))
                case atStart => exact ⟨0, false, rfl, by omega, rfl, rfl, Lib.hid ⟨by simp [nmB], Fr.refl _ _⟩⟩
                case round =>
                  obtain ⟨j, kn, rfl, hjl, rfl, rfl, HY⟩ := hrel
                  obtain ⟨Vy, hVy⟩ : ∃ V, V = wr := ⟨_, rfl⟩
                  subst hVy
                  have bTy := (HX.out.comp HY.out.2).blk HL.out.2.2 (fun q => q)
                  have z0 := bTy.cell 0
                  have z1 := bTy.cell 1
                  simp at z0 z1
                  have zl := bTy.lt
                  have zf := bTy.free
                  have i20 : (0 : Int) ≤ (j : Int) := by omega
                  by_cases hlt3 : j < nb
                  · have hjL : j < M.binds.length := by rw [HB.out.2.1]; exact hlt3
                    have wk3 : IntKind.i64.wrap ((j : Int) + 1) = (j : Int) + 1 := by rw [IntKind.wrap_i64]; omega
                    have i2 : (j : Int) < (nb : Int) := by omega
                    obtain ⟨b', off', qa, qn, qc, c', e', _, _, n0, _, _⟩ := BindsAt.ten (H4.out.2.1.2.2.1.fr ((HF.out.comp HL.out.2.1).comp (HX.out.comp HY.out.2)) (fun _ q => q.elim)) hjL
                    cases e'
                    obtain ⟨y, hy⟩ : ∃ y, M.binds[j].name = y := ⟨_, rfl⟩
                    rw [hy] at n0
                    have u0 := HY.out.2.cell HP.out.1 (fun q => q)
                    have hst := nmB_at hjL
                    rw [hy] at hst
                    have HST := Lib.hid hst
                    clear hst hy bTy
                    cases kn with
                    | true =>
                      go_wp2_with fail
                      go_quiet (fail)
                      go_wp2
                      go_roundg (nb - (j + 1))
                      case rel => exact ⟨j + 1, true, rfl, by omega, rfl, by simp, Lib.hid ⟨by rw [HST.out]; exact decide_eq_true (List.mem_append.2 (.inl (of_decide_eq_true HY.out.1))), Fr.comp (S := Nil) HY.out.2 (by (repeat (first | (with_reducible exact Fr.refl _ _) | (with_reducible assumption) | (with_reducible exact Fr.of_nil (by assumption)) | (with_reducible refine Fr.drew ?_) | (with_reducible refine Fr.drewN ?_ _) | (with_reducible refine Fr.alloc ?_ _) | (with_reducible refine Fr.set ?_ _ _ (by first | (intros; omega) | (simp; done) | (simp; omega))) | (with_reducible refine Fr.via ?_ (by assumption)) | (with_reducible refine Fr.comp ?_ (by assumption)))))⟩⟩
                      case measure => omega
                    | false =>
                      by_cases hyx : y = x
                      · subst hyx
                        go_wp2_with fail
                        go_quiet (fail)
                        go_wp2
                        go_roundg (nb - (j + 1))
                        case rel => exact ⟨j + 1, true, rfl, by omega, by simp, by simp, Lib.hid ⟨by rw [HST.out]; exact decide_eq_true (List.mem_append.2 (.inr (List.mem_singleton.2 rfl))), Fr.comp (S := Nil) HY.out.2 (by (repeat (first | (with_reducible exact Fr.refl _ _) | (with_reducible assumption) | (with_reducible exact Fr.of_nil (by assumption)) | (with_reducible refine Fr.drew ?_) | (with_reducible refine Fr.drewN ?_ _) | (with_reducible refine Fr.alloc ?_ _) | (with_reducible refine Fr.set ?_ _ _ (by first | (intros; omega) | (simp; done) | (simp; omega))) | (with_reducible refine Fr.via ?_ (by assumption)) | (with_reducible refine Fr.comp ?_ (by assumption)))))⟩⟩
                        case measure => omega
                      · have d6 : (y == x) = false := by simpa using hyx
                        have HYX := Lib.hid hyx
                        clear hyx
                        go_wp2_with fail
                        go_quiet (fail)
                        go_wp2
                        go_roundg (nb - (j + 1))
                        case rel => exact ⟨j + 1, false, rfl, by omega, by simp [d6], by simp, Lib.hid ⟨by rw [HST.out]; exact decide_eq_false (fun q => by
                          rcases List.mem_append.1 q with q | q
                          · exact of_decide_eq_false HY.out.1 q
                          · exact HYX.out (List.mem_singleton.1 q).symm), Fr.comp (S := Nil) HY.out.2 (by (repeat (first | (with_reducible exact Fr.refl _ _) | (with_reducible assumption) | (with_reducible exact Fr.of_nil (by assumption)) | (with_reducible refine Fr.drew ?_) | (with_reducible refine Fr.drewN ?_ _) | (with_reducible refine Fr.alloc ?_ _) | (with_reducible refine Fr.set ?_ _ _ (by first | (intros; omega) | (simp; done) | (simp; omega))) | (with_reducible refine Fr.via ?_ (by assumption)) | (with_reducible refine Fr.comp ?_ (by assumption)))))⟩⟩
                        case measure => omega
                  · have i2 : ¬ (j : Int) < (nb : Int) := by omega
                    have ekn : kn = true := by rw [← HY.out.1, List.take_of_length_le (by rw [HB.out.2.1]; omega)]; exact decide_eq_true HP.out.2.2
                    subst ekn
                    obtain ⟨T2, hT2⟩ : ∃ T2, Vy.heap.size = T2 := ⟨_, rfl⟩
                    have hvs := HY.out.2.size
                    have hTT : T < T2 := by omega
                    have huT : ub < T2 := by omega
                    go_wp2_with fail
                    obtain ⟨W6, hW6⟩ : ∃ W6, Vy.alloc (.cells #[.slice ca nc cc, .slice none 0 0] 43) = W6 := ⟨_, rfl⟩
                    rw [hW6]
                    have f6 : Fr Nil Vy W6 := by rw [← hW6]; (repeat (first | (with_reducible exact Fr.refl _ _) | (with_reducible assumption) | (with_reducible exact Fr.of_nil (by assumption)) | (with_reducible refine Fr.drew ?_) | (with_reducible refine Fr.drewN ?_ _) | (with_reducible refine Fr.alloc ?_ _) | (with_reducible refine Fr.set ?_ _ _ (by first | (intros; omega) | (simp; done) | (simp; omega))) | (with_reducible refine Fr.via ?_ (by assumption)) | (with_reducible refine Fr.comp ?_ (by assumption))))
                    have b6 : Blk W6 T2 #[.slice ca nc cc, .slice none 0 0] 43 := by rw [← hW6, ← hT2]; exact Blk.new _ _ _
                    have hT6 : W6.heap.size = T2 + 1 := by rw [← hW6]; simp [hT2]
                    have H6 := Lib.hid (And.intro b6 (And.intro (((HF.out.comp HL.out.2.1).comp (HX.out.comp HY.out.2)).comp f6) (And.intro f6 hT6)))
                    have hTs4 : T < w4.heap.size := H4.out.1.lt
                    have hVT : Vx.heap.size ≤ T2 := by omega
                    have hbT : b < T2 := by have := HL.out.2.1.size; have := HX.out.size; omega
                    clear hW6 f6 b6 hT6 hvs hT2 bTy z0 z1 zl zf
                    go_loopg [14] nb (fun g jv wr => ∃ (j : Nat) (u : Value), g = nb - j ∧ j ≤ nb ∧ jv = .int .i64 (j : Int) ∧ Hid (Blk wr T2 #[.slice ca nc cc, u] 43 ∧ BRow T (T2 + 1) wr u (nbF M.binds i x j) ∧ Fr (fun b => b = T2) W6 wr))
                    case atStart => exact ⟨0, _, rfl, by omega, rfl, Lib.hid ⟨H6.out.1, BRow.nil, Fr.refl _ _⟩⟩
                    case round =>
                      clear hjl i2 hlt3 i20
                      obtain ⟨j, u, rfl, hjl, rfl, HQ⟩ := hrel
                      obtain ⟨ua, uc, rfl⟩ := HQ.out.2.1.shape
                      obtain ⟨un, hun⟩ : ∃ un, (nbF M.binds i x j).length = un := ⟨_, rfl⟩
                      have hunf := (nb_few (bs := M.binds) (i := i) (x := x) j (by rw [HB.out.2.1]; exact hjl)).1
                      rw [hun] at HQ hunf
                      have hFw : Fr (fun b => b = T2) w4 wr := (Fr.of_nil H6.out.2.1).comp HQ.out.2.2
                      have hFv : Fr (fun b => b = T2) Vx wr := (Fr.of_nil (HY.out.2.comp H6.out.2.2.1)).comp HQ.out.2.2
                      have bTq := hFw.blk H4.out.1 (show ¬ T = T2 by omega)
                      have hsz := HQ.out.2.2.size
                      have hT6 := H6.out.2.2.2
                      have u0 := hFv.cell HP.out.1 (show ¬ ub = T2 by omega)
                      have z0 := bTq.cell 0
                      have z1 := bTq.cell 1
                      simp at z0 z1
                      have zl := bTq.lt
                      have zf := bTq.free
                      have y0 := HQ.out.1.cell 0
                      have y1 := HQ.out.1.cell 1
                      simp at y0 y1
                      have yl := HQ.out.1.lt
                      have yf := HQ.out.1.free
                      have hm := H4.out.2.1.2.2.1.fr hFw (fun b q => by have q' : b = T2 := q; omega)
                      have i20 : (0 : Int) ≤ (j : Int) := by omega
                      by_cases hlt4 : j < nb
                      · have hjL : j < M.binds.length := by rw [HB.out.2.1]; exact hlt4
                        have wk3 : IntKind.i64.wrap ((j : Int) + 1) = (j : Int) + 1 := by rw [IntKind.wrap_i64]; omega
                        have i2 : (j : Int) < (nb : Int) := by omega
                        obtain ⟨b', off', qa, qn, qc, c', e', hfo', hbt, n0, n1, n2⟩ := BindsAt.ten hm hjL
                        cases e'
                        obtain ⟨k', nm', fl', bi', a0', n0', c0', a1', n1', c1', a2', n2', c2', a3', n3', c3', rfl⟩ := hfo'
                        have n20 := n2 0 _ rfl
                        have n21 := n2 1 _ rfl
                        have n22 := n2 2 _ rfl
                        have n23 := n2 3 _ rfl
                        have n24 := n2 4 _ rfl
                        have n25 := n2 5 _ rfl
                        have n26 := n2 6 _ rfl
                        have n27 := n2 7 _ rfl
                        simp only [Nat.add_zero] at n20
                        obtain ⟨y, hy⟩ : ∃ y, M.binds[j].name = y := ⟨_, rfl⟩
                        rw [hy] at n0 hbt
                        have hso := HQ.out.2.1.own
                        have hcl := HQ.out.2.1
                        clear n2 bTq
                        by_cases hji : j = i
                        · have d5 : ((j : Int) == (i : Int)) = true := by rw [beq_iff_eq]; omega
                          have HJ := Lib.hid (And.intro hjL (And.intro (Or.inl hji : j = i ∨ M.binds[j].name ≠ x) hbt))
                          obtain ⟨cl, g1, g2, g3⟩ := hcl
                          have g4 : wr.ownsRow (T2 + 1) 34 10 (.slice ua un uc) un cl.flatten := hun ▸ g3
                          have HCL : Hid (cl.length = (nbF M.binds i x j).length ∧ (∀ i' (h : i' < cl.length) (h' : i' < (nbF M.binds i x j).length), BAt (fun b => T ≤ b) wr cl[i'] (nbF M.binds i x j)[i']) ∧ wr.ownsRow (T2 + 1) 34 10 (.slice ua un uc) un cl.flatten ∧ (nbF M.binds i x j).length = un) := Lib.hid ⟨g1, g2, g4, hun⟩
                          clear g1 g2 g3 g4 hbt hji hun hy
                          go_wp2_with fail
                          go_quiet (fail)
                          have HKP : Hid (∀ w', Fr (fun k => Value.ownBlock (.slice ua un uc) = some k) wr w' → w'.cell? ⟨T2, 1, none⟩ = some (.slice ua un uc) ∧ w'.cell? ⟨T, 1, none⟩ = some (.slice (some ⟨b, off, none⟩) nb bc) ∧ w'.cell? ⟨b, off + j * 10, none⟩ = some (.string ⟨y.toArray⟩) ∧ w'.cell? ⟨b, off + j * 10 + 1, none⟩ = some (.slice qa qn qc) ∧ w'.cell? ⟨b, off + j * 10 + 2, none⟩ = some (.int .i64 (k' : Int)) ∧ w'.cell? ⟨b, off + j * 10 + 2 + 1, none⟩ = some (.string nm') ∧ w'.cell? ⟨b, off + j * 10 + 2 + 2, none⟩ = some (.bool fl') ∧ w'.cell? ⟨b, off + j * 10 + 2 + 3, none⟩ = some (.int .u64 (bi' : Int)) ∧ w'.cell? ⟨b, off + j * 10 + 2 + 4, none⟩ = some (.slice a0' n0' c0') ∧ w'.cell? ⟨b, off + j * 10 + 2 + 5, none⟩ = some (.slice a1' n1' c1') ∧ w'.cell? ⟨b, off + j * 10 + 2 + 6, none⟩ = some (.slice a2' n2' c2') ∧ w'.cell? ⟨b, off + j * 10 + 2 + 7, none⟩ = some (.slice a3' n3' c3')) := Lib.hid (fun w' f => ⟨f.cell y1 (fun q => by have h : T2 + 1 ≤ T2 := (hso _ q).1; omega), f.cell z1 (fun q => by have h : T2 + 1 ≤ T := (hso _ q).1; omega), f.cell n0 (fun q => by have h : T2 + 1 ≤ b := (hso _ q).1; omega), f.cell n1 (fun q => by have h : T2 + 1 ≤ b := (hso _ q).1; omega), f.cell n20 (fun q => by have h : T2 + 1 ≤ b := (hso _ q).1; omega), f.cell n21 (fun q => by have h : T2 + 1 ≤ b := (hso _ q).1; omega), f.cell n22 (fun q => by have h : T2 + 1 ≤ b := (hso _ q).1; omega), f.cell n23 (fun q => by have h : T2 + 1 ≤ b := (hso _ q).1; omega), f.cell n24 (fun q => by have h : T2 + 1 ≤ b := (hso _ q).1; omega), f.cell n25 (fun q => by have h : T2 + 1 ≤ b := (hso _ q).1; omega), f.cell n26 (fun q => by have h : T2 + 1 ≤ b := (hso _ q).1; omega), f.cell n27 (fun q => by have h : T2 + 1 ≤ b := (hso _ q).1; omega)⟩)
                          go_upto_region 31 with fail
                          obtain ⟨V, hV⟩ : ∃ V, wr.drewN nq = V := ⟨_, rfl⟩
                          rw [hV]
                          have fV : Fr Nil wr V := by rw [← hV]; (repeat (first | (with_reducible exact Fr.refl _ _) | (with_reducible assumption) | (with_reducible exact Fr.of_nil (by assumption)) | (with_reducible refine Fr.drew ?_) | (with_reducible refine Fr.drewN ?_ _) | (with_reducible refine Fr.alloc ?_ _) | (with_reducible refine Fr.set ?_ _ _ (by first | (intros; omega) | (simp; done) | (simp; omega))) | (with_reducible refine Fr.via ?_ (by assumption)) | (with_reducible refine Fr.comp ?_ (by assumption))))
                          obtain ⟨v0, v1, v2, v3, v4, v5, v6, v7, v8, v9, v10, v11⟩ := HKP.out V (Fr.of_nil fV)
                          have bV := fV.blk HQ.out.1 (fun q => q)
                          have vl := bV.lt
                          have vf := bV.free
                          have hVs : T2 + 1 ≤ V.heap.size := by have := fV.size; omega
                          have HFV := Lib.hid fV
                          clear hV bV y0 y1 yl yf z0 z1 zl zf u0 n0 n1 n20 n21 n22 n23 n24 n25 n26 n27
                          have HFK := Lib.hid fV
                          go_region_law (first
                            | (refine step_push (w := V.drew) rfl (.tmp 112) (.tmp 118) 23 rfl (T2 + 1) 34 i0 (.agg #[.string ⟨#[]⟩, .slice none 0 0, .int .i64 0, .string ⟨#[]⟩, .bool false, .int .u64 0, .slice none 0 0, .slice none 0 0, .slice none 0 0, .slice none 0 0]) 10 176 Try.underlying23 hi hz0 hz1 hz2 rfl (by decide) (.slice ua un uc) un cl.flatten (by simp [Act.eval, Act.put]) (owns_fr HCL.out.2.2.1 (by (repeat (first | (with_reducible exact Fr.refl _ _) | (with_reducible assumption) | (with_reducible exact Fr.of_nil (by assumption)) | (with_reducible refine Fr.drew ?_) | (with_reducible refine Fr.drewN ?_ _) | (with_reducible refine Fr.alloc ?_ _) | (with_reducible refine Fr.set ?_ _ _ (by first | (intros; omega) | (simp; done) | (simp; omega))) | (with_reducible refine Fr.via ?_ (by assumption)) | (with_reducible refine Fr.comp ?_ (by assumption)))))) [.string ⟨y.toArray⟩, .slice qa qn qc, .int .i64 (k' : Int), .string nm', .bool fl', .int .u64 (bi' : Int), .slice a0' n0' c0', .slice a1' n1' c1', .slice a2' n2' c2', .slice a3' n3' c3'] (by simp [Act.eval, Act.put]) rfl (by simp [Value.oneCell']) (by unfold maxLen; omega) (by omega) hVs ?_; intro v' w9 hown9 f9 hk9; obtain ⟨xa, xc, rfl⟩ := owns_shape hown9; have HO := Lib.hid (And.intro hown9 (And.intro f9 hk9)); have k9 : Fr (fun k => Value.ownBlock (.slice ua un uc) = some k) wr w9 := Fr.trans (w1 := _) (Fr.of_nil (by (repeat (first | (with_reducible exact Fr.refl _ _) | (with_reducible assumption) | (with_reducible exact Fr.of_nil (by assumption)) | (with_reducible refine Fr.drew ?_) | (with_reducible refine Fr.drewN ?_ _) | (with_reducible refine Fr.alloc ?_ _) | (with_reducible refine Fr.set ?_ _ _ (by first | (intros; omega) | (simp; done) | (simp; omega))) | (with_reducible refine Fr.via ?_ (by assumption)) | (with_reducible refine Fr.comp ?_ (by assumption)))))) f9 (fun _ _ q => q); have s9 := (k9.blk HQ.out.1 (fun q => by have h : T2 + 1 ≤ T2 := (hso _ q).1; omega)); have s91 := s9.cell 1; simp at s91; have s9l := s9.lt; have s9f := s9.free; have HB9 := Lib.hid s9; clear hown9 f9 hk9 s9))
                          all_goals
                            go_wp2
                            have fz : Fr (fun b => b = T2) W6 (w9.setCell ⟨T2, 1, none⟩ (.slice xa (un + 1) xc)) := (Fr.trans (S := fun b => b = T2) (w1 := w9) (Fr.trans (S := fun b => b = T2) (w1 := wr) HQ.out.2.2 k9 (fun q hq e => by have := (hso q e).1; omega)) (Fr.set (S := fun b => b = T2) (Fr.refl _ _) _ _ (fun _ => rfl)) (fun _ _ q => q))
                            go_roundg (nb - (j + 1))
                            case rel =>
                              refine ⟨j + 1, _, rfl, by omega, by simp, Lib.hid ⟨HB9.out.put rfl, ?_, fz⟩⟩
                              rw [nb_in HJ.out.1 HJ.out.2.1]
                              have hp : BRow T (T2 + 1) w9 (.slice xa (un + 1) xc) (nbF M.binds i x j ++ [M.binds[j]'HJ.out.1]) := BRow.push HCL.out.1 HCL.out.2.1 HJ.out.2.2 (by rw [HCL.out.2.2.2]; exact HO.out.1) (S := fun k => Value.ownBlock (.slice ua un uc) = some k) k9 (fun q e => by have := (hso q e).1; omega)
                              exact hp.fr (S := fun b => b = T2) (Fr.set (S := fun b => b = T2) (Fr.refl _ _) ⟨T2, 1, none⟩ _ (fun _ => rfl)) (fun q e => by have e2 : q = T2 := e; omega) (fun q e e2 => by have e3 : q = T2 := e2; have := (hp.own q e).1; omega)
                            case measure => omega
                        · have d5 : ((j : Int) == (i : Int)) = false := by rw [beq_eq_false_iff_ne]; omega
                          by_cases hyx : y = x
                          · have HJ := Lib.hid (And.intro hjL (show ¬ (j = i ∨ M.binds[j].name ≠ x) from fun q => q.elim hji (fun z => z (by rw [hy, hyx]))))
                            clear hbt hy hun hcl hji
                            subst hyx
                            go_wp2_with fail
                            go_quiet (fail)
                            go_wp2
                            go_roundg (nb - (j + 1))
                            case rel => exact ⟨j + 1, _, rfl, by omega, by simp, Lib.hid ⟨Fr.blk (S := Nil) (by (repeat (first | (with_reducible exact Fr.refl _ _) | (with_reducible assumption) | (with_reducible exact Fr.of_nil (by assumption)) | (with_reducible refine Fr.drew ?_) | (with_reducible refine Fr.drewN ?_ _) | (with_reducible refine Fr.alloc ?_ _) | (with_reducible refine Fr.set ?_ _ _ (by first | (intros; omega) | (simp; done) | (simp; omega))) | (with_reducible refine Fr.via ?_ (by assumption)) | (with_reducible refine Fr.comp ?_ (by assumption))))) HQ.out.1 (fun q => q), by rw [nb_out HJ.out.1 HJ.out.2]; exact HQ.out.2.1.fr (S := Nil) (by (repeat (first | (with_reducible exact Fr.refl _ _) | (with_reducible assumption) | (with_reducible exact Fr.of_nil (by assumption)) | (with_reducible refine Fr.drew ?_) | (with_reducible refine Fr.drewN ?_ _) | (with_reducible refine Fr.alloc ?_ _) | (with_reducible refine Fr.set ?_ _ _ (by first | (intros; omega) | (simp; done) | (simp; omega))) | (with_reducible refine Fr.via ?_ (by assumption)) | (with_reducible refine Fr.comp ?_ (by assumption))))) (fun _ q => q.elim) (fun _ _ q => q), Fr.comp (S := fun b => b = T2) HQ.out.2.2 (Fr.of_nil (by (repeat (first | (with_reducible exact Fr.refl _ _) | (with_reducible assumption) | (with_reducible exact Fr.of_nil (by assumption)) | (with_reducible refine Fr.drew ?_) | (with_reducible refine Fr.drewN ?_ _) | (with_reducible refine Fr.alloc ?_ _) | (with_reducible refine Fr.set ?_ _ _ (by first | (intros; omega) | (simp; done) | (simp; omega))) | (with_reducible refine Fr.via ?_ (by assumption)) | (with_reducible refine Fr.comp ?_ (by assumption))))))⟩⟩
                            case measure => omega
                          · have d6 : (y == x) = false := by simpa using hyx
                            have HJ := Lib.hid (And.intro hjL (And.intro (Or.inr (by rw [hy]; exact hyx) : j = i ∨ M.binds[j].name ≠ x) hbt))
                            obtain ⟨cl, g1, g2, g3⟩ := hcl
                            have g4 : wr.ownsRow (T2 + 1) 34 10 (.slice ua un uc) un cl.flatten := hun ▸ g3
                            have HCL : Hid (cl.length = (nbF M.binds i x j).length ∧ (∀ i' (h : i' < cl.length) (h' : i' < (nbF M.binds i x j).length), BAt (fun b => T ≤ b) wr cl[i'] (nbF M.binds i x j)[i']) ∧ wr.ownsRow (T2 + 1) 34 10 (.slice ua un uc) un cl.flatten ∧ (nbF M.binds i x j).length = un) := Lib.hid ⟨g1, g2, g4, hun⟩
                            clear g1 g2 g3 g4 hbt hji hun hy hyx
                            go_wp2_with fail
                            go_quiet (fail)
                            have HKP : Hid (∀ w', Fr (fun k => Value.ownBlock (.slice ua un uc) = some k) wr w' → w'.cell? ⟨T2, 1, none⟩ = some (.slice ua un uc) ∧ w'.cell? ⟨T, 1, none⟩ = some (.slice (some ⟨b, off, none⟩) nb bc) ∧ w'.cell? ⟨b, off + j * 10, none⟩ = some (.string ⟨y.toArray⟩) ∧ w'.cell? ⟨b, off + j * 10 + 1, none⟩ = some (.slice qa qn qc) ∧ w'.cell? ⟨b, off + j * 10 + 2, none⟩ = some (.int .i64 (k' : Int)) ∧ w'.cell? ⟨b, off + j * 10 + 2 + 1, none⟩ = some (.string nm') ∧ w'.cell? ⟨b, off + j * 10 + 2 + 2, none⟩ = some (.bool fl') ∧ w'.cell? ⟨b, off + j * 10 + 2 + 3, none⟩ = some (.int .u64 (bi' : Int)) ∧ w'.cell? ⟨b, off + j * 10 + 2 + 4, none⟩ = some (.slice a0' n0' c0') ∧ w'.cell? ⟨b, off + j * 10 + 2 + 5, none⟩ = some (.slice a1' n1' c1') ∧ w'.cell? ⟨b, off + j * 10 + 2 + 6, none⟩ = some (.slice a2' n2' c2') ∧ w'.cell? ⟨b, off + j * 10 + 2 + 7, none⟩ = some (.slice a3' n3' c3')) := Lib.hid (fun w' f => ⟨f.cell y1 (fun q => by have h : T2 + 1 ≤ T2 := (hso _ q).1; omega), f.cell z1 (fun q => by have h : T2 + 1 ≤ T := (hso _ q).1; omega), f.cell n0 (fun q => by have h : T2 + 1 ≤ b := (hso _ q).1; omega), f.cell n1 (fun q => by have h : T2 + 1 ≤ b := (hso _ q).1; omega), f.cell n20 (fun q => by have h : T2 + 1 ≤ b := (hso _ q).1; omega), f.cell n21 (fun q => by have h : T2 + 1 ≤ b := (hso _ q).1; omega), f.cell n22 (fun q => by have h : T2 + 1 ≤ b := (hso _ q).1; omega), f.cell n23 (fun q => by have h : T2 + 1 ≤ b := (hso _ q).1; omega), f.cell n24 (fun q => by have h : T2 + 1 ≤ b := (hso _ q).1; omega), f.cell n25 (fun q => by have h : T2 + 1 ≤ b := (hso _ q).1; omega), f.cell n26 (fun q => by have h : T2 + 1 ≤ b := (hso _ q).1; omega), f.cell n27 (fun q => by have h : T2 + 1 ≤ b := (hso _ q).1; omega)⟩)
                            go_upto_region 31 with fail
                            obtain ⟨V, hV⟩ : ∃ V, wr.drewN nq = V := ⟨_, rfl⟩
                            rw [hV]
                            have fV : Fr Nil wr V := by rw [← hV]; (repeat (first | (with_reducible exact Fr.refl _ _) | (with_reducible assumption) | (with_reducible exact Fr.of_nil (by assumption)) | (with_reducible refine Fr.drew ?_) | (with_reducible refine Fr.drewN ?_ _) | (with_reducible refine Fr.alloc ?_ _) | (with_reducible refine Fr.set ?_ _ _ (by first | (intros; omega) | (simp; done) | (simp; omega))) | (with_reducible refine Fr.via ?_ (by assumption)) | (with_reducible refine Fr.comp ?_ (by assumption))))
                            obtain ⟨v0, v1, v2, v3, v4, v5, v6, v7, v8, v9, v10, v11⟩ := HKP.out V (Fr.of_nil fV)
                            have bV := fV.blk HQ.out.1 (fun q => q)
                            have vl := bV.lt
                            have vf := bV.free
                            have hVs : T2 + 1 ≤ V.heap.size := by have := fV.size; omega
                            have HFV := Lib.hid fV
                            clear hV bV y0 y1 yl yf z0 z1 zl zf u0 n0 n1 n20 n21 n22 n23 n24 n25 n26 n27
                            have HFK := Lib.hid fV
                            go_region_law (first
                              | (refine step_push (w := V.drew) rfl (.tmp 112) (.tmp 118) 23 rfl (T2 + 1) 34 i0 (.agg #[.string ⟨#[]⟩, .slice none 0 0, .int .i64 0, .string ⟨#[]⟩, .bool false, .int .u64 0, .slice none 0 0, .slice none 0 0, .slice none 0 0, .slice none 0 0]) 10 176 Try.underlying23 hi hz0 hz1 hz2 rfl (by decide) (.slice ua un uc) un cl.flatten (by simp [Act.eval, Act.put]) (owns_fr HCL.out.2.2.1 (by (repeat (first | (with_reducible exact Fr.refl _ _) | (with_reducible assumption) | (with_reducible exact Fr.of_nil (by assumption)) | (with_reducible refine Fr.drew ?_) | (with_reducible refine Fr.drewN ?_ _) | (with_reducible refine Fr.alloc ?_ _) | (with_reducible refine Fr.set ?_ _ _ (by first | (intros; omega) | (simp; done) | (simp; omega))) | (with_reducible refine Fr.via ?_ (by assumption)) | (with_reducible refine Fr.comp ?_ (by assumption)))))) [.string ⟨y.toArray⟩, .slice qa qn qc, .int .i64 (k' : Int), .string nm', .bool fl', .int .u64 (bi' : Int), .slice a0' n0' c0', .slice a1' n1' c1', .slice a2' n2' c2', .slice a3' n3' c3'] (by simp [Act.eval, Act.put]) rfl (by simp [Value.oneCell']) (by unfold maxLen; omega) (by omega) hVs ?_; intro v' w9 hown9 f9 hk9; obtain ⟨xa, xc, rfl⟩ := owns_shape hown9; have HO := Lib.hid (And.intro hown9 (And.intro f9 hk9)); have k9 : Fr (fun k => Value.ownBlock (.slice ua un uc) = some k) wr w9 := Fr.trans (w1 := _) (Fr.of_nil (by (repeat (first | (with_reducible exact Fr.refl _ _) | (with_reducible assumption) | (with_reducible exact Fr.of_nil (by assumption)) | (with_reducible refine Fr.drew ?_) | (with_reducible refine Fr.drewN ?_ _) | (with_reducible refine Fr.alloc ?_ _) | (with_reducible refine Fr.set ?_ _ _ (by first | (intros; omega) | (simp; done) | (simp; omega))) | (with_reducible refine Fr.via ?_ (by assumption)) | (with_reducible refine Fr.comp ?_ (by assumption)))))) f9 (fun _ _ q => q); have s9 := (k9.blk HQ.out.1 (fun q => by have h : T2 + 1 ≤ T2 := (hso _ q).1; omega)); have s91 := s9.cell 1; simp at s91; have s9l := s9.lt; have s9f := s9.free; have HB9 := Lib.hid s9; clear hown9 f9 hk9 s9))
                            all_goals
                              go_wp2
                              have fz : Fr (fun b => b = T2) W6 (w9.setCell ⟨T2, 1, none⟩ (.slice xa (un + 1) xc)) := (Fr.trans (S := fun b => b = T2) (w1 := w9) (Fr.trans (S := fun b => b = T2) (w1 := wr) HQ.out.2.2 k9 (fun q hq e => by have := (hso q e).1; omega)) (Fr.set (S := fun b => b = T2) (Fr.refl _ _) _ _ (fun _ => rfl)) (fun _ _ q => q))
                              go_roundg (nb - (j + 1))
                              case rel =>
                                refine ⟨j + 1, _, rfl, by omega, by simp, Lib.hid ⟨HB9.out.put rfl, ?_, fz⟩⟩
                                rw [nb_in HJ.out.1 HJ.out.2.1]
                                have hp : BRow T (T2 + 1) w9 (.slice xa (un + 1) xc) (nbF M.binds i x j ++ [M.binds[j]'HJ.out.1]) := BRow.push HCL.out.1 HCL.out.2.1 HJ.out.2.2 (by rw [HCL.out.2.2.2]; exact HO.out.1) (S := fun k => Value.ownBlock (.slice ua un uc) = some k) k9 (fun q e => by have := (hso q e).1; omega)
                                exact hp.fr (S := fun b => b = T2) (Fr.set (S := fun b => b = T2) (Fr.refl _ _) ⟨T2, 1, none⟩ _ (fun _ => rfl)) (fun q e => by have e2 : q = T2 := e; omega) (fun q e e2 => by have e3 : q = T2 := e2; have := (hp.own q e).1; omega)
                              case measure => omega
                      · have i2 : ¬ (j : Int) < (nb : Int) := by omega
                        obtain rfl : j = nb := by omega
                        go_wp2_with fail
                        have hmn : ModV (fun _ => False) wr ca nc cc ua un uc ⟨M.cons, nbF M.binds i x j⟩ := ⟨RowC.mono (RowC.fr H4.out.2.1.1 hFw (fun b q => by have q' : b = T2 := q; omega)) (by decide) (fun _ _ q => q.elim), H4.out.2.1.2.1, HQ.out.2.1.binds, hun⟩
                        have hfew : (nbF M.binds i x j).length + wnB (nbF M.binds i x j) ≤ 900000 := by
                          have h1 := nb_few (bs := M.binds) (i := i) (x := x) j (by rw [HB.out.2.1]; exact Nat.le_refl _)
                          have h2 := wnB_take_le M.binds j
                          have h3 := HS.out.2.1.2
                          have h4 := HB.out.2.1
                          omega
                        have hch := rcheck_any (m := ⟨M.cons, nbF M.binds i x j⟩) hmn HS.out.2.1.1 hfew
                        obtain ⟨⟨RE, RN2⟩, hR⟩ : ∃ R, chkF ⟨M.cons, nbF M.binds i x j⟩ = R := ⟨_, rfl⟩
                        rw [hR] at hch
                        have hlaw : RE = 0 → M.binds[i].name = x := fun q => scope_law (m := M) hiL (by rw [HV.out.2.2.2.1]; exact HV.out.2.2.2.2.2) (by rw [HV.out.2.2.2.1, HV.out.2.2.2.2.1, HV.out.2.2.1]; exact HP.out.2.1) (by rw [HB.out.2.1, hR]; exact q)
                        refine hch.mono ?_
                        rintro e w8 ⟨rfl, f8⟩
                        have hG : Fr Nil Vx w8 := (hFv.comp (Fr.of_nil f8)).mono (fun b hb q => by have q' : b = T2 := q; omega)
                        have HG := Lib.hid (HX.out.comp hG)
                        have bT8 := (hFw.comp (Fr.of_nil f8)).blk H4.out.1 (show ¬ T = T2 by omega)
                        have u8 := f8.cell u0 (fun q => q)
                        obtain ⟨b', off', qa, qn, qc, c', e', _, _, n8, _, _⟩ := BindsAt.ten (hm.fr f8 (fun _ q => q.elim)) hiL
                        cases e'
                        clear z0 z1 zl zf y0 y1 yl yf u0 hm hch hmn hfew hR hFw hFv bTq
                        have z0 := bT8.cell 0
                        have z1 := bT8.cell 1
                        simp at z0 z1
                        have zl := bT8.lt
                        have zf := bT8.free
                        clear bT8
                        by_cases hr : RE = 0
                        · subst hr
                          rw [hlaw rfl] at n8
                          clear hlaw
                          go_wp2_with fail
                          go_quiet (fail)
                          go_wp2
                          go_roundg (nV - (k2 + 1))
                          case rel => exact ⟨k2 + 1, rfl, by omega, by simp, Lib.hid (Fr.comp (S := Nil) HG.out (by (repeat (first | (with_reducible exact Fr.refl _ _) | (with_reducible assumption) | (with_reducible exact Fr.of_nil (by assumption)) | (with_reducible refine Fr.drew ?_) | (with_reducible refine Fr.drewN ?_ _) | (with_reducible refine Fr.alloc ?_ _) | (with_reducible refine Fr.set ?_ _ _ (by first | (intros; omega) | (simp; done) | (simp; omega))) | (with_reducible refine Fr.via ?_ (by assumption)) | (with_reducible refine Fr.comp ?_ (by assumption))))))⟩
                          case measure => omega
                        · have d7 : ((RE : Int) == 0) = false := by simp; omega
                          have i7 : ¬ (RE : Int) = 0 := by omega
                          obtain ⟨z, hz⟩ : ∃ z, M.binds[i].name = z := ⟨_, rfl⟩
                          rw [hz] at n8
                          clear hlaw hz
                          go_wp2_with fail
                          go_quiet (fail)
                          go_wp2
                          go_roundg (nV - (k2 + 1))
                          case rel => exact ⟨k2 + 1, rfl, by omega, by simp, Lib.hid (Fr.comp (S := Nil) HG.out (by (repeat (first | (with_reducible exact Fr.refl _ _) | (with_reducible assumption) | (with_reducible exact Fr.of_nil (by assumption)) | (with_reducible refine Fr.drew ?_) | (with_reducible refine Fr.drewN ?_ _) | (with_reducible refine Fr.alloc ?_ _) | (with_reducible refine Fr.set ?_ _ _ (by first | (intros; omega) | (simp; done) | (simp; omega))) | (with_reducible refine Fr.via ?_ (by assumption)) | (with_reducible refine Fr.comp ?_ (by assumption))))))⟩
                          case measure => omega
              · have i1 : ¬ (k2 : Int) < (nV : Int) := by omega
                go_wp2
                go_roundg (nb - (i + 1))
                case rel => exact ⟨i + 1, rfl, by omega, by simp, Lib.hid ((HF.out.comp HL.out.2.1).comp HX.out)⟩
                case measure => omega
          · have j1 : ¬ (i : Int) < (nb : Int) := by omega
            have HF2 := Lib.hid (H4.out.2.2.1.comp HF.out)
            clear bTr
            go_wp2
            go_ret
            exact ⟨rfl, HF2.out⟩
      · have d3 : ((RE : Int) == 0) = false := by simp; omega
        have i3 : ¬ (RE : Int) = 0 := by omega
        have z0 := H4.out.1.cell 0
        have z1 := H4.out.1.cell 1
        simp at z0 z1
        have zl := H4.out.1.lt
        have zf := H4.out.1.free
        go_wp2
        go_ret
        exact ⟨rfl, H4.out.2.2.1⟩
    · have d3 : (E1 == 0) = false := by simpa using he
      have HF2 := Lib.hid HB.out.2.2
      go_wp2
      go_ret
      exact ⟨rfl, HF2.out.comp (by (repeat (first | (with_reducible exact Fr.refl _ _) | (with_reducible assumption) | (with_reducible exact Fr.of_nil (by assumption)) | (with_reducible refine Fr.drew ?_) | (with_reducible refine Fr.drewN ?_ _) | (with_reducible refine Fr.alloc ?_ _) | (with_reducible refine Fr.set ?_ _ _ (by first | (intro _; exact rfl) | (intro _; exact .inl rfl) | (intro _; exact .inr rfl) | (intro q; exact absurd q (Nat.lt_irrefl _)) | (intro q; simp at q; omega))) | (with_reducible refine Fr.via ?_ (by assumption)) | (with_reducible refine Fr.comp ?_ (by assumption)))))⟩
  · have q1 : (3000 : Int) < (s.size : Int) := by omega
    go_enter Try.func5, Try.ntmps5
    go_wp2_with fail
    refine (awake_any w).mono ?_
    rintro e w1 ⟨rfl, f1⟩
    have HF := Lib.hid f1
    clear f1
    go_wp2
    go_ret
    exact ⟨rfl, HF.out⟩
end Go.Proofs.Ythpenpgcacikaaa
