/-
  The law ScopeFree, walked (layer 10). Conditions: the listed variable errors.errorType.
-/
import Derived.Test.YtpjlibbdngnnnaaDoorL10q
import Derived.Deep.CutBlock
import Derived.BigQuiet
namespace Go.Proofs.YtpjlibbdngnnnaaDoor
set_option linter.unusedSimpArgs false
set_option linter.unusedVariables false
open Go.RowKit

theorem owns_zero {w : World} {base size k : Nat} {e : TypeId} (h : Blk w k #[] e) (hb : base ≤ k) : w.ownsRow base e size (.slice (some ⟨k, 0, none⟩) 0 0) 0 [] :=
  ⟨by simp, .inr ⟨k, 0, #[], rfl, hb, h, Nat.le_refl _, by unfold maxLen; omega, by simp, by simp⟩⟩
theorem blk_src1 {w : World} {b : Nat} {cs : List Value} {t : TypeId} (h : Blk w b cs.toArray t) {size : Nat} (hl : cs.length = size := by rfl) : Src w (some ⟨b, 0, none⟩) 1 size cs :=
  .inr ⟨_, rfl, by rw [hl]; omega, fun j u hj => by rw [add_head, h.cell]; simpa using hj⟩
theorem row_last {w : World} {base g cap n : Nat} {e : TypeId} {A c : List Value} (hA : A.length = n * 10) (hc : c.length = 10) (h : w.ownsRow base e 10 (.slice (some ⟨g, 0, none⟩) (n + 1) cap) (n + 1) (A ++ c)) (j : Nat) (hj : j < 10) : w.cell? ⟨g, n * 10 + j, none⟩ = c[j]? := by
  rw [h.cellAt (n * 10 + j) (by omega), List.getElem?_append_right (by omega), hA, show n * 10 + j - n * 10 = j by omega]
theorem setg10 (w : World) (g n : Nat) {v0 v1 v2 v3 v4 v5 v6 v7 v8 v9 : Value} : Fr (fun k => k = g) w ((((((((((w.setCell ⟨g, n * 10 + 0, none⟩ v0).setCell ⟨g, n * 10 + 1, none⟩ v1).setCell ⟨g, n * 10 + 2, none⟩ v2).setCell ⟨g, n * 10 + 3, none⟩ v3).setCell ⟨g, n * 10 + 4, none⟩ v4).setCell ⟨g, n * 10 + 5, none⟩ v5).setCell ⟨g, n * 10 + 6, none⟩ v6).setCell ⟨g, n * 10 + 7, none⟩ v7).setCell ⟨g, n * 10 + 8, none⟩ v8).setCell ⟨g, n * 10 + 9, none⟩ v9) := by
  repeat refine Fr.set (S := fun k => k = g) ?_ _ _ (fun _ => rfl)
  exact Fr.refl _ _
theorem is_app {P : Program} {ops : Array Oper} {o : Oper} {a : Act} {w : World} {K : Act → World → Prop} {Q : Exit → Act → World → Prop} {E : Prop} (s x : Operand) (t : TypeId) (hop : o.op = Op.call { callee := Callee.builtin Builtin.append, args := #[s, x], argTypes := #[t, t] })
    (k : if Region.wanted o (yielded ops a.tmps) = true then Oper.wp P o a w K Q else E) : if Region.wanted o (yielded ops a.tmps) = true then Oper.wp P o a w K Q else E := k
theorem pre_blk {P : Program} {ops : Array Oper} {o : Oper} {a : Act} {w : World} {K : Act → World → Prop} {Q : Exit → Act → World → Prop} {E : Prop} {b : Nat} {cs : Array Value} {t : TypeId} (h : Blk w b cs t)
    (k : Blk w b cs t → (if Region.wanted o (yielded ops a.tmps) = true then Oper.wp P o a w K Q else E)) : if Region.wanted o (yielded ops a.tmps) = true then Oper.wp P o a w K Q else E := k h
set_option maxRecDepth 100000 in
set_option maxHeartbeats 8000000 in
theorem free10_any (s : ByteArray) (k : Int) (w : World) (hT : ErrT w) :
    Calls Tryd.prog 4 #[.string s, .int .i64 k] w fun r w' => r = .returned (.bool true) ∧ Fr Nil w w' := by
  obtain ⟨i0, hi, hz0, hz1, hz2⟩ := info_parts infoB
  have HT := Lib.hid hT
  by_cases hs : s.size ≤ 3000
  · have q1 : ¬ (3000 : Int) < (s.size : Int) := by omega
    have hS := parse_src s.data.toList (by rw [size_of]; unfold maxLen; omega)
    obtain ⟨⟨M, E1, E2⟩, hM⟩ : ∃ M, parseF s.data.toList = M := ⟨_, rfl⟩
    have hP := fun w1 => parse_mod s w1 (by omega) hM
    rw [hM] at hS
    obtain ⟨nc, hnc⟩ : ∃ nc, M.cons.length = nc := ⟨_, rfl⟩
    obtain ⟨nb, hnb⟩ : ∃ nb, M.binds.length = nb := ⟨_, rfl⟩
    simp only [hnc, hnb] at hP
    have HS := Lib.hid (And.intro hS (And.intro hP (And.intro hnc hnb)))
    have hS' : SrcOk M := hS
    have hnb9 : nb ≤ 4096 := by have := hS'.len; omega
    clear hS hS' hP hM hs hT hnc hnb
    go_enter Tryd.func4, Tryd.ntmps4
    go_wp2_with fail
    refine (awake10_any w HT.out).mono ?_
    rintro e w1 ⟨rfl, f1⟩
    have HF1 := Lib.hid f1
    clear f1
    go_wp2_with fail
    refine (HS.out.2.1 w1).mono ?_
    rintro e w2 ⟨ca, cc, ba, bc, rfl, hm, f2⟩
    have H2 := Lib.hid (And.intro hm (HF1.out.comp f2))
    clear hm f2
    obtain ⟨T, hTs⟩ : ∃ T, w2.heap.size = T := ⟨_, rfl⟩
    have hwT : w.heap.size ≤ T := by have := H2.out.2.size; omega
    have HTS := Lib.hid hTs
    by_cases he : E1 = 0
    · subst he
      by_cases hk0 : k < 0
      · go_wp2
        go_ret
        exact ⟨rfl, H2.out.2.comp (by (repeat (first | (with_reducible exact Fr.refl _ _) | (with_reducible assumption) | (with_reducible exact Fr.of_nil (by assumption)) | (with_reducible refine Fr.drew ?_) | (with_reducible refine Fr.drewN ?_ _) | (with_reducible refine Fr.alloc ?_ _) | (with_reducible refine Fr.set ?_ _ _ (by first | (intros; omega) | (simp; done) | (simp; omega))) | (with_reducible refine Fr.via ?_ (by assumption)) | (with_reducible refine Fr.comp ?_ (by assumption)))))⟩
      obtain ⟨t, rfl⟩ : ∃ t : Nat, k = (t : Int) := ⟨k.toNat, by omega⟩
      have q4 : (0 : Int) ≤ (t : Int) := by omega
      by_cases htn : t < nb
      · have q3 : ¬ (nb : Int) ≤ (t : Int) := by omega
        have q5 : (t : Int) < (nb : Int) := by omega
        go_upto_region 8 with fail
        try rw [hTs]
        obtain ⟨W3, hW3⟩ : ∃ W3, w2.alloc (.cells #[.slice ca nc cc, .slice ba nb bc] 26) = W3 := ⟨_, rfl⟩
        rw [hW3]
        have f3 : Fr Nil w2 W3 := by rw [← hW3]; (repeat (first | (with_reducible exact Fr.refl _ _) | (with_reducible assumption) | (with_reducible exact Fr.of_nil (by assumption)) | (with_reducible refine Fr.drew ?_) | (with_reducible refine Fr.drewN ?_ _) | (with_reducible refine Fr.alloc ?_ _) | (with_reducible refine Fr.set ?_ _ _ (by first | (intros; omega) | (simp; done) | (simp; omega))) | (with_reducible refine Fr.via ?_ (by assumption)) | (with_reducible refine Fr.comp ?_ (by assumption))))
        have b3 : Blk W3 T #[.slice ca nc cc, .slice ba nb bc] 26 := by rw [← hW3, ← hTs]; exact Blk.new _ _ _
        have hm3 := H2.out.1.fr f3 (fun _ q => q.elim)
        have hck := scheck_any hm3 HS.out.1.cn HS.out.1.ok HS.out.1.ws HS.out.1.cons (by have := HS.out.1.len; omega) (HT.out.fr (H2.out.2.comp f3))
        obtain ⟨⟨RE, RN⟩, hR⟩ : ∃ R, chkF M = R := ⟨_, rfl⟩
        rw [hR] at hck
        have z0 := b3.cell 0
        have z1 := b3.cell 1
        simp at z0 z1
        have zl := b3.lt
        have H3 := Lib.hid (And.intro f3 (And.intro b3 (And.intro hm3 hR)))
        have HK := Lib.hid hck
        clear hW3 f3 b3 hm3 hck hTs hR
        go_wp2_with fail
        refine HK.out.mono ?_
        rintro e w4 ⟨rfl, f4⟩
        have b4 := f4.blk H3.out.2.1 (fun q => q)
        clear z0 z1 zl
        have H4 := Lib.hid (And.intro (H3.out.1.comp f4) (And.intro b4 (H3.out.2.2.1.fr f4 (fun _ q => q.elim))))
        clear f4 b4 HK
        by_cases hre : RE = 0
        · subst hre
          go_wp2_with fail
          go_loopg [10] nb (fun g iv wr => ∃ j : Nat, g = nb - j ∧ j ≤ nb ∧ iv = .int .i64 (j : Int) ∧ Hid ((∀ x ∈ nmB (M.binds.take j), x ≠ q0N) ∧ Fr Nil w4 wr))
          case atStart => exact ⟨0, rfl, by omega, rfl, Lib.hid ⟨fun x hx => by simp [nmB] at hx, Fr.refl _ _⟩⟩
          case round =>
            obtain ⟨j, rfl, hjl, rfl, HY⟩ := hrel
            obtain ⟨Vr, hVr⟩ : ∃ V, V = wr := ⟨_, rfl⟩
            subst hVr
            have j0 : (0 : Int) ≤ (j : Int) := by omega
            have bTr := HY.out.2.blk H4.out.2.1 (fun q => q)
            have z0 := bTr.cell 0
            have z1 := bTr.cell 1
            simp at z0 z1
            have zl := bTr.lt
            by_cases hlt : j < nb
            · have hjL : j < M.binds.length := by rw [HS.out.2.2.2]; exact hlt
              have wk3 : IntKind.i64.wrap ((j : Int) + 1) = (j : Int) + 1 := by rw [IntKind.wrap_i64]; omega
              have i2 : (j : Int) < (nb : Int) := by omega
              obtain ⟨b', off', qa, qn, qc, c', e', hb', _, _, _, _, hrd⟩ := BindsAt.at (H4.out.2.2.2.2.1.fr HY.out.2 (fun _ q => q.elim)) hjL
              cases e'
              have n0 := (hrd Vr (Fr.refl _ _)).1
              obtain ⟨y, hy⟩ : ∃ y, M.binds[j].name = y := ⟨_, rfl⟩
              rw [hy] at n0
              have hst : nmB (M.binds.take (j + 1)) = nmB (M.binds.take j) ++ [y] := by
                unfold nmB
                rw [List.take_succ_eq_append_getElem hjL, List.map_append, List.map_singleton, hy]
              have HST := Lib.hid hst
              clear hst hy bTr hrd
              by_cases hyq : y = [113, 48]
              · subst hyq
                go_wp2
                go_ret
                exact ⟨rfl, H2.out.2.comp (H4.out.1.comp HY.out.2)⟩
              · have d6 : (y == [113, 48]) = false := by simpa using hyq
                have HYQ := Lib.hid hyq
                clear hyq
                go_wp2
                go_roundg (nb - (j + 1))
                case rel => exact ⟨j + 1, rfl, by omega, rfl, Lib.hid ⟨by
                  rw [HST.out]
                  intro x hx
                  rcases List.mem_append.1 hx with q | q
                  · exact HY.out.1 x q
                  · rw [List.mem_singleton.1 q]
                    exact HYQ.out, HY.out.2⟩⟩
                case measure => omega
            · have i2 : ¬ (j : Int) < (nb : Int) := by omega
              have hq0 : q0N ∉ nmB M.binds := fun hx => by
                refine HY.out.1 q0N ?_ rfl
                rw [List.take_of_length_le (by rw [HS.out.2.2.2]; omega)]
                exact hx
              have hjL : t < M.binds.length := by rw [HS.out.2.2.2]; exact htn
              obtain ⟨cs, hr2, hb5⟩ := H2.out.1.2.2.1
              rw [HS.out.2.2.2] at hr2
              have hrr := hr2.frN (H4.out.1.comp HY.out.2)
              obtain ⟨b', off', qa, qn, qc, c', e', hb', _, _, _, _, hrd⟩ := BindsAt.at (H4.out.2.2.2.2.1.fr HY.out.2 (fun _ q => q.elim)) hjL
              cases e'
              have n0 := (hrd Vr (Fr.refl _ _)).1
              obtain ⟨X, hX⟩ : ∃ y, M.binds[t].name = y := ⟨_, rfl⟩
              rw [hX] at n0
              have hXm : X ∈ nmB M.binds := by
                unfold nmB
                rw [← hX]
                exact List.mem_map.2 ⟨_, List.getElem_mem hjL, rfl⟩
              have HQ := Lib.hid (And.intro hq0 (And.intro hXm (And.intro hrr hb5)))
              clear hq0 hXm hrr hb5 hrd hr2 hX
              go_upto_region 19 with fail
              obtain ⟨V, hV⟩ : ∃ V, Vr.heap.size = V := ⟨_, rfl⟩
              obtain ⟨N, hN⟩ : ∃ N, V + 1 = N := ⟨_, rfl⟩
              obtain ⟨W5, hW5⟩ : ∃ W5, (Vr.alloc (.cells #[.int .i64 1, .string ⟨X.toArray⟩, .bool false, .int .u64 0, .slice none 0 0, .slice none 0 0, .slice none 0 0, .slice none 0 0] 40)).alloc (.cells #[.slice ca nc cc, .slice (some ⟨b', off', none⟩) nb bc] 26) = W5 := ⟨_, rfl⟩
              try rw [hV]
              try rw [hN]
              try rw [hW5]
              have f5 : Fr Nil Vr W5 := by rw [← hW5]; (repeat (first | (with_reducible exact Fr.refl _ _) | (with_reducible assumption) | (with_reducible exact Fr.of_nil (by assumption)) | (with_reducible refine Fr.drew ?_) | (with_reducible refine Fr.drewN ?_ _) | (with_reducible refine Fr.alloc ?_ _) | (with_reducible refine Fr.set ?_ _ _ (by first | (intros; omega) | (simp; done) | (simp; omega))) | (with_reducible refine Fr.via ?_ (by assumption)) | (with_reducible refine Fr.comp ?_ (by assumption))))
              have bV5 : Blk W5 V #[.int .i64 1, .string ⟨X.toArray⟩, .bool false, .int .u64 0, .slice none 0 0, .slice none 0 0, .slice none 0 0, .slice none 0 0] 40 := by rw [← hW5, ← hV]; (unfold Blk; simp (disch := first | omega | (simp; done) | (simp; omega)) only [hp_drew, hp_drewN, hp_alloc, hp_other, hp_same, hp_new, upd_cells, Option.map_some])
              have bN5 : Blk W5 N #[.slice ca nc cc, .slice (some ⟨b', off', none⟩) nb bc] 26 := by rw [← hW5, ← hN, ← hV]; (unfold Blk; simp (disch := first | omega | (simp; done) | (simp; omega)) only [hp_drew, hp_drewN, hp_alloc, hp_other, hp_same, hp_new, upd_cells, Option.map_some])
              have hz5 : W5.heap.size = N + 1 := by rw [← hW5, ← hN, ← hV]; simp
              have bT5 := f5.blk bTr (fun q => q)
              have hr5 := HQ.out.2.2.1.frN f5
              have hTN : T < V := by have := bTr.lt; omega
              have hs1 : ∀ W, Fr Nil W5 W → Src W (some ⟨b', off', none⟩) nb 10 (flatB cs 0 nb) := fun W g => src_take (hr5.frN g) (Nat.le_refl _)
              have hfb : ∀ j, j < nb → FormB (cs j) := fun j hj => (HQ.out.2.2.2 j (by rw [HS.out.2.2.2]; exact hj)).formB
              have HX := Lib.hid (And.intro hs1 (flatB_one hfb (t := 0) (k := nb) (by omega)))
              have HL := Lib.hid hr5.lens
              have H5 := Lib.hid (And.intro ((H4.out.1.comp HY.out.2).comp f5) (And.intro bV5 (And.intro bN5 (And.intro bT5 hz5))))
              have hz5b := Nat.le_of_eq hz5
              clear hW5 f5 bTr hs1 hfb hr5 z0 z1 zl n0 hV hb' hz5
              have b5l := bN5.lt
              have b5f := bN5.free
              have z1 := bT5.cell 1
              simp at z1
              have zl := bT5.lt
              have x0 := bV5.cell 0
              have x1 := bV5.cell 1
              have x2 := bV5.cell 2
              have x3 := bV5.cell 3
              have x4 := bV5.cell 4
              have x5 := bV5.cell 5
              have x6 := bV5.cell 6
              have x7 := bV5.cell 7
              simp at x0 x1 x2 x3 x4 x5 x6 x7
              have xl := bV5.lt
              have HK2 : Hid (∀ w', Fr (fun b => b = N) W5 w' → w'.cell? ⟨T, 1, none⟩ = some (.slice (some ⟨b', off', none⟩) nb bc) ∧ w'.cell? ⟨V, 0, none⟩ = some (.int .i64 1) ∧ w'.cell? ⟨V, 1, none⟩ = some (.string ⟨X.toArray⟩) ∧ w'.cell? ⟨V, 2, none⟩ = some (.bool false) ∧ w'.cell? ⟨V, 3, none⟩ = some (.int .u64 0) ∧ w'.cell? ⟨V, 4, none⟩ = some (.slice none 0 0) ∧ w'.cell? ⟨V, 5, none⟩ = some (.slice none 0 0) ∧ w'.cell? ⟨V, 6, none⟩ = some (.slice none 0 0) ∧ w'.cell? ⟨V, 7, none⟩ = some (.slice none 0 0)) := Lib.hid (fun w' f => ⟨f.cell z1 (fun q => by have q' : T = N := q; omega), f.cell x0 (fun q => by have q' : V = N := q; omega), f.cell x1 (fun q => by have q' : V = N := q; omega), f.cell x2 (fun q => by have q' : V = N := q; omega), f.cell x3 (fun q => by have q' : V = N := q; omega), f.cell x4 (fun q => by have q' : V = N := q; omega), f.cell x5 (fun q => by have q' : V = N := q; omega), f.cell x6 (fun q => by have q' : V = N := q; omega), f.cell x7 (fun q => by have q' : V = N := q; omega)⟩)
              clear bN5 bV5 bT5
              go_cut [] (fun wx => ∃ (A : Nat) (ya : Option Addr) (yc : Nat), Hid (Blk wx N #[.slice ca nc cc, .slice ya (nb + 1) yc] 26 ∧ wx.ownsRow (N + 1) 42 10 (.slice ya (nb + 1) yc) (nb + 1) (flatB cs 0 nb ++ [.string ⟨#[113, 48]⟩, .slice (some ⟨A, 0, none⟩) 1 1, .int .i64 1, .string ⟨X.toArray⟩, .bool false, .int .u64 0, .slice none 0 0, .slice none 0 0, .slice none 0 0, .slice none 0 0]) ∧ Blk wx A #[.string ⟨X.toArray⟩] 9 ∧ (∀ k, (Value.slice ya (nb + 1) yc).ownBlock = some k → k ≠ A) ∧ Fr (fun b => b = N) W5 wx ∧ N < A))
              case first =>
                go_region_held3 (fun w' => w'.cell? ⟨T, 1, none⟩ = some (.slice (some ⟨b', off', none⟩) nb bc) ∧ w'.cell? ⟨V, 0, none⟩ = some (.int .i64 1) ∧ w'.cell? ⟨V, 1, none⟩ = some (.string ⟨X.toArray⟩) ∧ w'.cell? ⟨V, 2, none⟩ = some (.bool false) ∧ w'.cell? ⟨V, 3, none⟩ = some (.int .u64 0) ∧ w'.cell? ⟨V, 4, none⟩ = some (.slice none 0 0) ∧ w'.cell? ⟨V, 5, none⟩ = some (.slice none 0 0) ∧ w'.cell? ⟨V, 6, none⟩ = some (.slice none 0 0) ∧ w'.cell? ⟨V, 7, none⟩ = some (.slice none 0 0)) (with_reducible refine HK2.out _ ?_; first | exact (Fr.of_nil f7).set _ _ (fun _ => rfl) | exact Fr.of_nil (by assumption) | exact Fr.of_nil (by (repeat (first | (with_reducible exact Fr.refl _ _) | (with_reducible assumption) | (with_reducible exact Fr.of_nil (by assumption)) | (with_reducible refine Fr.drew ?_) | (with_reducible refine Fr.drewN ?_ _) | (with_reducible refine Fr.alloc ?_ _) | (with_reducible refine Fr.set ?_ _ _ (by first | (intros; omega) | (simp; done) | (simp; omega))) | (with_reducible refine Fr.via ?_ (by assumption)) | (with_reducible refine Fr.comp ?_ (by assumption)))))) (first
          | (refine is_app (.tmp 76) (.tmp 78) 24 rfl ?_; first
            | (refine pre_blk (b := W5.heap.size) (cs := #[]) (t := 42) ?_ ?_; (focus ((unfold Blk; simp (disch := first | omega | (simp; done) | (simp; omega)) only [hp_drew, hp_drewN, hp_alloc, hp_other, hp_same, hp_new, upd_cells, Option.map_some]); done)); intro p0; refine pre_blk (b := W5.heap.size + 1) (cs := #[.string ⟨X.toArray⟩]) (t := 9) ?_ ?_; (focus ((unfold Blk; simp (disch := first | omega | (simp; done) | (simp; omega)) only [hp_drew, hp_drewN, hp_alloc, hp_other, hp_same, hp_new, upd_cells, Option.map_some]); done)); intro p1; refine pre_blk (b := W5.heap.size + 1 + 1) (cs := #[.string ⟨#[113, 48]⟩, .slice (some ⟨W5.heap.size + 1, 0, none⟩) 1 1, .int .i64 1, .string ⟨X.toArray⟩, .bool false, .int .u64 0, .slice none 0 0, .slice none 0 0, .slice none 0 0, .slice none 0 0]) (t := 42) ?_ ?_; (focus ((unfold Blk; simp (disch := first | omega | (simp; done) | (simp; omega)) only [hp_drew, hp_drewN, hp_alloc, hp_other, hp_same, hp_new, upd_cells, Option.map_some]); done)); intro p2; refine step_append_src rfl (.tmp 76) (.tmp 78) 24 rfl (N + 1) 42 i0 (.agg #[.string ⟨#[]⟩, .slice none 0 0, .int .i64 0, .string ⟨#[]⟩, .bool false, .int .u64 0, .slice none 0 0, .slice none 0 0, .slice none 0 0, .slice none 0 0]) 10 176 Tryd.underlying24 hi hz0 hz1 hz2 rfl (by decide) (.slice (some ⟨W5.heap.size, 0, none⟩) 0 0) 0 [] (by simp [Act.eval, Act.put]) (owns_zero p0 (by omega)) (some ⟨b', off', none⟩) nb bc (flatB cs 0 nb) (by simp [Act.eval, Act.put]) (HX.out.1 _ (by (repeat (first | (with_reducible exact Fr.refl _ _) | (with_reducible assumption) | (with_reducible exact Fr.of_nil (by assumption)) | (with_reducible refine Fr.drew ?_) | (with_reducible refine Fr.drewN ?_ _) | (with_reducible refine Fr.alloc ?_ _) | (with_reducible refine Fr.set ?_ _ _ (by first | (intros; omega) | (simp; done) | (simp; omega))) | (with_reducible refine Fr.via ?_ (by assumption)) | (with_reducible refine Fr.comp ?_ (by assumption)))))) HX.out.2 (by unfold maxLen; omega) (by omega) (by first | omega | (simp; omega)) ?_; intro u1 w6 hown g6 hk6; have f6 : Fr Nil W5 w6 := Fr.grown (S := Nil) (by (repeat (first | (with_reducible exact Fr.refl _ _) | (with_reducible assumption) | (with_reducible exact Fr.of_nil (by assumption)) | (with_reducible refine Fr.drew ?_) | (with_reducible refine Fr.drewN ?_ _) | (with_reducible refine Fr.alloc ?_ _) | (with_reducible refine Fr.set ?_ _ _ (by first | (intros; omega) | (simp; done) | (simp; omega))) | (with_reducible refine Fr.via ?_ (by assumption)) | (with_reducible refine Fr.comp ?_ (by assumption))))) g6 (fun k q hk => by simp [Value.ownBlock] at q; omega); have nm6 := (Fr.grown (S := fun k => k = W5.heap.size) (Fr.refl _ _) g6 (fun k q hk => by have e : some (W5.heap.size) = some k := q; injection e with e; exact e.symm)).blk p1 (fun z => by have z' : W5.heap.size + 1 = W5.heap.size := z; omega); have ow6 : ∀ k, u1.ownBlock = some k → k ≠ W5.heap.size + 1 := (fun k e => by rcases hk6 with r | r <;> rw [r] at e <;> simp [Value.ownBlock] at e <;> omega); have HNM := Lib.hid (And.intro nm6 ow6); clear nm6 ow6 p1; have bd6 := (Fr.grown (S := fun k => k = W5.heap.size) (Fr.refl _ _) g6 (fun k q hk => by have e : some (W5.heap.size) = some k := q; injection e with e; exact e.symm)).blk p2 (fun z => by have z' : W5.heap.size + 1 + 1 = W5.heap.size := z; omega); have HBD := Lib.hid bd6; clear bd6 p2; have H6 := Lib.hid (And.intro (show w6.ownsRow (N + 1) 42 10 u1 nb (flatB cs 0 nb) by rw [Nat.zero_add, List.nil_append] at hown; exact hown) True.intro); have sz6 := f6.size; clear hown g6 hk6 p0)
            | (refine pre_blk (b := W5.heap.size) (cs := #[]) (t := 42) ?_ ?_; (focus ((unfold Blk; simp (disch := first | omega | (simp; done) | (simp; omega)) only [hp_drew, hp_drewN, hp_alloc, hp_other, hp_same, hp_new, upd_cells, Option.map_some]); done)); intro p0; refine pre_blk (b := W5.heap.size + 1) (cs := #[.string ⟨X.toArray⟩]) (t := 9) ?_ ?_; (focus ((unfold Blk; simp (disch := first | omega | (simp; done) | (simp; omega)) only [hp_drew, hp_drewN, hp_alloc, hp_other, hp_same, hp_new, upd_cells, Option.map_some]); done)); intro p1; refine step_append_src rfl (.tmp 76) (.tmp 78) 24 rfl (N + 1) 42 i0 (.agg #[.string ⟨#[]⟩, .slice none 0 0, .int .i64 0, .string ⟨#[]⟩, .bool false, .int .u64 0, .slice none 0 0, .slice none 0 0, .slice none 0 0, .slice none 0 0]) 10 176 Tryd.underlying24 hi hz0 hz1 hz2 rfl (by decide) (.slice (some ⟨W5.heap.size, 0, none⟩) 0 0) 0 [] (by simp [Act.eval, Act.put]) (owns_zero p0 (by omega)) (some ⟨b', off', none⟩) nb bc (flatB cs 0 nb) (by simp [Act.eval, Act.put]) (HX.out.1 _ (by (repeat (first | (with_reducible exact Fr.refl _ _) | (with_reducible assumption) | (with_reducible exact Fr.of_nil (by assumption)) | (with_reducible refine Fr.drew ?_) | (with_reducible refine Fr.drewN ?_ _) | (with_reducible refine Fr.alloc ?_ _) | (with_reducible refine Fr.set ?_ _ _ (by first | (intros; omega) | (simp; done) | (simp; omega))) | (with_reducible refine Fr.via ?_ (by assumption)) | (with_reducible refine Fr.comp ?_ (by assumption)))))) HX.out.2 (by unfold maxLen; omega) (by omega) (by first | omega | (simp; omega)) ?_; intro u1 w6 hown g6 hk6; have f6 : Fr Nil W5 w6 := Fr.grown (S := Nil) (by (repeat (first | (with_reducible exact Fr.refl _ _) | (with_reducible assumption) | (with_reducible exact Fr.of_nil (by assumption)) | (with_reducible refine Fr.drew ?_) | (with_reducible refine Fr.drewN ?_ _) | (with_reducible refine Fr.alloc ?_ _) | (with_reducible refine Fr.set ?_ _ _ (by first | (intros; omega) | (simp; done) | (simp; omega))) | (with_reducible refine Fr.via ?_ (by assumption)) | (with_reducible refine Fr.comp ?_ (by assumption))))) g6 (fun k q hk => by simp [Value.ownBlock] at q; omega); have nm6 := (Fr.grown (S := fun k => k = W5.heap.size) (Fr.refl _ _) g6 (fun k q hk => by have e : some (W5.heap.size) = some k := q; injection e with e; exact e.symm)).blk p1 (fun z => by have z' : W5.heap.size + 1 = W5.heap.size := z; omega); have ow6 : ∀ k, u1.ownBlock = some k → k ≠ W5.heap.size + 1 := (fun k e => by rcases hk6 with r | r <;> rw [r] at e <;> simp [Value.ownBlock] at e <;> omega); have HNM := Lib.hid (And.intro nm6 ow6); clear nm6 ow6 p1; have H6 := Lib.hid (And.intro (show w6.ownsRow (N + 1) 42 10 u1 nb (flatB cs 0 nb) by rw [Nat.zero_add, List.nil_append] at hown; exact hown) True.intro); have sz6 := f6.size; clear hown g6 hk6 p0)
            | (refine pre_blk (b := W5.heap.size) (cs := #[]) (t := 42) ?_ ?_; (focus ((unfold Blk; simp (disch := first | omega | (simp; done) | (simp; omega)) only [hp_drew, hp_drewN, hp_alloc, hp_other, hp_same, hp_new, upd_cells, Option.map_some]); done)); intro p0; refine step_append_src rfl (.tmp 76) (.tmp 78) 24 rfl (N + 1) 42 i0 (.agg #[.string ⟨#[]⟩, .slice none 0 0, .int .i64 0, .string ⟨#[]⟩, .bool false, .int .u64 0, .slice none 0 0, .slice none 0 0, .slice none 0 0, .slice none 0 0]) 10 176 Tryd.underlying24 hi hz0 hz1 hz2 rfl (by decide) (.slice (some ⟨W5.heap.size, 0, none⟩) 0 0) 0 [] (by simp [Act.eval, Act.put]) (owns_zero p0 (by omega)) (some ⟨b', off', none⟩) nb bc (flatB cs 0 nb) (by simp [Act.eval, Act.put]) (HX.out.1 _ (by (repeat (first | (with_reducible exact Fr.refl _ _) | (with_reducible assumption) | (with_reducible exact Fr.of_nil (by assumption)) | (with_reducible refine Fr.drew ?_) | (with_reducible refine Fr.drewN ?_ _) | (with_reducible refine Fr.alloc ?_ _) | (with_reducible refine Fr.set ?_ _ _ (by first | (intros; omega) | (simp; done) | (simp; omega))) | (with_reducible refine Fr.via ?_ (by assumption)) | (with_reducible refine Fr.comp ?_ (by assumption)))))) HX.out.2 (by unfold maxLen; omega) (by omega) (by first | omega | (simp; omega)) ?_; intro u1 w6 hown g6 hk6; have f6 : Fr Nil W5 w6 := Fr.grown (S := Nil) (by (repeat (first | (with_reducible exact Fr.refl _ _) | (with_reducible assumption) | (with_reducible exact Fr.of_nil (by assumption)) | (with_reducible refine Fr.drew ?_) | (with_reducible refine Fr.drewN ?_ _) | (with_reducible refine Fr.alloc ?_ _) | (with_reducible refine Fr.set ?_ _ _ (by first | (intros; omega) | (simp; done) | (simp; omega))) | (with_reducible refine Fr.via ?_ (by assumption)) | (with_reducible refine Fr.comp ?_ (by assumption))))) g6 (fun k q hk => by simp [Value.ownBlock] at q; omega); have H6 := Lib.hid (And.intro (show w6.ownsRow (N + 1) 42 10 u1 nb (flatB cs 0 nb) by rw [Nat.zero_add, List.nil_append] at hown; exact hown) True.intro); have sz6 := f6.size; clear hown g6 hk6 p0)
            | (refine pre_blk (b := W5.heap.size + 1) (cs := #[]) (t := 42) ?_ ?_; (focus ((unfold Blk; simp (disch := first | omega | (simp; done) | (simp; omega)) only [hp_drew, hp_drewN, hp_alloc, hp_other, hp_same, hp_new, upd_cells, Option.map_some]); done)); intro p0; refine pre_blk (b := W5.heap.size) (cs := #[.string ⟨X.toArray⟩]) (t := 9) ?_ ?_; (focus ((unfold Blk; simp (disch := first | omega | (simp; done) | (simp; omega)) only [hp_drew, hp_drewN, hp_alloc, hp_other, hp_same, hp_new, upd_cells, Option.map_some]); done)); intro p1; refine pre_blk (b := W5.heap.size + 1 + 1) (cs := #[.string ⟨#[113, 48]⟩, .slice (some ⟨W5.heap.size, 0, none⟩) 1 1, .int .i64 1, .string ⟨X.toArray⟩, .bool false, .int .u64 0, .slice none 0 0, .slice none 0 0, .slice none 0 0, .slice none 0 0]) (t := 42) ?_ ?_; (focus ((unfold Blk; simp (disch := first | omega | (simp; done) | (simp; omega)) only [hp_drew, hp_drewN, hp_alloc, hp_other, hp_same, hp_new, upd_cells, Option.map_some]); done)); intro p2; refine step_append_src rfl (.tmp 76) (.tmp 78) 24 rfl (N + 1) 42 i0 (.agg #[.string ⟨#[]⟩, .slice none 0 0, .int .i64 0, .string ⟨#[]⟩, .bool false, .int .u64 0, .slice none 0 0, .slice none 0 0, .slice none 0 0, .slice none 0 0]) 10 176 Tryd.underlying24 hi hz0 hz1 hz2 rfl (by decide) (.slice (some ⟨W5.heap.size + 1, 0, none⟩) 0 0) 0 [] (by simp [Act.eval, Act.put]) (owns_zero p0 (by omega)) (some ⟨b', off', none⟩) nb bc (flatB cs 0 nb) (by simp [Act.eval, Act.put]) (HX.out.1 _ (by (repeat (first | (with_reducible exact Fr.refl _ _) | (with_reducible assumption) | (with_reducible exact Fr.of_nil (by assumption)) | (with_reducible refine Fr.drew ?_) | (with_reducible refine Fr.drewN ?_ _) | (with_reducible refine Fr.alloc ?_ _) | (with_reducible refine Fr.set ?_ _ _ (by first | (intros; omega) | (simp; done) | (simp; omega))) | (with_reducible refine Fr.via ?_ (by assumption)) | (with_reducible refine Fr.comp ?_ (by assumption)))))) HX.out.2 (by unfold maxLen; omega) (by omega) (by first | omega | (simp; omega)) ?_; intro u1 w6 hown g6 hk6; have f6 : Fr Nil W5 w6 := Fr.grown (S := Nil) (by (repeat (first | (with_reducible exact Fr.refl _ _) | (with_reducible assumption) | (with_reducible exact Fr.of_nil (by assumption)) | (with_reducible refine Fr.drew ?_) | (with_reducible refine Fr.drewN ?_ _) | (with_reducible refine Fr.alloc ?_ _) | (with_reducible refine Fr.set ?_ _ _ (by first | (intros; omega) | (simp; done) | (simp; omega))) | (with_reducible refine Fr.via ?_ (by assumption)) | (with_reducible refine Fr.comp ?_ (by assumption))))) g6 (fun k q hk => by simp [Value.ownBlock] at q; omega); have nm6 := (Fr.grown (S := fun k => k = W5.heap.size + 1) (Fr.refl _ _) g6 (fun k q hk => by have e : some (W5.heap.size + 1) = some k := q; injection e with e; exact e.symm)).blk p1 (fun z => by have z' : W5.heap.size = W5.heap.size + 1 := z; omega); have ow6 : ∀ k, u1.ownBlock = some k → k ≠ W5.heap.size := (fun k e => by rcases hk6 with r | r <;> rw [r] at e <;> simp [Value.ownBlock] at e <;> omega); have HNM := Lib.hid (And.intro nm6 ow6); clear nm6 ow6 p1; have bd6 := (Fr.grown (S := fun k => k = W5.heap.size + 1) (Fr.refl _ _) g6 (fun k q hk => by have e : some (W5.heap.size + 1) = some k := q; injection e with e; exact e.symm)).blk p2 (fun z => by have z' : W5.heap.size + 1 + 1 = W5.heap.size + 1 := z; omega); have HBD := Lib.hid bd6; clear bd6 p2; have H6 := Lib.hid (And.intro (show w6.ownsRow (N + 1) 42 10 u1 nb (flatB cs 0 nb) by rw [Nat.zero_add, List.nil_append] at hown; exact hown) True.intro); have sz6 := f6.size; clear hown g6 hk6 p0)
            | (refine pre_blk (b := W5.heap.size + 1) (cs := #[]) (t := 42) ?_ ?_; (focus ((unfold Blk; simp (disch := first | omega | (simp; done) | (simp; omega)) only [hp_drew, hp_drewN, hp_alloc, hp_other, hp_same, hp_new, upd_cells, Option.map_some]); done)); intro p0; refine pre_blk (b := W5.heap.size) (cs := #[.string ⟨X.toArray⟩]) (t := 9) ?_ ?_; (focus ((unfold Blk; simp (disch := first | omega | (simp; done) | (simp; omega)) only [hp_drew, hp_drewN, hp_alloc, hp_other, hp_same, hp_new, upd_cells, Option.map_some]); done)); intro p1; refine step_append_src rfl (.tmp 76) (.tmp 78) 24 rfl (N + 1) 42 i0 (.agg #[.string ⟨#[]⟩, .slice none 0 0, .int .i64 0, .string ⟨#[]⟩, .bool false, .int .u64 0, .slice none 0 0, .slice none 0 0, .slice none 0 0, .slice none 0 0]) 10 176 Tryd.underlying24 hi hz0 hz1 hz2 rfl (by decide) (.slice (some ⟨W5.heap.size + 1, 0, none⟩) 0 0) 0 [] (by simp [Act.eval, Act.put]) (owns_zero p0 (by omega)) (some ⟨b', off', none⟩) nb bc (flatB cs 0 nb) (by simp [Act.eval, Act.put]) (HX.out.1 _ (by (repeat (first | (with_reducible exact Fr.refl _ _) | (with_reducible assumption) | (with_reducible exact Fr.of_nil (by assumption)) | (with_reducible refine Fr.drew ?_) | (with_reducible refine Fr.drewN ?_ _) | (with_reducible refine Fr.alloc ?_ _) | (with_reducible refine Fr.set ?_ _ _ (by first | (intros; omega) | (simp; done) | (simp; omega))) | (with_reducible refine Fr.via ?_ (by assumption)) | (with_reducible refine Fr.comp ?_ (by assumption)))))) HX.out.2 (by unfold maxLen; omega) (by omega) (by first | omega | (simp; omega)) ?_; intro u1 w6 hown g6 hk6; have f6 : Fr Nil W5 w6 := Fr.grown (S := Nil) (by (repeat (first | (with_reducible exact Fr.refl _ _) | (with_reducible assumption) | (with_reducible exact Fr.of_nil (by assumption)) | (with_reducible refine Fr.drew ?_) | (with_reducible refine Fr.drewN ?_ _) | (with_reducible refine Fr.alloc ?_ _) | (with_reducible refine Fr.set ?_ _ _ (by first | (intros; omega) | (simp; done) | (simp; omega))) | (with_reducible refine Fr.via ?_ (by assumption)) | (with_reducible refine Fr.comp ?_ (by assumption))))) g6 (fun k q hk => by simp [Value.ownBlock] at q; omega); have nm6 := (Fr.grown (S := fun k => k = W5.heap.size + 1) (Fr.refl _ _) g6 (fun k q hk => by have e : some (W5.heap.size + 1) = some k := q; injection e with e; exact e.symm)).blk p1 (fun z => by have z' : W5.heap.size = W5.heap.size + 1 := z; omega); have ow6 : ∀ k, u1.ownBlock = some k → k ≠ W5.heap.size := (fun k e => by rcases hk6 with r | r <;> rw [r] at e <;> simp [Value.ownBlock] at e <;> omega); have HNM := Lib.hid (And.intro nm6 ow6); clear nm6 ow6 p1; have H6 := Lib.hid (And.intro (show w6.ownsRow (N + 1) 42 10 u1 nb (flatB cs 0 nb) by rw [Nat.zero_add, List.nil_append] at hown; exact hown) True.intro); have sz6 := f6.size; clear hown g6 hk6 p0)
            | (refine pre_blk (b := W5.heap.size + 1 + 1) (cs := #[]) (t := 42) ?_ ?_; (focus ((unfold Blk; simp (disch := first | omega | (simp; done) | (simp; omega)) only [hp_drew, hp_drewN, hp_alloc, hp_other, hp_same, hp_new, upd_cells, Option.map_some]); done)); intro p0; refine pre_blk (b := W5.heap.size) (cs := #[.string ⟨X.toArray⟩]) (t := 9) ?_ ?_; (focus ((unfold Blk; simp (disch := first | omega | (simp; done) | (simp; omega)) only [hp_drew, hp_drewN, hp_alloc, hp_other, hp_same, hp_new, upd_cells, Option.map_some]); done)); intro p1; refine pre_blk (b := W5.heap.size + 1) (cs := #[.string ⟨#[113, 48]⟩, .slice (some ⟨W5.heap.size, 0, none⟩) 1 1, .int .i64 1, .string ⟨X.toArray⟩, .bool false, .int .u64 0, .slice none 0 0, .slice none 0 0, .slice none 0 0, .slice none 0 0]) (t := 42) ?_ ?_; (focus ((unfold Blk; simp (disch := first | omega | (simp; done) | (simp; omega)) only [hp_drew, hp_drewN, hp_alloc, hp_other, hp_same, hp_new, upd_cells, Option.map_some]); done)); intro p2; refine step_append_src rfl (.tmp 76) (.tmp 78) 24 rfl (N + 1) 42 i0 (.agg #[.string ⟨#[]⟩, .slice none 0 0, .int .i64 0, .string ⟨#[]⟩, .bool false, .int .u64 0, .slice none 0 0, .slice none 0 0, .slice none 0 0, .slice none 0 0]) 10 176 Tryd.underlying24 hi hz0 hz1 hz2 rfl (by decide) (.slice (some ⟨W5.heap.size + 1 + 1, 0, none⟩) 0 0) 0 [] (by simp [Act.eval, Act.put]) (owns_zero p0 (by omega)) (some ⟨b', off', none⟩) nb bc (flatB cs 0 nb) (by simp [Act.eval, Act.put]) (HX.out.1 _ (by (repeat (first | (with_reducible exact Fr.refl _ _) | (with_reducible assumption) | (with_reducible exact Fr.of_nil (by assumption)) | (with_reducible refine Fr.drew ?_) | (with_reducible refine Fr.drewN ?_ _) | (with_reducible refine Fr.alloc ?_ _) | (with_reducible refine Fr.set ?_ _ _ (by first | (intros; omega) | (simp; done) | (simp; omega))) | (with_reducible refine Fr.via ?_ (by assumption)) | (with_reducible refine Fr.comp ?_ (by assumption)))))) HX.out.2 (by unfold maxLen; omega) (by omega) (by first | omega | (simp; omega)) ?_; intro u1 w6 hown g6 hk6; have f6 : Fr Nil W5 w6 := Fr.grown (S := Nil) (by (repeat (first | (with_reducible exact Fr.refl _ _) | (with_reducible assumption) | (with_reducible exact Fr.of_nil (by assumption)) | (with_reducible refine Fr.drew ?_) | (with_reducible refine Fr.drewN ?_ _) | (with_reducible refine Fr.alloc ?_ _) | (with_reducible refine Fr.set ?_ _ _ (by first | (intros; omega) | (simp; done) | (simp; omega))) | (with_reducible refine Fr.via ?_ (by assumption)) | (with_reducible refine Fr.comp ?_ (by assumption))))) g6 (fun k q hk => by simp [Value.ownBlock] at q; omega); have nm6 := (Fr.grown (S := fun k => k = W5.heap.size + 1 + 1) (Fr.refl _ _) g6 (fun k q hk => by have e : some (W5.heap.size + 1 + 1) = some k := q; injection e with e; exact e.symm)).blk p1 (fun z => by have z' : W5.heap.size = W5.heap.size + 1 + 1 := z; omega); have ow6 : ∀ k, u1.ownBlock = some k → k ≠ W5.heap.size := (fun k e => by rcases hk6 with r | r <;> rw [r] at e <;> simp [Value.ownBlock] at e <;> omega); have HNM := Lib.hid (And.intro nm6 ow6); clear nm6 ow6 p1; have bd6 := (Fr.grown (S := fun k => k = W5.heap.size + 1 + 1) (Fr.refl _ _) g6 (fun k q hk => by have e : some (W5.heap.size + 1 + 1) = some k := q; injection e with e; exact e.symm)).blk p2 (fun z => by have z' : W5.heap.size + 1 = W5.heap.size + 1 + 1 := z; omega); have HBD := Lib.hid bd6; clear bd6 p2; have H6 := Lib.hid (And.intro (show w6.ownsRow (N + 1) 42 10 u1 nb (flatB cs 0 nb) by rw [Nat.zero_add, List.nil_append] at hown; exact hown) True.intro); have sz6 := f6.size; clear hown g6 hk6 p0))
          | (refine is_app (.tmp 79) (.tmp 84) 24 rfl ?_; first
            | (refine pre_blk (b := w6.heap.size) (cs := #[.string ⟨X.toArray⟩]) (t := 9) ?_ ?_; (focus ((unfold Blk; simp (disch := first | omega | (simp; done) | (simp; omega)) only [hp_drew, hp_drewN, hp_alloc, hp_other, hp_same, hp_new, upd_cells, Option.map_some]); done)); intro p1; refine pre_blk (b := w6.heap.size + 1) (cs := #[.string ⟨#[113, 48]⟩, .slice (some ⟨w6.heap.size, 0, none⟩) 1 1, .int .i64 1, .string ⟨X.toArray⟩, .bool false, .int .u64 0, .slice none 0 0, .slice none 0 0, .slice none 0 0, .slice none 0 0]) (t := 42) ?_ ?_; (focus ((unfold Blk; simp (disch := first | omega | (simp; done) | (simp; omega)) only [hp_drew, hp_drewN, hp_alloc, hp_other, hp_same, hp_new, upd_cells, Option.map_some]); done)); intro p2; refine step_append_src rfl (.tmp 79) (.tmp 84) 24 rfl (N + 1) 42 i0 (.agg #[.string ⟨#[]⟩, .slice none 0 0, .int .i64 0, .string ⟨#[]⟩, .bool false, .int .u64 0, .slice none 0 0, .slice none 0 0, .slice none 0 0, .slice none 0 0]) 10 176 Tryd.underlying24 hi hz0 hz1 hz2 rfl (by decide) u1 nb (flatB cs 0 nb) (by simp [Act.eval, Act.put]) (owns_fr H6.out.1 (by (repeat (first | (with_reducible exact Fr.refl _ _) | (with_reducible assumption) | (with_reducible exact Fr.of_nil (by assumption)) | (with_reducible refine Fr.drew ?_) | (with_reducible refine Fr.drewN ?_ _) | (with_reducible refine Fr.alloc ?_ _) | (with_reducible refine Fr.set ?_ _ _ (by first | (intros; omega) | (simp; done) | (simp; omega))) | (with_reducible refine Fr.via ?_ (by assumption)) | (with_reducible refine Fr.comp ?_ (by assumption)))))) (some ⟨w6.heap.size + 1, 0, none⟩) 1 1 [.string ⟨#[113, 48]⟩, .slice (some ⟨w6.heap.size, 0, none⟩) 1 1, .int .i64 1, .string ⟨X.toArray⟩, .bool false, .int .u64 0, .slice none 0 0, .slice none 0 0, .slice none 0 0, .slice none 0 0] (by simp [Act.eval, Act.put]) (blk_src1 (t := 42) p2) (by simp [Value.oneCell']) (by unfold maxLen; omega) (by omega) (by first | omega | (simp; omega)) ?_; intro u2 w7 hown g7 hk7; have f7 : Fr Nil W5 w7 := Fr.grown (S := Nil) (by (repeat (first | (with_reducible exact Fr.refl _ _) | (with_reducible assumption) | (with_reducible exact Fr.of_nil (by assumption)) | (with_reducible refine Fr.drew ?_) | (with_reducible refine Fr.drewN ?_ _) | (with_reducible refine Fr.alloc ?_ _) | (with_reducible refine Fr.set ?_ _ _ (by first | (intros; omega) | (simp; done) | (simp; omega))) | (with_reducible refine Fr.via ?_ (by assumption)) | (with_reducible refine Fr.comp ?_ (by assumption))))) g7 (fun k q hk => by have := (H6.out.1.lt k q).1; omega); have nm7 : Blk w7 (w6.heap.size) #[.string ⟨X.toArray⟩] 9 := (Fr.grown (S := fun k => u1.ownBlock = some k) (Fr.refl _ _) g7 (fun k q hk => q)).blk p1 (fun e => absurd (H6.out.1.lt _ e).2 (Nat.lt_irrefl _)); have ow7 : ∀ k, u2.ownBlock = some k → k ≠ w6.heap.size := (fun k e => by rcases hk7 with r | r; (rw [r] at e; exact Nat.ne_of_lt (H6.out.1.lt k e).2); (have hq := p1.lt; rw [r] at e; injection e with e; rw [← e]; exact Nat.ne_of_gt hq)); have H7 := Lib.hid (show ∃ A, w7.ownsRow (N + 1) 42 10 u2 (nb + 1) (flatB cs 0 nb ++ [.string ⟨#[113, 48]⟩, .slice (some ⟨A, 0, none⟩) 1 1, .int .i64 1, .string ⟨X.toArray⟩, .bool false, .int .u64 0, .slice none 0 0, .slice none 0 0, .slice none 0 0, .slice none 0 0]) ∧ Blk w7 A #[.string ⟨X.toArray⟩] 9 ∧ (∀ k, u2.ownBlock = some k → k ≠ A) ∧ Fr Nil W5 w7 ∧ N < A from ⟨_, hown, nm7, ow7, f7, by omega⟩); obtain ⟨ya, yc, rfl⟩ := owns_shape hown; have s7 := f7.blk H5.out.2.2.1 (fun q => q); have s71 := s7.cell 1; simp at s71; have s7l := s7.lt; have s7f := s7.free; clear hown g7 hk7 s7 nm7 ow7 p1 p2)
            | (refine pre_blk (b := W5.heap.size) (cs := #[.string ⟨X.toArray⟩]) (t := 9) ?_ ?_; (focus (refine Fr.blk (S := Nil) ?_ (HNM.out.1) (fun q => q); ((repeat (first | (with_reducible exact Fr.refl _ _) | (with_reducible assumption) | (with_reducible exact Fr.of_nil (by assumption)) | (with_reducible refine Fr.drew ?_) | (with_reducible refine Fr.drewN ?_ _) | (with_reducible refine Fr.alloc ?_ _) | (with_reducible refine Fr.set ?_ _ _ (by first | (intros; omega) | (simp; done) | (simp; omega))) | (with_reducible refine Fr.via ?_ (by assumption)) | (with_reducible refine Fr.comp ?_ (by assumption))))); done)); intro p1; refine pre_blk (b := w6.heap.size) (cs := #[.string ⟨#[113, 48]⟩, .slice (some ⟨W5.heap.size, 0, none⟩) 1 1, .int .i64 1, .string ⟨X.toArray⟩, .bool false, .int .u64 0, .slice none 0 0, .slice none 0 0, .slice none 0 0, .slice none 0 0]) (t := 42) ?_ ?_; (focus ((unfold Blk; simp (disch := first | omega | (simp; done) | (simp; omega)) only [hp_drew, hp_drewN, hp_alloc, hp_other, hp_same, hp_new, upd_cells, Option.map_some]); done)); intro p2; refine step_append_src rfl (.tmp 79) (.tmp 84) 24 rfl (N + 1) 42 i0 (.agg #[.string ⟨#[]⟩, .slice none 0 0, .int .i64 0, .string ⟨#[]⟩, .bool false, .int .u64 0, .slice none 0 0, .slice none 0 0, .slice none 0 0, .slice none 0 0]) 10 176 Tryd.underlying24 hi hz0 hz1 hz2 rfl (by decide) u1 nb (flatB cs 0 nb) (by simp [Act.eval, Act.put]) (owns_fr H6.out.1 (by (repeat (first | (with_reducible exact Fr.refl _ _) | (with_reducible assumption) | (with_reducible exact Fr.of_nil (by assumption)) | (with_reducible refine Fr.drew ?_) | (with_reducible refine Fr.drewN ?_ _) | (with_reducible refine Fr.alloc ?_ _) | (with_reducible refine Fr.set ?_ _ _ (by first | (intros; omega) | (simp; done) | (simp; omega))) | (with_reducible refine Fr.via ?_ (by assumption)) | (with_reducible refine Fr.comp ?_ (by assumption)))))) (some ⟨w6.heap.size, 0, none⟩) 1 1 [.string ⟨#[113, 48]⟩, .slice (some ⟨W5.heap.size, 0, none⟩) 1 1, .int .i64 1, .string ⟨X.toArray⟩, .bool false, .int .u64 0, .slice none 0 0, .slice none 0 0, .slice none 0 0, .slice none 0 0] (by simp [Act.eval, Act.put]) (blk_src1 (t := 42) p2) (by simp [Value.oneCell']) (by unfold maxLen; omega) (by omega) (by first | omega | (simp; omega)) ?_; intro u2 w7 hown g7 hk7; have f7 : Fr Nil W5 w7 := Fr.grown (S := Nil) (by (repeat (first | (with_reducible exact Fr.refl _ _) | (with_reducible assumption) | (with_reducible exact Fr.of_nil (by assumption)) | (with_reducible refine Fr.drew ?_) | (with_reducible refine Fr.drewN ?_ _) | (with_reducible refine Fr.alloc ?_ _) | (with_reducible refine Fr.set ?_ _ _ (by first | (intros; omega) | (simp; done) | (simp; omega))) | (with_reducible refine Fr.via ?_ (by assumption)) | (with_reducible refine Fr.comp ?_ (by assumption))))) g7 (fun k q hk => by have := (H6.out.1.lt k q).1; omega); have nm7 : Blk w7 (W5.heap.size) #[.string ⟨X.toArray⟩] 9 := (Fr.grown (S := fun k => u1.ownBlock = some k) (Fr.refl _ _) g7 (fun k q hk => q)).blk p1 (fun e => HNM.out.2 _ e rfl); have ow7 : ∀ k, u2.ownBlock = some k → k ≠ W5.heap.size := (fun k e => by rcases hk7 with r | r; (rw [r] at e; exact HNM.out.2 k e); (have hq := p1.lt; rw [r] at e; injection e with e; rw [← e]; exact Nat.ne_of_gt hq)); have H7 := Lib.hid (show ∃ A, w7.ownsRow (N + 1) 42 10 u2 (nb + 1) (flatB cs 0 nb ++ [.string ⟨#[113, 48]⟩, .slice (some ⟨A, 0, none⟩) 1 1, .int .i64 1, .string ⟨X.toArray⟩, .bool false, .int .u64 0, .slice none 0 0, .slice none 0 0, .slice none 0 0, .slice none 0 0]) ∧ Blk w7 A #[.string ⟨X.toArray⟩] 9 ∧ (∀ k, u2.ownBlock = some k → k ≠ A) ∧ Fr Nil W5 w7 ∧ N < A from ⟨_, hown, nm7, ow7, f7, by omega⟩); obtain ⟨ya, yc, rfl⟩ := owns_shape hown; have s7 := f7.blk H5.out.2.2.1 (fun q => q); have s71 := s7.cell 1; simp at s71; have s7l := s7.lt; have s7f := s7.free; clear hown g7 hk7 s7 nm7 ow7 p1 p2)
            | (refine pre_blk (b := W5.heap.size + 1) (cs := #[.string ⟨X.toArray⟩]) (t := 9) ?_ ?_; (focus (refine Fr.blk (S := Nil) ?_ (HNM.out.1) (fun q => q); ((repeat (first | (with_reducible exact Fr.refl _ _) | (with_reducible assumption) | (with_reducible exact Fr.of_nil (by assumption)) | (with_reducible refine Fr.drew ?_) | (with_reducible refine Fr.drewN ?_ _) | (with_reducible refine Fr.alloc ?_ _) | (with_reducible refine Fr.set ?_ _ _ (by first | (intros; omega) | (simp; done) | (simp; omega))) | (with_reducible refine Fr.via ?_ (by assumption)) | (with_reducible refine Fr.comp ?_ (by assumption))))); done)); intro p1; refine pre_blk (b := w6.heap.size) (cs := #[.string ⟨#[113, 48]⟩, .slice (some ⟨W5.heap.size + 1, 0, none⟩) 1 1, .int .i64 1, .string ⟨X.toArray⟩, .bool false, .int .u64 0, .slice none 0 0, .slice none 0 0, .slice none 0 0, .slice none 0 0]) (t := 42) ?_ ?_; (focus ((unfold Blk; simp (disch := first | omega | (simp; done) | (simp; omega)) only [hp_drew, hp_drewN, hp_alloc, hp_other, hp_same, hp_new, upd_cells, Option.map_some]); done)); intro p2; refine step_append_src rfl (.tmp 79) (.tmp 84) 24 rfl (N + 1) 42 i0 (.agg #[.string ⟨#[]⟩, .slice none 0 0, .int .i64 0, .string ⟨#[]⟩, .bool false, .int .u64 0, .slice none 0 0, .slice none 0 0, .slice none 0 0, .slice none 0 0]) 10 176 Tryd.underlying24 hi hz0 hz1 hz2 rfl (by decide) u1 nb (flatB cs 0 nb) (by simp [Act.eval, Act.put]) (owns_fr H6.out.1 (by (repeat (first | (with_reducible exact Fr.refl _ _) | (with_reducible assumption) | (with_reducible exact Fr.of_nil (by assumption)) | (with_reducible refine Fr.drew ?_) | (with_reducible refine Fr.drewN ?_ _) | (with_reducible refine Fr.alloc ?_ _) | (with_reducible refine Fr.set ?_ _ _ (by first | (intros; omega) | (simp; done) | (simp; omega))) | (with_reducible refine Fr.via ?_ (by assumption)) | (with_reducible refine Fr.comp ?_ (by assumption)))))) (some ⟨w6.heap.size, 0, none⟩) 1 1 [.string ⟨#[113, 48]⟩, .slice (some ⟨W5.heap.size + 1, 0, none⟩) 1 1, .int .i64 1, .string ⟨X.toArray⟩, .bool false, .int .u64 0, .slice none 0 0, .slice none 0 0, .slice none 0 0, .slice none 0 0] (by simp [Act.eval, Act.put]) (blk_src1 (t := 42) p2) (by simp [Value.oneCell']) (by unfold maxLen; omega) (by omega) (by first | omega | (simp; omega)) ?_; intro u2 w7 hown g7 hk7; have f7 : Fr Nil W5 w7 := Fr.grown (S := Nil) (by (repeat (first | (with_reducible exact Fr.refl _ _) | (with_reducible assumption) | (with_reducible exact Fr.of_nil (by assumption)) | (with_reducible refine Fr.drew ?_) | (with_reducible refine Fr.drewN ?_ _) | (with_reducible refine Fr.alloc ?_ _) | (with_reducible refine Fr.set ?_ _ _ (by first | (intros; omega) | (simp; done) | (simp; omega))) | (with_reducible refine Fr.via ?_ (by assumption)) | (with_reducible refine Fr.comp ?_ (by assumption))))) g7 (fun k q hk => by have := (H6.out.1.lt k q).1; omega); have nm7 : Blk w7 (W5.heap.size + 1) #[.string ⟨X.toArray⟩] 9 := (Fr.grown (S := fun k => u1.ownBlock = some k) (Fr.refl _ _) g7 (fun k q hk => q)).blk p1 (fun e => HNM.out.2 _ e rfl); have ow7 : ∀ k, u2.ownBlock = some k → k ≠ W5.heap.size + 1 := (fun k e => by rcases hk7 with r | r; (rw [r] at e; exact HNM.out.2 k e); (have hq := p1.lt; rw [r] at e; injection e with e; rw [← e]; exact Nat.ne_of_gt hq)); have H7 := Lib.hid (show ∃ A, w7.ownsRow (N + 1) 42 10 u2 (nb + 1) (flatB cs 0 nb ++ [.string ⟨#[113, 48]⟩, .slice (some ⟨A, 0, none⟩) 1 1, .int .i64 1, .string ⟨X.toArray⟩, .bool false, .int .u64 0, .slice none 0 0, .slice none 0 0, .slice none 0 0, .slice none 0 0]) ∧ Blk w7 A #[.string ⟨X.toArray⟩] 9 ∧ (∀ k, u2.ownBlock = some k → k ≠ A) ∧ Fr Nil W5 w7 ∧ N < A from ⟨_, hown, nm7, ow7, f7, by omega⟩); obtain ⟨ya, yc, rfl⟩ := owns_shape hown; have s7 := f7.blk H5.out.2.2.1 (fun q => q); have s71 := s7.cell 1; simp at s71; have s7l := s7.lt; have s7f := s7.free; clear hown g7 hk7 s7 nm7 ow7 p1 p2)
            | (refine pre_blk (b := W5.heap.size + 1) (cs := #[.string ⟨X.toArray⟩]) (t := 9) ?_ ?_; (focus (refine Fr.blk (S := Nil) ?_ (HNM.out.1) (fun q => q); ((repeat (first | (with_reducible exact Fr.refl _ _) | (with_reducible assumption) | (with_reducible exact Fr.of_nil (by assumption)) | (with_reducible refine Fr.drew ?_) | (with_reducible refine Fr.drewN ?_ _) | (with_reducible refine Fr.alloc ?_ _) | (with_reducible refine Fr.set ?_ _ _ (by first | (intros; omega) | (simp; done) | (simp; omega))) | (with_reducible refine Fr.via ?_ (by assumption)) | (with_reducible refine Fr.comp ?_ (by assumption))))); done)); intro p1; refine pre_blk (b := W5.heap.size + 1 + 1) (cs := #[.string ⟨#[113, 48]⟩, .slice (some ⟨W5.heap.size + 1, 0, none⟩) 1 1, .int .i64 1, .string ⟨X.toArray⟩, .bool false, .int .u64 0, .slice none 0 0, .slice none 0 0, .slice none 0 0, .slice none 0 0]) (t := 42) ?_ ?_; (focus (refine Fr.blk (S := Nil) ?_ (HBD.out) (fun q => q); ((repeat (first | (with_reducible exact Fr.refl _ _) | (with_reducible assumption) | (with_reducible exact Fr.of_nil (by assumption)) | (with_reducible refine Fr.drew ?_) | (with_reducible refine Fr.drewN ?_ _) | (with_reducible refine Fr.alloc ?_ _) | (with_reducible refine Fr.set ?_ _ _ (by first | (intros; omega) | (simp; done) | (simp; omega))) | (with_reducible refine Fr.via ?_ (by assumption)) | (with_reducible refine Fr.comp ?_ (by assumption))))); done)); intro p2; refine step_append_src rfl (.tmp 79) (.tmp 84) 24 rfl (N + 1) 42 i0 (.agg #[.string ⟨#[]⟩, .slice none 0 0, .int .i64 0, .string ⟨#[]⟩, .bool false, .int .u64 0, .slice none 0 0, .slice none 0 0, .slice none 0 0, .slice none 0 0]) 10 176 Tryd.underlying24 hi hz0 hz1 hz2 rfl (by decide) u1 nb (flatB cs 0 nb) (by simp [Act.eval, Act.put]) (owns_fr H6.out.1 (by (repeat (first | (with_reducible exact Fr.refl _ _) | (with_reducible assumption) | (with_reducible exact Fr.of_nil (by assumption)) | (with_reducible refine Fr.drew ?_) | (with_reducible refine Fr.drewN ?_ _) | (with_reducible refine Fr.alloc ?_ _) | (with_reducible refine Fr.set ?_ _ _ (by first | (intros; omega) | (simp; done) | (simp; omega))) | (with_reducible refine Fr.via ?_ (by assumption)) | (with_reducible refine Fr.comp ?_ (by assumption)))))) (some ⟨W5.heap.size + 1 + 1, 0, none⟩) 1 1 [.string ⟨#[113, 48]⟩, .slice (some ⟨W5.heap.size + 1, 0, none⟩) 1 1, .int .i64 1, .string ⟨X.toArray⟩, .bool false, .int .u64 0, .slice none 0 0, .slice none 0 0, .slice none 0 0, .slice none 0 0] (by simp [Act.eval, Act.put]) (blk_src1 (t := 42) p2) (by simp [Value.oneCell']) (by unfold maxLen; omega) (by omega) (by first | omega | (simp; omega)) ?_; intro u2 w7 hown g7 hk7; have f7 : Fr Nil W5 w7 := Fr.grown (S := Nil) (by (repeat (first | (with_reducible exact Fr.refl _ _) | (with_reducible assumption) | (with_reducible exact Fr.of_nil (by assumption)) | (with_reducible refine Fr.drew ?_) | (with_reducible refine Fr.drewN ?_ _) | (with_reducible refine Fr.alloc ?_ _) | (with_reducible refine Fr.set ?_ _ _ (by first | (intros; omega) | (simp; done) | (simp; omega))) | (with_reducible refine Fr.via ?_ (by assumption)) | (with_reducible refine Fr.comp ?_ (by assumption))))) g7 (fun k q hk => by have := (H6.out.1.lt k q).1; omega); have nm7 : Blk w7 (W5.heap.size + 1) #[.string ⟨X.toArray⟩] 9 := (Fr.grown (S := fun k => u1.ownBlock = some k) (Fr.refl _ _) g7 (fun k q hk => q)).blk p1 (fun e => HNM.out.2 _ e rfl); have ow7 : ∀ k, u2.ownBlock = some k → k ≠ W5.heap.size + 1 := (fun k e => by rcases hk7 with r | r; (rw [r] at e; exact HNM.out.2 k e); (have hq := p1.lt; rw [r] at e; injection e with e; rw [← e]; exact Nat.ne_of_gt hq)); have H7 := Lib.hid (show ∃ A, w7.ownsRow (N + 1) 42 10 u2 (nb + 1) (flatB cs 0 nb ++ [.string ⟨#[113, 48]⟩, .slice (some ⟨A, 0, none⟩) 1 1, .int .i64 1, .string ⟨X.toArray⟩, .bool false, .int .u64 0, .slice none 0 0, .slice none 0 0, .slice none 0 0, .slice none 0 0]) ∧ Blk w7 A #[.string ⟨X.toArray⟩] 9 ∧ (∀ k, u2.ownBlock = some k → k ≠ A) ∧ Fr Nil W5 w7 ∧ N < A from ⟨_, hown, nm7, ow7, f7, by omega⟩); obtain ⟨ya, yc, rfl⟩ := owns_shape hown; have s7 := f7.blk H5.out.2.2.1 (fun q => q); have s71 := s7.cell 1; simp at s71; have s7l := s7.lt; have s7f := s7.free; clear hown g7 hk7 s7 nm7 ow7 p1 p2)
            | (refine pre_blk (b := W5.heap.size) (cs := #[.string ⟨X.toArray⟩]) (t := 9) ?_ ?_; (focus (refine Fr.blk (S := Nil) ?_ (HNM.out.1) (fun q => q); ((repeat (first | (with_reducible exact Fr.refl _ _) | (with_reducible assumption) | (with_reducible exact Fr.of_nil (by assumption)) | (with_reducible refine Fr.drew ?_) | (with_reducible refine Fr.drewN ?_ _) | (with_reducible refine Fr.alloc ?_ _) | (with_reducible refine Fr.set ?_ _ _ (by first | (intros; omega) | (simp; done) | (simp; omega))) | (with_reducible refine Fr.via ?_ (by assumption)) | (with_reducible refine Fr.comp ?_ (by assumption))))); done)); intro p1; refine pre_blk (b := W5.heap.size + 1 + 1) (cs := #[.string ⟨#[113, 48]⟩, .slice (some ⟨W5.heap.size, 0, none⟩) 1 1, .int .i64 1, .string ⟨X.toArray⟩, .bool false, .int .u64 0, .slice none 0 0, .slice none 0 0, .slice none 0 0, .slice none 0 0]) (t := 42) ?_ ?_; (focus (refine Fr.blk (S := Nil) ?_ (HBD.out) (fun q => q); ((repeat (first | (with_reducible exact Fr.refl _ _) | (with_reducible assumption) | (with_reducible exact Fr.of_nil (by assumption)) | (with_reducible refine Fr.drew ?_) | (with_reducible refine Fr.drewN ?_ _) | (with_reducible refine Fr.alloc ?_ _) | (with_reducible refine Fr.set ?_ _ _ (by first | (intros; omega) | (simp; done) | (simp; omega))) | (with_reducible refine Fr.via ?_ (by assumption)) | (with_reducible refine Fr.comp ?_ (by assumption))))); done)); intro p2; refine step_append_src rfl (.tmp 79) (.tmp 84) 24 rfl (N + 1) 42 i0 (.agg #[.string ⟨#[]⟩, .slice none 0 0, .int .i64 0, .string ⟨#[]⟩, .bool false, .int .u64 0, .slice none 0 0, .slice none 0 0, .slice none 0 0, .slice none 0 0]) 10 176 Tryd.underlying24 hi hz0 hz1 hz2 rfl (by decide) u1 nb (flatB cs 0 nb) (by simp [Act.eval, Act.put]) (owns_fr H6.out.1 (by (repeat (first | (with_reducible exact Fr.refl _ _) | (with_reducible assumption) | (with_reducible exact Fr.of_nil (by assumption)) | (with_reducible refine Fr.drew ?_) | (with_reducible refine Fr.drewN ?_ _) | (with_reducible refine Fr.alloc ?_ _) | (with_reducible refine Fr.set ?_ _ _ (by first | (intros; omega) | (simp; done) | (simp; omega))) | (with_reducible refine Fr.via ?_ (by assumption)) | (with_reducible refine Fr.comp ?_ (by assumption)))))) (some ⟨W5.heap.size + 1 + 1, 0, none⟩) 1 1 [.string ⟨#[113, 48]⟩, .slice (some ⟨W5.heap.size, 0, none⟩) 1 1, .int .i64 1, .string ⟨X.toArray⟩, .bool false, .int .u64 0, .slice none 0 0, .slice none 0 0, .slice none 0 0, .slice none 0 0] (by simp [Act.eval, Act.put]) (blk_src1 (t := 42) p2) (by simp [Value.oneCell']) (by unfold maxLen; omega) (by omega) (by first | omega | (simp; omega)) ?_; intro u2 w7 hown g7 hk7; have f7 : Fr Nil W5 w7 := Fr.grown (S := Nil) (by (repeat (first | (with_reducible exact Fr.refl _ _) | (with_reducible assumption) | (with_reducible exact Fr.of_nil (by assumption)) | (with_reducible refine Fr.drew ?_) | (with_reducible refine Fr.drewN ?_ _) | (with_reducible refine Fr.alloc ?_ _) | (with_reducible refine Fr.set ?_ _ _ (by first | (intros; omega) | (simp; done) | (simp; omega))) | (with_reducible refine Fr.via ?_ (by assumption)) | (with_reducible refine Fr.comp ?_ (by assumption))))) g7 (fun k q hk => by have := (H6.out.1.lt k q).1; omega); have nm7 : Blk w7 (W5.heap.size) #[.string ⟨X.toArray⟩] 9 := (Fr.grown (S := fun k => u1.ownBlock = some k) (Fr.refl _ _) g7 (fun k q hk => q)).blk p1 (fun e => HNM.out.2 _ e rfl); have ow7 : ∀ k, u2.ownBlock = some k → k ≠ W5.heap.size := (fun k e => by rcases hk7 with r | r; (rw [r] at e; exact HNM.out.2 k e); (have hq := p1.lt; rw [r] at e; injection e with e; rw [← e]; exact Nat.ne_of_gt hq)); have H7 := Lib.hid (show ∃ A, w7.ownsRow (N + 1) 42 10 u2 (nb + 1) (flatB cs 0 nb ++ [.string ⟨#[113, 48]⟩, .slice (some ⟨A, 0, none⟩) 1 1, .int .i64 1, .string ⟨X.toArray⟩, .bool false, .int .u64 0, .slice none 0 0, .slice none 0 0, .slice none 0 0, .slice none 0 0]) ∧ Blk w7 A #[.string ⟨X.toArray⟩] 9 ∧ (∀ k, u2.ownBlock = some k → k ≠ A) ∧ Fr Nil W5 w7 ∧ N < A from ⟨_, hown, nm7, ow7, f7, by omega⟩); obtain ⟨ya, yc, rfl⟩ := owns_shape hown; have s7 := f7.blk H5.out.2.2.1 (fun q => q); have s71 := s7.cell 1; simp at s71; have s7l := s7.lt; have s7f := s7.free; clear hown g7 hk7 s7 nm7 ow7 p1 p2)
            | (refine pre_blk (b := W5.heap.size) (cs := #[.string ⟨X.toArray⟩]) (t := 9) ?_ ?_; (focus (refine Fr.blk (S := Nil) ?_ (HNM.out.1) (fun q => q); ((repeat (first | (with_reducible exact Fr.refl _ _) | (with_reducible assumption) | (with_reducible exact Fr.of_nil (by assumption)) | (with_reducible refine Fr.drew ?_) | (with_reducible refine Fr.drewN ?_ _) | (with_reducible refine Fr.alloc ?_ _) | (with_reducible refine Fr.set ?_ _ _ (by first | (intros; omega) | (simp; done) | (simp; omega))) | (with_reducible refine Fr.via ?_ (by assumption)) | (with_reducible refine Fr.comp ?_ (by assumption))))); done)); intro p1; refine pre_blk (b := W5.heap.size + 1) (cs := #[.string ⟨#[113, 48]⟩, .slice (some ⟨W5.heap.size, 0, none⟩) 1 1, .int .i64 1, .string ⟨X.toArray⟩, .bool false, .int .u64 0, .slice none 0 0, .slice none 0 0, .slice none 0 0, .slice none 0 0]) (t := 42) ?_ ?_; (focus (refine Fr.blk (S := Nil) ?_ (HBD.out) (fun q => q); ((repeat (first | (with_reducible exact Fr.refl _ _) | (with_reducible assumption) | (with_reducible exact Fr.of_nil (by assumption)) | (with_reducible refine Fr.drew ?_) | (with_reducible refine Fr.drewN ?_ _) | (with_reducible refine Fr.alloc ?_ _) | (with_reducible refine Fr.set ?_ _ _ (by first | (intros; omega) | (simp; done) | (simp; omega))) | (with_reducible refine Fr.via ?_ (by assumption)) | (with_reducible refine Fr.comp ?_ (by assumption))))); done)); intro p2; refine step_append_src rfl (.tmp 79) (.tmp 84) 24 rfl (N + 1) 42 i0 (.agg #[.string ⟨#[]⟩, .slice none 0 0, .int .i64 0, .string ⟨#[]⟩, .bool false, .int .u64 0, .slice none 0 0, .slice none 0 0, .slice none 0 0, .slice none 0 0]) 10 176 Tryd.underlying24 hi hz0 hz1 hz2 rfl (by decide) u1 nb (flatB cs 0 nb) (by simp [Act.eval, Act.put]) (owns_fr H6.out.1 (by (repeat (first | (with_reducible exact Fr.refl _ _) | (with_reducible assumption) | (with_reducible exact Fr.of_nil (by assumption)) | (with_reducible refine Fr.drew ?_) | (with_reducible refine Fr.drewN ?_ _) | (with_reducible refine Fr.alloc ?_ _) | (with_reducible refine Fr.set ?_ _ _ (by first | (intros; omega) | (simp; done) | (simp; omega))) | (with_reducible refine Fr.via ?_ (by assumption)) | (with_reducible refine Fr.comp ?_ (by assumption)))))) (some ⟨W5.heap.size + 1, 0, none⟩) 1 1 [.string ⟨#[113, 48]⟩, .slice (some ⟨W5.heap.size, 0, none⟩) 1 1, .int .i64 1, .string ⟨X.toArray⟩, .bool false, .int .u64 0, .slice none 0 0, .slice none 0 0, .slice none 0 0, .slice none 0 0] (by simp [Act.eval, Act.put]) (blk_src1 (t := 42) p2) (by simp [Value.oneCell']) (by unfold maxLen; omega) (by omega) (by first | omega | (simp; omega)) ?_; intro u2 w7 hown g7 hk7; have f7 : Fr Nil W5 w7 := Fr.grown (S := Nil) (by (repeat (first | (with_reducible exact Fr.refl _ _) | (with_reducible assumption) | (with_reducible exact Fr.of_nil (by assumption)) | (with_reducible refine Fr.drew ?_) | (with_reducible refine Fr.drewN ?_ _) | (with_reducible refine Fr.alloc ?_ _) | (with_reducible refine Fr.set ?_ _ _ (by first | (intros; omega) | (simp; done) | (simp; omega))) | (with_reducible refine Fr.via ?_ (by assumption)) | (with_reducible refine Fr.comp ?_ (by assumption))))) g7 (fun k q hk => by have := (H6.out.1.lt k q).1; omega); have nm7 : Blk w7 (W5.heap.size) #[.string ⟨X.toArray⟩] 9 := (Fr.grown (S := fun k => u1.ownBlock = some k) (Fr.refl _ _) g7 (fun k q hk => q)).blk p1 (fun e => HNM.out.2 _ e rfl); have ow7 : ∀ k, u2.ownBlock = some k → k ≠ W5.heap.size := (fun k e => by rcases hk7 with r | r; (rw [r] at e; exact HNM.out.2 k e); (have hq := p1.lt; rw [r] at e; injection e with e; rw [← e]; exact Nat.ne_of_gt hq)); have H7 := Lib.hid (show ∃ A, w7.ownsRow (N + 1) 42 10 u2 (nb + 1) (flatB cs 0 nb ++ [.string ⟨#[113, 48]⟩, .slice (some ⟨A, 0, none⟩) 1 1, .int .i64 1, .string ⟨X.toArray⟩, .bool false, .int .u64 0, .slice none 0 0, .slice none 0 0, .slice none 0 0, .slice none 0 0]) ∧ Blk w7 A #[.string ⟨X.toArray⟩] 9 ∧ (∀ k, u2.ownBlock = some k → k ≠ A) ∧ Fr Nil W5 w7 ∧ N < A from ⟨_, hown, nm7, ow7, f7, by omega⟩); obtain ⟨ya, yc, rfl⟩ := owns_shape hown; have s7 := f7.blk H5.out.2.2.1 (fun q => q); have s71 := s7.cell 1; simp at s71; have s7l := s7.lt; have s7f := s7.free; clear hown g7 hk7 s7 nm7 ow7 p1 p2)))
                all_goals
                  go_wp2_with fail
                  go_meet
                  case rel =>
                    obtain ⟨A, ho, hb, hne, hf, hNA⟩ := H7.out
                    have fS : Fr (fun b => b = N) w7 (w7.setCell ⟨N, 1, none⟩ (.slice ya (nb + 1) yc)) := Fr.set (S := fun b => b = N) (Fr.refl _ _) _ _ (fun _ => rfl)
                    exact ⟨A, ya, yc, Lib.hid ⟨(hf.blk H5.out.2.2.1 (fun q => q)).put rfl, owns_frS ho fS (fun q e z => by have z' : q = N := z; have := (ho.lt q e).1; omega), fS.blk hb (fun q => by have q' : A = N := q; omega), hne, (Fr.of_nil hf).set _ _ (fun _ => rfl), hNA⟩⟩
              case rest =>
                obtain ⟨A, ya, yc, HC⟩ := hcut
                obtain ⟨W6, hW6⟩ : ∃ W, W = wc := ⟨_, rfl⟩
                subst hW6
                obtain ⟨g, cap, hg⟩ := Joins.ownsRow_form HC.out.2.1 (by omega)
                have hya : ya = some ⟨g, 0, none⟩ := by injection hg
                have hyc : yc = cap := by injection hg
                subst hya hyc
                clear hg
                have hTS := HTS.out
                have hVN : V < N := by omega
                have F26 : Fr Nil w2 W6 := H5.out.1.trans HC.out.2.2.2.2.1 (fun b hb q => by have q' : b = N := q; omega)
                have bV6 := HC.out.2.2.2.2.1.blk H5.out.2.1 (fun q => by have q' : V = N := q; omega)
                have bT6 := HC.out.2.2.2.2.1.blk H5.out.2.2.2.1 (fun q => by have q' : T = N := q; omega)
                have hgN := (HC.out.2.1.lt g rfl).1
                have hXl := okB_nm HS.out.1.ok X HQ.out.2.1
                have hz : (chkF M).1 = 0 := by rw [H3.out.2.2.2]
                have hb1 : BAt (fun _ => False) W6 [.string ⟨#[113, 48]⟩, .slice (some ⟨A, 0, none⟩) 1 1, .int .i64 1, .string ⟨X.toArray⟩, .bool false, .int .u64 0, .slice none 0 0, .slice none 0 0, .slice none 0 0, .slice none 0 0] (.mk q0N [X] (varE X)) := ⟨.slice (some ⟨A, 0, none⟩) 1 1, [.int .i64 1, .string ⟨X.toArray⟩, .bool false, .int .u64 0, .slice none 0 0, .slice none 0 0, .slice none 0 0, .slice none 0 0], rfl, RowS.of_blk (l := [X]) HC.out.2.2.1 (by show (1 : Nat) ≤ maxLen; decide) id, var_at X⟩
                have hbt := binds_snoc HS.out.2.2.2 HL.out HQ.out.2.2.2 F26 hb1 rfl HC.out.2.1
                have hm6 : ModV (fun _ => False) W6 ca nc cc (some ⟨g, 0, none⟩) (nb + 1) yc (addB M (.mk q0N [X] (varE X))) := ⟨RowC.frN H2.out.1.1 F26, H2.out.1.2.1, hbt, by show (M.binds ++ [_]).length = nb + 1; rw [List.length_append, HS.out.2.2.2]; rfl⟩
                have hck : Calls Tryd.prog 12 #[.agg #[.slice ca nc cc, .slice (some ⟨g, 0, none⟩) (nb + 1) yc]] W6 fun r w' => r = .returned (.tuple #[.int .i64 0, .string ⟨#[]⟩]) ∧ Fr Nil W6 w' := by
                  have h := scheck_any hm6 HS.out.1.cn (add_okB HS.out.1.ok (by decide) (fun x hx => by rw [List.mem_singleton.1 hx]; exact hXl) (var_okE hXl)) (add_wsB HS.out.1.ws (var_wsE X)) HS.out.1.cons (add_len HS.out.1.len (by show (1 : Nat) ≤ 2; decide)) (HT.out.fr (H2.out.2.comp F26))
                  rw [free1 hz HQ.out.1 X] at h
                  exact h
                have HK := Lib.hid hck
                have H6 := Lib.hid (And.intro F26 (And.intro bV6 (And.intro bT6 (And.intro hXl hz))))
                have z0 := HC.out.1.cell 0
                have z1' := HC.out.1.cell 1
                simp at z0 z1'
                have z0l := HC.out.1.lt
                clear F26 bV6 bT6 hXl hz hb1 hbt hm6 hck z1 zl x0 x1 x2 x3 x4 x5 x6 x7 xl
                go_wp2_with fail
                refine HK.out.mono ?_
                rintro e w7 ⟨rfl, f7⟩
                have H7 := Lib.hid (And.intro f7 (And.intro (f7.blk HC.out.1 (fun q => q)) (And.intro (f7.blk H6.out.2.1 (fun q => q)) (owns_fr HC.out.2.1 f7))))
                clear f7 HK z0 z1' z0l
                have fa : (flatB cs 0 nb).length = nb * 10 := flatB_len HL.out (by omega)
                have HFA := Lib.hid fa
                clear fa
                have z0 := H7.out.2.1.cell 0
                have z1 := H7.out.2.1.cell 1
                simp at z0 z1
                have zl := H7.out.2.1.lt
                have x0 := H7.out.2.2.1.cell 0
                have x1 := H7.out.2.2.1.cell 1
                have x2 := H7.out.2.2.1.cell 2
                have x3 := H7.out.2.2.1.cell 3
                have x4 := H7.out.2.2.1.cell 4
                have x5 := H7.out.2.2.1.cell 5
                have x6 := H7.out.2.2.1.cell 6
                have x7 := H7.out.2.2.1.cell 7
                simp at x0 x1 x2 x3 x4 x5 x6 x7
                have xl := H7.out.2.2.1.lt
                have y0 := row_last HFA.out rfl H7.out.2.2.2 0 (by decide)
                have y1 := row_last HFA.out rfl H7.out.2.2.2 1 (by decide)
                have y2 := row_last HFA.out rfl H7.out.2.2.2 2 (by decide)
                have y3 := row_last HFA.out rfl H7.out.2.2.2 3 (by decide)
                have y4 := row_last HFA.out rfl H7.out.2.2.2 4 (by decide)
                have y5 := row_last HFA.out rfl H7.out.2.2.2 5 (by decide)
                have y6 := row_last HFA.out rfl H7.out.2.2.2 6 (by decide)
                have y7 := row_last HFA.out rfl H7.out.2.2.2 7 (by decide)
                have y8 := row_last HFA.out rfl H7.out.2.2.2 8 (by decide)
                have y9 := row_last HFA.out rfl H7.out.2.2.2 9 (by decide)
                simp at y0 y1 y2 y3 y4 y5 y6 y7 y8 y9
                have yf := H7.out.2.2.2.frozenAt
                have yl := (H7.out.2.2.2.lt g rfl).2
                have wnb : IntKind.i64.wrap (nb : Int) = (nb : Int) := by rw [IntKind.wrap_i64]; omega
                have q8 : (0 : Int) ≤ (nb : Int) := by omega
                have q9 : (nb : Int) < (nb : Int) + 1 := by omega
                go_upto_region 22 with fail
                obtain ⟨W8a, hW8a⟩ : ∃ W, ((((((((((w7.setCell ⟨g, nb * 10, none⟩ (.string ⟨#[113, 48]⟩)).setCell ⟨g, nb * 10 + 1, none⟩ (.slice (some ⟨w7.heap.size, 0, none⟩) 2 2)).setCell ⟨g, nb * 10 + 2, none⟩ (.int .i64 1)).setCell ⟨g, nb * 10 + 3, none⟩ (.string ⟨X.toArray⟩)).setCell ⟨g, nb * 10 + 4, none⟩ (.bool false)).setCell ⟨g, nb * 10 + 5, none⟩ (.int .u64 0)).setCell ⟨g, nb * 10 + 6, none⟩ (.slice none 0 0)).setCell ⟨g, nb * 10 + 7, none⟩ (.slice none 0 0)).setCell ⟨g, nb * 10 + 8, none⟩ (.slice none 0 0)).setCell ⟨g, nb * 10 + 9, none⟩ (.slice none 0 0)) = W := ⟨_, rfl⟩
                rw [hW8a]
                have f8a : Fr (fun b => b = g) w7 W8a := by rw [← hW8a]; exact setg10 w7 g nb
                have ho8a : W8a.ownsRow (N + 1) 42 10 (.slice (some ⟨g, 0, none⟩) (nb + 1) yc) (nb + 1) (flatB cs 0 nb ++ [.string ⟨#[113, 48]⟩, .slice (some ⟨w7.heap.size, 0, none⟩) 2 2, .int .i64 1, .string ⟨X.toArray⟩, .bool false, .int .u64 0, .slice none 0 0, .slice none 0 0, .slice none 0 0, .slice none 0 0]) := by rw [← hW8a]; exact owns_put10 HFA.out H7.out.2.2.2
                have hsz8 : W8a.heap.size = w7.heap.size := by rw [← hW8a]; simp
                obtain ⟨A2, hA2⟩ : ∃ A, w7.heap.size = A := ⟨_, rfl⟩
                rw [hA2] at ho8a hsz8
                try rw [hA2]
                obtain ⟨W8, hW8⟩ : ∃ W, W8a.alloc (.cells #[.string ⟨X.toArray⟩, .string ⟨X.toArray⟩] 9) = W := ⟨_, rfl⟩
                rw [hW8]
                have f8 : Fr Nil W8a W8 := by rw [← hW8]; (repeat (first | (with_reducible exact Fr.refl _ _) | (with_reducible assumption) | (with_reducible exact Fr.of_nil (by assumption)) | (with_reducible refine Fr.drew ?_) | (with_reducible refine Fr.drewN ?_ _) | (with_reducible refine Fr.alloc ?_ _) | (with_reducible refine Fr.set ?_ _ _ (by first | (intros; omega) | (simp; done) | (simp; omega))) | (with_reducible refine Fr.via ?_ (by assumption)) | (with_reducible refine Fr.comp ?_ (by assumption))))
                have bA8 : Blk W8 A2 #[.string ⟨X.toArray⟩, .string ⟨X.toArray⟩] 9 := by rw [← hW8, ← hsz8]; exact Blk.new _ _ _
                have hTS := HTS.out
                have hws := H6.out.1.size
                have F28 : Fr Nil w2 W8 := Fr.comp ((H6.out.1.comp H7.out.1).trans f8a (fun b hb q => by have q' : b = g := q; omega)) f8
                have hXl := H6.out.2.2.2.1
                have hb2 : BAt (fun _ => False) W8 [.string ⟨#[113, 48]⟩, .slice (some ⟨A2, 0, none⟩) 2 2, .int .i64 1, .string ⟨X.toArray⟩, .bool false, .int .u64 0, .slice none 0 0, .slice none 0 0, .slice none 0 0, .slice none 0 0] (.mk q0N [X, X] (varE X)) := ⟨.slice (some ⟨A2, 0, none⟩) 2 2, [.int .i64 1, .string ⟨X.toArray⟩, .bool false, .int .u64 0, .slice none 0 0, .slice none 0 0, .slice none 0 0, .slice none 0 0], rfl, RowS.of_blk (l := [X, X]) bA8 (by show (2 : Nat) ≤ maxLen; decide) id, var_at X⟩
                have hbt := binds_snoc HS.out.2.2.2 HL.out HQ.out.2.2.2 F28 hb2 rfl (owns_fr ho8a f8)
                have hm8 : ModV (fun _ => False) W8 ca nc cc (some ⟨g, 0, none⟩) (nb + 1) yc (addB M (.mk q0N [X, X] (varE X))) := ⟨RowC.frN H2.out.1.1 F28, H2.out.1.2.1, hbt, by show (M.binds ++ [_]).length = nb + 1; rw [List.length_append, HS.out.2.2.2]; rfl⟩
                have hck : Calls Tryd.prog 12 #[.agg #[.slice ca nc cc, .slice (some ⟨g, 0, none⟩) (nb + 1) yc]] W8 fun r w' => r = .returned (.tuple #[.int .i64 5, .string ⟨X.toArray⟩]) ∧ Fr Nil W8 w' := by
                  have h := scheck_any hm8 HS.out.1.cn (add_okB HS.out.1.ok (by decide) (fun x hx => by
                    have e : x = X := by simpa using hx
                    rw [e]; exact hXl) (var_okE hXl)) (add_wsB HS.out.1.ws (var_wsE X)) HS.out.1.cons (add_len HS.out.1.len (by show (2 : Nat) ≤ 2; decide)) (HT.out.fr (H2.out.2.comp F28))
                  rw [free2 H6.out.2.2.2.2 HQ.out.1 X] at h
                  exact h
                have HK := Lib.hid hck
                have bN8 := f8.blk (f8a.blk H7.out.2.1 (fun q => by have q' : N = g := q; omega)) (fun q => q)
                have bT8 := f8.blk (f8a.blk (H7.out.1.blk H6.out.2.2.1 (fun q => q)) (fun q => by have q' : T = g := q; omega)) (fun q => q)
                have H8 := Lib.hid (And.intro F28 (And.intro bN8 (And.intro bT8 (owns_fr ho8a f8))))
                clear z0 z1 zl x0 x1 x2 x3 x4 x5 x6 x7 xl y0 y1 y2 y3 y4 y5 y6 y7 y8 y9 yf yl
                have z0 := bN8.cell 0
                have z1 := bN8.cell 1
                simp at z0 z1
                have zl := bN8.lt
                clear hW8a f8a ho8a hsz8 hA2 hW8 f8 bA8 F28 hb2 hbt hm8 hck bN8 bT8 hws
                go_wp2_with fail
                refine HK.out.mono ?_
                rintro e w9 ⟨rfl, f9⟩
                have H9 := Lib.hid (And.intro f9 (And.intro (f9.blk H8.out.2.1 (fun q => q)) (owns_fr H8.out.2.2.2 f9)))
                clear f9 HK z0 z1 zl
                have z0 := H9.out.2.1.cell 0
                have z1 := H9.out.2.1.cell 1
                simp at z0 z1
                have zl := H9.out.2.1.lt
                have y0 := row_last HFA.out rfl H9.out.2.2 0 (by decide)
                have y1 := row_last HFA.out rfl H9.out.2.2 1 (by decide)
                have y2 := row_last HFA.out rfl H9.out.2.2 2 (by decide)
                have y3 := row_last HFA.out rfl H9.out.2.2 3 (by decide)
                have y4 := row_last HFA.out rfl H9.out.2.2 4 (by decide)
                have y5 := row_last HFA.out rfl H9.out.2.2 5 (by decide)
                have y6 := row_last HFA.out rfl H9.out.2.2 6 (by decide)
                have y7 := row_last HFA.out rfl H9.out.2.2 7 (by decide)
                have y8 := row_last HFA.out rfl H9.out.2.2 8 (by decide)
                have y9 := row_last HFA.out rfl H9.out.2.2 9 (by decide)
                simp at y0 y1 y2 y3 y4 y5 y6 y7 y8 y9
                have yf := H9.out.2.2.frozenAt
                have yl := (H9.out.2.2.lt g rfl).2
                go_upto_region 24 with fail
                obtain ⟨W10, hW10⟩ : ∃ W, ((((((((((w9.setCell ⟨g, nb * 10, none⟩ (.string ⟨#[113, 48]⟩)).setCell ⟨g, nb * 10 + 1, none⟩ (.slice none 0 0)).setCell ⟨g, nb * 10 + 2, none⟩ (.int .i64 1)).setCell ⟨g, nb * 10 + 3, none⟩ (.string ⟨#[113, 49]⟩)).setCell ⟨g, nb * 10 + 4, none⟩ (.bool false)).setCell ⟨g, nb * 10 + 5, none⟩ (.int .u64 0)).setCell ⟨g, nb * 10 + 6, none⟩ (.slice none 0 0)).setCell ⟨g, nb * 10 + 7, none⟩ (.slice none 0 0)).setCell ⟨g, nb * 10 + 8, none⟩ (.slice none 0 0)).setCell ⟨g, nb * 10 + 9, none⟩ (.slice none 0 0)) = W := ⟨_, rfl⟩
                rw [hW10]
                have f10 : Fr (fun b => b = g) w9 W10 := by rw [← hW10]; exact setg10 w9 g nb
                have ho10 : W10.ownsRow (N + 1) 42 10 (.slice (some ⟨g, 0, none⟩) (nb + 1) yc) (nb + 1) (flatB cs 0 nb ++ [.string ⟨#[113, 48]⟩, .slice none 0 0, .int .i64 1, .string ⟨#[113, 49]⟩, .bool false, .int .u64 0, .slice none 0 0, .slice none 0 0, .slice none 0 0, .slice none 0 0]) := by rw [← hW10]; exact owns_put10 HFA.out H9.out.2.2
                have hws := H8.out.1.size
                have F210 : Fr Nil w2 W10 := (H8.out.1.comp H9.out.1).trans f10 (fun b hb q => by have q' : b = g := q; omega)
                have hb3 : BAt (fun _ => False) W10 [.string ⟨#[113, 48]⟩, .slice none 0 0, .int .i64 1, .string ⟨#[113, 49]⟩, .bool false, .int .u64 0, .slice none 0 0, .slice none 0 0, .slice none 0 0, .slice none 0 0] (.mk q0N [] (varE q1N)) := ⟨.slice none 0 0, [.int .i64 1, .string ⟨#[113, 49]⟩, .bool false, .int .u64 0, .slice none 0 0, .slice none 0 0, .slice none 0 0, .slice none 0 0], rfl, RowC.nil, var_at q1N⟩
                have hbt := binds_snoc HS.out.2.2.2 HL.out HQ.out.2.2.2 F210 hb3 rfl ho10
                have hm10 : ModV (fun _ => False) W10 ca nc cc (some ⟨g, 0, none⟩) (nb + 1) yc (addB M (.mk q0N [] (varE q1N))) := ⟨RowC.frN H2.out.1.1 F210, H2.out.1.2.1, hbt, by show (M.binds ++ [_]).length = nb + 1; rw [List.length_append, HS.out.2.2.2]; rfl⟩
                obtain ⟨⟨SE, SN⟩, hSR⟩ : ∃ R : FS, (if q1N ∈ nmB M.binds then (0, []) else (4, q1N)) = R := ⟨_, rfl⟩
                have hck : Calls Tryd.prog 12 #[.agg #[.slice ca nc cc, .slice (some ⟨g, 0, none⟩) (nb + 1) yc]] W10 fun r w' => r = .returned (.tuple #[.int .i64 (SE : Int), .string ⟨SN.toArray⟩]) ∧ Fr Nil W10 w' := by
                  have h := scheck_any hm10 HS.out.1.cn (add_okB HS.out.1.ok (by decide) (fun x hx => by simp at hx) (var_okE (by decide))) (add_wsB HS.out.1.ws (var_wsE q1N)) HS.out.1.cons (add_len HS.out.1.len (by show (0 : Nat) ≤ 2; decide)) (HT.out.fr (H2.out.2.comp F210))
                  rw [free3 H6.out.2.2.2.2 HQ.out.1, hSR] at h
                  exact h
                have HK := Lib.hid hck
                have bN10 := f10.blk H9.out.2.1 (fun q => by have q' : N = g := q; omega)
                have bT10 := f10.blk (H9.out.1.blk H8.out.2.2.1 (fun q => q)) (fun q => by have q' : T = g := q; omega)
                have H10 := Lib.hid (And.intro F210 (And.intro bT10 hSR))
                clear z0 z1 zl y0 y1 y2 y3 y4 y5 y6 y7 y8 y9 yf yl
                have z0 := bN10.cell 0
                have z1 := bN10.cell 1
                simp at z0 z1
                have zl := bN10.lt
                clear hW10 f10 ho10 F210 hb3 hbt hm10 hck bN10 bT10 hws hSR
                go_wp2_with fail
                refine HK.out.mono ?_
                rintro e w11 ⟨rfl, f11⟩
                have H11 := Lib.hid (And.intro (H10.out.1.comp f11) (f11.blk H10.out.2.1 (fun q => q)))
                clear f11 HK z0 z1 zl
                go_wp2_with fail
                go_loopg [20, 21] nb (fun g2 kv jv wr => ∃ (i : Nat) (kn : Bool), g2 = nb - i ∧ i ≤ nb ∧ kv = .bool kn ∧ jv = .int .i64 (i : Int) ∧ Hid (decide (q1N ∈ nmB (M.binds.take i)) = kn ∧ Fr Nil w11 wr))
                case atStart => exact ⟨0, false, rfl, by omega, rfl, rfl, Lib.hid ⟨by simp [nmB], Fr.refl _ _⟩⟩
                case round =>
                  obtain ⟨i, kn, rfl, hil, rfl, rfl, HZ⟩ := hrel
                  obtain ⟨Vz, hVz⟩ : ∃ V, V = wr := ⟨_, rfl⟩
                  subst hVz
                  have k0 : (0 : Int) ≤ (i : Int) := by omega
                  have bTz := HZ.out.2.blk H11.out.2 (fun q => q)
                  have z0 := bTz.cell 0
                  have z1 := bTz.cell 1
                  simp at z0 z1
                  have zl := bTz.lt
                  by_cases hlt2 : i < nb
                  · have hiL : i < M.binds.length := by rw [HS.out.2.2.2]; exact hlt2
                    have wk4 : IntKind.i64.wrap ((i : Int) + 1) = (i : Int) + 1 := by rw [IntKind.wrap_i64]; omega
                    have i3 : (i : Int) < (nb : Int) := by omega
                    obtain ⟨b2, off2, qa2, qn2, qc2, c2, e2, hb2, _, _, _, _, hrd2⟩ := BindsAt.at (H2.out.1.2.2.1.fr (H11.out.1.comp HZ.out.2) (fun _ q => q.elim)) hiL
                    injection e2 with e2
                    injection e2 with e3 e4
                    subst e3 e4
                    have n0 := (hrd2 Vz (Fr.refl _ _)).1
                    obtain ⟨y, hy⟩ : ∃ y, M.binds[i].name = y := ⟨_, rfl⟩
                    rw [hy] at n0
                    have hst : nmB (M.binds.take (i + 1)) = nmB (M.binds.take i) ++ [y] := by
                      unfold nmB
                      rw [List.take_succ_eq_append_getElem hiL, List.map_append, List.map_singleton, hy]
                    have HST := Lib.hid hst
                    clear hst hy bTz hrd2
                    cases kn with
                    | true =>
                      go_wp2
                      go_roundg (nb - (i + 1))
                      case rel => exact ⟨i + 1, true, rfl, by omega, rfl, rfl, Lib.hid ⟨by rw [HST.out]; exact decide_eq_true (List.mem_append.2 (.inl (of_decide_eq_true HZ.out.1))), HZ.out.2⟩⟩
                      case measure => omega
                    | false =>
                      by_cases hyq : y = [113, 49]
                      · subst hyq
                        go_wp2
                        go_roundg (nb - (i + 1))
                        case rel => exact ⟨i + 1, true, rfl, by omega, rfl, rfl, Lib.hid ⟨by rw [HST.out]; exact decide_eq_true (List.mem_append.2 (.inr (List.mem_singleton.2 rfl))), HZ.out.2⟩⟩
                        case measure => omega
                      · have d6 : (y == [113, 49]) = false := by simpa using hyq
                        have HYQ := Lib.hid hyq
                        clear hyq
                        go_wp2
                        go_roundg (nb - (i + 1))
                        case rel => exact ⟨i + 1, false, rfl, by omega, by simp [d6], by simp, Lib.hid ⟨by rw [HST.out]; exact decide_eq_false (fun q => by
                          rcases List.mem_append.1 q with q | q
                          · exact of_decide_eq_false HZ.out.1 q
                          · exact HYQ.out (List.mem_singleton.1 q).symm), HZ.out.2⟩⟩
                        case measure => omega
                  · have i3 : ¬ (i : Int) < (nb : Int) := by omega
                    have hkn : decide (q1N ∈ nmB M.binds) = kn := by rw [← HZ.out.1, List.take_of_length_le (by rw [HS.out.2.2.2]; omega)]
                    have hSR := H10.out.2.2
                    have HF := Lib.hid (H2.out.2.comp (H11.out.1.comp HZ.out.2))
                    cases kn with
                    | true =>
                      rw [if_pos (of_decide_eq_true hkn)] at hSR
                      injection hSR with e1 e2
                      subst e1 e2
                      go_wp2
                      go_ret
                      exact ⟨by simp, HF.out⟩
                    | false =>
                      rw [if_neg (of_decide_eq_false hkn)] at hSR
                      injection hSR with e1 e2
                      subst e1 e2
                      go_wp2
                      go_ret
                      exact ⟨by simp [q1N], HF.out⟩
        · have d1 : ((RE : Int) == 0) = false := by rw [beq_eq_false_iff_ne]; omega
          have e1 : ¬ (RE : Int) = 0 := by omega
          go_wp2
          go_ret
          exact ⟨rfl, H2.out.2.comp H4.out.1⟩
      · have q3 : (nb : Int) ≤ (t : Int) := by omega
        go_wp2
        go_ret
        exact ⟨rfl, H2.out.2.comp (by (repeat (first | (with_reducible exact Fr.refl _ _) | (with_reducible assumption) | (with_reducible exact Fr.of_nil (by assumption)) | (with_reducible refine Fr.drew ?_) | (with_reducible refine Fr.drewN ?_ _) | (with_reducible refine Fr.alloc ?_ _) | (with_reducible refine Fr.set ?_ _ _ (by first | (intros; omega) | (simp; done) | (simp; omega))) | (with_reducible refine Fr.via ?_ (by assumption)) | (with_reducible refine Fr.comp ?_ (by assumption)))))⟩
    · have d3 : (E1 == 0) = false := by simpa using he
      go_wp2
      go_ret
      exact ⟨rfl, H2.out.2.comp (by (repeat (first | (with_reducible exact Fr.refl _ _) | (with_reducible assumption) | (with_reducible exact Fr.of_nil (by assumption)) | (with_reducible refine Fr.drew ?_) | (with_reducible refine Fr.drewN ?_ _) | (with_reducible refine Fr.alloc ?_ _) | (with_reducible refine Fr.set ?_ _ _ (by first | (intros; omega) | (simp; done) | (simp; omega))) | (with_reducible refine Fr.via ?_ (by assumption)) | (with_reducible refine Fr.comp ?_ (by assumption)))))⟩
  · have q1 : (3000 : Int) < (s.size : Int) := by omega
    go_enter Tryd.func4, Tryd.ntmps4
    go_wp2_with fail
    refine (awake10_any w HT.out).mono ?_
    rintro e w1 ⟨rfl, f1⟩
    have HF := Lib.hid f1
    clear f1
    go_wp2
    go_ret
    exact ⟨rfl, HF.out⟩
end Go.Proofs.YtpjlibbdngnnnaaDoor
