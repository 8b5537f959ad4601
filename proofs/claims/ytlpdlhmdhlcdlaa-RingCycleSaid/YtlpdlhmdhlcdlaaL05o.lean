/-
  The law RingCycle: the walk. No conditions.
-/
import Derived.Test.YtlpdlhmdhlcdlaaL05n
namespace Go.Proofs.Ytlpdlhmdhlcdlaa
set_option linter.unusedSimpArgs false
set_option linter.unusedVariables false
open Go.RowKit Go.Shelf Go.Maps

set_option maxRecDepth 100000 in
set_option maxHeartbeats 8000000 in
theorem cycle_in (q r s : Nat) (hq : q < 256) (hr : r < 256) (hs : s < 256) (v : Value) (zs : List Int) (w : World) (hv : RowInts w v zs) (hz : zs.length ≤ 60) :
    Calls Try.prog 5 #[.int .u8 (q : Int), .int .u8 (r : Int), .int .u8 (s : Int), v] w fun e w' => e = .returned (.bool true) ∧ Fr Nil w w' := by
  obtain ⟨a, cap, rfl, hrow⟩ := hv
  have HX := Lib.hid hrow
  have hmm := @run_makeMap Try.prog
  obtain ⟨q1, hq1⟩ : ∃ q1, q % 40 = q1 := ⟨_, rfl⟩
  have hq2 : q1 < 40 := by omega
  have a1 : (q : Int).tmod 40 = (q1 : Int) := by rw [Int.tmod_eq_emod_of_nonneg (by omega)]; omega
  have a2 : IntKind.u8.wrap (q1 : Int) = (q1 : Int) := by simp [IntKind.wrap, IntKind.bits, IntKind.signed]; omega
  have a3 : IntKind.i64.wrap (q1 : Int) = (q1 : Int) := by rw [IntKind.wrap_i64]; omega
  have a4 : IntKind.i64.wrap ((q1 : Int) + 1) = (q1 : Int) + 1 := by rw [IntKind.wrap_i64]; omega
  clear hq1 hrow
  go_enter Try.func5, Try.ntmps5
  go_wp2_with fail
  refine (awake_any _).mono ?_
  rintro e w0 ⟨rfl, f0⟩
  go_wp2_with fail
  obtain ⟨n, hn⟩ : ∃ n : Nat, q1 + 1 = n := ⟨_, rfl⟩
  have e1 : (q1 : Int) + 1 = (n : Int) := by omega
  have hn1 : 1 ≤ n := by omega
  have hn2 : n ≤ 40 := by omega
  rw [e1]
  clear a1 a2 a3 a4 e1 hq2 hn
  have hmd := made_any (3 * n + 1) w0 (by omega) (by omega)
  rw [show ((3 * n + 1 : Nat) : Int) = 3 * (n : Int) + 1 by omega] at hmd
  refine hmd.mono ?_
  clear hmd
  rintro e w1 ⟨ba, bw, rg, sb, rfl, hR, hB, s1, s2, s3, s4, f1⟩
  have fw1 : Fr Nil w w1 := by (repeat (first | (with_reducible exact Fr.refl _ _) | (with_reducible assumption) | (with_reducible exact Fr.of_nil (by assumption)) | (with_reducible refine Fr.drew ?_) | (with_reducible refine Fr.drewN ?_ _) | (with_reducible refine Fr.alloc ?_ _) | (with_reducible refine Fr.set ?_ _ _ (by first | (intros; omega) | (simp; done) | (simp; omega))) | (with_reducible refine Fr.via ?_ (by assumption)) | (with_reducible refine Fr.comp ?_ (by assumption))))
  have sz0 := f0.size
  have hl4 := hR.lts
  have hl5 := hB.lt
  have HNE : Hid (∀ b, PX rg ba bw sb b → w.heap.size ≤ b) := fun b q => by
    rcases q with q | q | q | q <;> omega
  have h0 : St (PX rg ba bw sb) w1 rg ba bw sb (3 * n + 1) ⟨wl 0, [], [], []⟩ ⟨wl 0, [], [], []⟩ 0 :=
    ⟨fun _ q => q, hR, RefR.made hB, fun b q => by rcases q with q | q | q | q <;> omega⟩
  have H0 := Lib.hid h0
  clear hR hB s1 s2 s3 s4 f0 f1 h0 sz0 hl4 hl5
  have i60 : ¬ (60 : Int) < (zs.length : Int) := by omega
  have d60 := decide_eq_false i60
  go_wp2_with fail
  go_loopg [14] n (fun g iv wr => ∃ k u : Nat, g = n - k ∧ k ≤ n ∧ iv = .int .i64 k ∧ Hid (St (PX rg ba bw sb) wr rg ba bw sb (3 * n + 1) ⟨wl k, [], [], []⟩ ⟨wl k, [], [], []⟩ u) ∧ u ≤ 20 * k ∧ Fr Nil w wr)
  case atStart => exact ⟨0, 0, rfl, by omega, rfl, H0, by omega, fw1⟩
  case round =>
    obtain ⟨k, u, rfl, hk, rfl, HS, hu, hw⟩ := hrel
    by_cases hlt : k < n
    · have i1 : (k : Int) < (n : Int) := by omega
      have HG := Lib.hid (grow1 HS.out (by omega) (by omega))
      go_wp2_with fail
      refine HG.out.mono ?_
      rintro e w2 ⟨rfl, ⟨u2, h2, hu2⟩, f2⟩
      have hw2 : Fr Nil w w2 := hw.trans f2 (fun g hg q => by have := HNE.out g q; omega)
      have H2 := Lib.hid h2
      clear h2
      go_wp2_with fail
      refine (do2 H2.out (step_grow k (3 * n + 1) (by omega)) (by omega) (by simp [Seg4.all, wl_len]; omega) (by simp)).mono ?_
      rintro e w3 ⟨rfl, h3, f3⟩
      have hw3 : Fr Nil w w3 := hw2.trans f3 (fun g hg q => by have := HNE.out g q; omega)
      have H3 := Lib.hid h3
      clear h3 f2 f3
      go_wp2_with fail
      go_roundg (n - (k + 1))
      case rel => exact ⟨k + 1, u2, rfl, by omega, by go_num, H3, by omega, hw3⟩
      case measure => omega
    · obtain rfl : k = n := by omega
      have i1 : ¬ ((k : Int) < (k : Int)) := by omega
      go_wp2_with fail
      obtain ⟨bk, hbk⟩ : ∃ bk, wr.heap.size = bk := ⟨_, rfl⟩
      obtain ⟨W2, hW2⟩ : ∃ W2, wr.alloc (.map #[] 0) = W2 := ⟨_, rfl⟩
      have fW2 : Fr Nil wr W2 := by rw [← hW2]; (repeat (first | (with_reducible exact Fr.refl _ _) | (with_reducible assumption) | (with_reducible exact Fr.of_nil (by assumption)) | (with_reducible refine Fr.drew ?_) | (with_reducible refine Fr.drewN ?_ _) | (with_reducible refine Fr.alloc ?_ _) | (with_reducible refine Fr.set ?_ _ _ (by first | (intros; omega) | (simp; done) | (simp; omega))) | (with_reducible refine Fr.via ?_ (by assumption)) | (with_reducible refine Fr.comp ?_ (by assumption))))
      have hM : IMap W2 bk 0 (keys []) (cntF []) := by rw [← hW2, ← hbk]; exact IMap.made wr
      have hbw : ∀ b, PX rg ba bw sb b → b < bk := fun b q => by have := HS.out.lt b q; omega
      have HNK : Hid (¬ PX rg ba bw sb bk) := fun q => by have := hbw bk q; omega
      have hwk : w.heap.size ≤ bk := by have := hw.size; omega
      have hw2 : Fr Nil w W2 := hw.comp fW2
      have HX2 : Hid (∀ g, (PX rg ba bw sb g ∨ g = bk) → w.heap.size ≤ g) := fun g q => by
        rcases q with q | q
        · exact HNE.out g q
        · omega
      have H2 := Lib.hid (And.intro (HS.out.ext fW2 (by omega) hM.lt) (And.intro hM hw2))
      rw [hbk, hW2]
      clear hW2 fW2 hM hbw hw hw2 HS
      obtain ⟨f, hf⟩ : ∃ f, r % (k + 1) = f := ⟨_, rfl⟩
      have hfk : f ≤ k := by have := Nat.mod_lt r (show 0 < k + 1 by omega); omega
      have a1 : (r : Int).tmod ((k : Int) + 1) = (f : Int) := by
        rw [Int.tmod_eq_emod_of_nonneg (by omega), ← hf]
        first
          | (simp; done)
          | (push_cast; rfl)
      have a2 : IntKind.i64.wrap (r : Int) = (r : Int) := by rw [IntKind.wrap_i64]; omega
      have a3 : IntKind.i64.wrap ((k : Int) + 1) = (k : Int) + 1 := by rw [IntKind.wrap_i64]; omega
      have a4 : IntKind.i64.wrap (f : Int) = (f : Int) := by rw [IntKind.wrap_i64]; omega
      have z1 : ((k : Int) + 1 == 0) = false := by simp; omega
      have z2 : ¬ (k : Int) + 1 = 0 := by omega
      clear hf
      have hsz0 : (Seg4.all ⟨wl k, [], [], []⟩).length = k := by simp [Seg4.all, wl_len]
      go_loopg [16] f (fun g iv wr2 => ∃ (k2 u2 : Nat) (S : Seg4), g = f - k2 ∧ k2 ≤ f ∧ iv = .int .i64 k2 ∧ Hid (St (fun b => PX rg ba bw sb b ∨ b = bk) wr2 rg ba bw sb (3 * k + 1) S S u2 ∧ IMap wr2 bk 0 (keys []) (cntF []) ∧ S.F = [] ∧ S.G = [] ∧ S.all.length = k) ∧ u2 ≤ 1000 + 20 * k2 ∧ Fr Nil w wr2)
      case atStart => exact ⟨0, u, _, rfl, by omega, rfl, Lib.hid ⟨H2.out.1, H2.out.2.1, rfl, rfl, hsz0⟩, by omega, H2.out.2.2⟩
      case round =>
        obtain ⟨k2, u2, S, rfl, hk2, rfl, HS, hu2, hw⟩ := hrel
        by_cases hlt : k2 < f
        · have i1 : (k2 : Int) < (f : Int) := by omega
          obtain ⟨S', c, b, e, hst⟩ := rstep_total (3 * k + 1) S.W S.F S.G S.B 1 0
          have HST := Lib.hid hst
          have hsh : S'.F = [] ∧ S'.G = [] ∧ S'.all.length = k := by
            have h1 := HS.out.2.2.1
            have h2 := HS.out.2.2.2.1
            have h3 := HS.out.2.2.2.2
            rcases step_one hst with ⟨_, rfl⟩ | ⟨_, W', e1, rfl⟩
            · exact ⟨h1, h2, h3⟩
            · refine ⟨h1, h2, ?_⟩
              simp only [Seg4.all, e1, h1, h2, List.length_append, List.length_cons, List.length_nil] at h3 ⊢
              omega
          have HSH := Lib.hid hsh
          clear hst hsh
          go_wp2_with fail
          refine (do1 HS.out.1 HST.out (by omega) (by omega) (right_one S 0 (by decide))).mono ?_
          rintro e w3 ⟨rfl, ⟨u3, h3, hu3⟩, f3⟩
          have hw3 : Fr Nil w w3 := hw.trans f3 (fun g hg q => by have := HNE.out g q; omega)
          have H3 := Lib.hid (And.intro h3 (And.intro (HS.out.2.1.fr f3 HNK.out) hw3))
          clear h3 hw3 f3
          go_wp2_with fail
          refine (do2 H3.out.1 HST.out (by omega) (by have := HS.out.2.2.2.2; omega) (by rw [HS.out.2.2.1]; simp)).mono ?_
          rintro e w4 ⟨rfl, h4, f4⟩
          have hw4 : Fr Nil w w4 := H3.out.2.2.trans f4 (fun g hg q => by have := HNE.out g q; omega)
          have H4 := Lib.hid (And.intro h4 (H3.out.2.1.fr f4 HNK.out))
          clear h4 f4
          go_wp2_with fail
          go_roundg (f - (k2 + 1))
          case rel => exact ⟨k2 + 1, u3, S', rfl, by omega, by go_num, Lib.hid ⟨H4.out.1, H4.out.2, HSH.out.1, HSH.out.2.1, HSH.out.2.2⟩, by omega, hw4⟩
          case measure => omega
        · obtain rfl : k2 = f := by omega
          have i1 : ¬ ((k2 : Int) < (k2 : Int)) := by omega
          obtain ⟨W, F, G, B⟩ := S
          obtain ⟨hS2, hM2, hF, hG, hl⟩ := HS.out
          simp only at hF hG
          subst hF hG
          have hlW : W.length + B.length = k := by simpa [Seg4.all] using hl
          have H5 := Lib.hid (And.intro hS2 hM2)
          have hu3 : u2 ≤ 2000 := by omega
          clear hS2 hM2 hl HS H2
          go_wp2_with fail
          refine (rbegin_ok (h := H5.out.1.ring)).mono ?_
          rintro e w3 ⟨rfl, h3, f3⟩
          have hw3 : Fr Nil w w3 := hw.trans f3 (fun g hg q => by have := HNE.out g (.inr q); omega)
          have H3 := Lib.hid (And.intro (H5.out.1.rs h3 f3) (And.intro (H5.out.2.fr f3 (fun q => HNK.out (.inr q))) hw3))
          clear h3 f3 hw3 hw
          go_wp2_with fail
          refine (do2 H3.out.1 (k := 5) (n := 0) (.begin rfl rfl rfl) (by omega) (by simp [Seg4.all]; omega) (by simp)).mono ?_
          rintro e w4 ⟨rfl, h4, f4⟩
          have hw4 : Fr Nil w w4 := H3.out.2.2.trans f4 (fun g hg q => by have := HNE.out g q; omega)
          have H4 := Lib.hid (And.intro h4 (And.intro (H3.out.2.1.fr f4 HNK.out) hw4))
          clear h4 f4 hw4 a1 a2 a3 a4 z1 z2 hsz0
          go_wp2_with fail
          go_loopg [17] zs.length (fun g iv wr3 => ∃ (i u3 : Nat) (W' F G : List Nat), g = zs.length - i ∧ i ≤ zs.length ∧ iv = .int .i64 i ∧ Hid (St (fun b => PX rg ba bw sb b ∨ b = bk) wr3 rg ba bw sb (3 * k + 1) ⟨W', F, G, []⟩ ⟨W', F, G, []⟩ u3 ∧ IMap wr3 bk i (keys G) (cntF G) ∧ W'.length + (F.length + G.length) = k) ∧ u3 ≤ 2000 + 20 * i ∧ Fr Nil w wr3)
          case atStart => exact ⟨0, u2, W, B, [], rfl, by omega, rfl, Lib.hid ⟨H4.out.1, H4.out.2.1, by simpa using hlW⟩, by omega, H4.out.2.2⟩
          case round =>
            obtain ⟨i, u3, W', F, G, rfl, hi, rfl, HS, hu4, hw⟩ := hrel
            by_cases hlt3 : i < zs.length
            · have i3 : (i : Int) < (zs.length : Int) := by omega
              have i4 : (0 : Int) ≤ (i : Int) := by omega
              obtain ⟨b, off, rfl, hcell⟩ := HX.out (by omega)
              have e0 := hcell i hlt3
              have r0 := hw.cell e0 (by simp [Nil])
              have hbw : b < w.heap.size := World.block_lt_of_cell? _ _ e0
              have hb0 : b < wr.heap.size := World.block_lt_of_cell? _ _ r0
              obtain ⟨z, hz0⟩ : ∃ z, nth zs i = z := ⟨_, rfl⟩
              rw [hz0] at r0
              clear hcell e0 hz0
              have hszk := HS.out.2.2
              by_cases hF : F = []
              · subst hF
                go_wp2_with fail
                refine (shaded_none sb _ _ z _ HS.out.1.ref rfl).mono ?_
                rintro e w3 ⟨rfl, f3⟩
                go_wp2_with fail
                go_roundg (zs.length - (i + 1))
                case rel => exact ⟨i + 1, u3, W', [], G, rfl, by omega, by go_num, Lib.hid ⟨HS.out.1.fr f3, (HS.out.2.1.fr f3 (fun q => q)).mono (by omega), HS.out.2.2⟩, by omega, hw.comp f3⟩
                case measure => omega
              · obtain ⟨F1, F2, c, hFc, hcn, hst⟩ := step_two (m := 3 * k + 1) (W := W') (G := G) (B := []) z hF
                have hsd := HS.out.1.size
                have hcF : c ∈ F := by rw [hFc]; simp
                have hnd : (W' ++ (F ++ (G ++ []))).Nodup := hsd.2.2.nodup
                have hcG : c ∉ G := fun q => by
                  rw [List.append_nil] at hnd
                  exact (List.nodup_append.1 (List.nodup_append.1 hnd).2.1).2.2 c hcF c q rfl
                have hcm := (hsd.2.2.le c (by simp [Seg4.all, hcF])).2
                have c0 : (0 : Int) ≤ (c : Int) := by omega
                have hwN : (Lit.int .i64 (c : Int)).wf = true := wf_small (by omega) (by omega)
                have hcl := cntF_le G (c : Int)
                have hwv : (Lit.int .i64 (cntF G (c : Int) + 1)).wf = true := wf_small (by omega) (by omega)
                have hww : IntKind.i64.wrap (cntF G (c : Int) + 1) = cntF G (c : Int) + 1 := by rw [IntKind.wrap_i64]; omega
                have HST := Lib.hid (And.intro hst (And.intro hcG (And.intro hwN (And.intro hwv (And.intro hFc (And.intro hcn hsd))))))
                clear hst hcG hwN hwv hFc hcn hsd hnd hcl hcF
                have dc : ¬ (c : Int) < 0 := by omega
                have hl5 : F.length ≤ 100000 := by omega
                go_wp2_with fail
                refine (shaded_some sb _ ⟨W', F, G, []⟩ z F1 F2 c _ HS.out.1.ref HST.out.2.2.2.2.1 hl5 HST.out.2.2.2.2.2.1).mono ?_
                rintro e w3 ⟨rfl, f3⟩
                have hM3 := HS.out.2.1.fr f3 (fun q => q)
                have r3 := f3.cell r0 (by simp [Nil])
                go_wp2_with (first
                  | (at_lookup; refine wp_look _ rfl _ _ rfl bk i (keys G) (cntF G) rfl hM3 (c : Int) rfl HST.out.2.2.1 ?_)
                  | (at_mapUpdate; refine wp_put _ rfl _ _ _ rfl bk i (keys G) (cntF G) rfl hM3 (by omega) (c : Int) (cntF G (c : Int) + 1) rfl rfl HST.out.2.2.1 HST.out.2.2.2.1 ?_; intro w4 hM4 f4 hz4; have r4 := f4.cell r3 (fun q => by have q' : b = bk := q; omega); have hb4 : b < w4.heap.size := World.block_lt_of_cell? _ _ r4)
                  | fail)
                have h4 := (HS.out.1.fr f3).map f4 (.inr rfl) HNK.out
                refine (do1 h4 HST.out.1 (by omega) (by omega) (right_one _ z (by decide))).mono ?_
                rintro e w5 ⟨rfl, ⟨u5, h5, hu5⟩, f5⟩
                have hw5 : Fr Nil w w5 := ((hw.comp f3).trans f4 (fun g hg q => by have q' : g = bk := q; omega)).trans f5 (fun g hg q => by have := HNE.out g q; omega)
                have r5 := f5.cell r4 (fun q => by have := HNE.out b q; omega)
                have hb5 : b < w5.heap.size := World.block_lt_of_cell? _ _ r5
                have hup : IMap w5 bk (i + 1) (keys (G ++ [c])) (cntF (G ++ [c])) := by
                  have h := hM4.fr f5 HNK.out
                  rw [keys_snoc HST.out.2.1, cnt_snoc] at h
                  exact h
                have H5 := Lib.hid (And.intro h5 (And.intro hup hw5))
                clear h4 h5 hup hw5 f3 f4 f5 hM3 hM4 r0 r3 r4
                go_wp2_with fail
                refine (do2 H5.out.1 HST.out.1 (by omega) (by have := HST.out.2.2.2.2.2.2.1; omega) HST.out.2.2.2.2.2.2.2.1).mono ?_
                rintro e w6 ⟨rfl, h6, f6⟩
                have hw6 : Fr Nil w w6 := H5.out.2.2.trans f6 (fun g hg q => by have := HNE.out g q; omega)
                have H6 := Lib.hid (And.intro h6 (H5.out.2.1.fr f6 HNK.out))
                clear h6 f6
                have hsum : W'.length + ((F1 ++ F2).length + (G ++ [c]).length) = k := by
                  have h := HST.out.2.2.2.2.1
                  rw [h] at hszk
                  simp only [List.length_append, List.length_cons, List.length_nil] at hszk ⊢
                  omega
                go_wp2_with fail
                go_roundg (zs.length - (i + 1))
                case rel => exact ⟨i + 1, u5, W', F1 ++ F2, G ++ [c], rfl, by omega, by go_num, Lib.hid ⟨H6.out.1, H6.out.2, hsum⟩, by omega, hw6⟩
                case measure => omega
            · obtain rfl : i = zs.length := by omega
              have i1 : ¬ ((zs.length : Int) < (zs.length : Int)) := by omega
              obtain ⟨g8, hg8⟩ : ∃ g8, s % 8 = g8 := ⟨_, rfl⟩
              have hg9 : g8 < 8 := by omega
              have a1 : (s : Int).tmod 8 = (g8 : Int) := by rw [Int.tmod_eq_emod_of_nonneg (by omega)]; omega
              have a2 : IntKind.i64.wrap (s : Int) = (s : Int) := by rw [IntKind.wrap_i64]; omega
              have a3 : IntKind.i64.wrap (g8 : Int) = (g8 : Int) := by rw [IntKind.wrap_i64]; omega
              have H7 := Lib.hid (And.intro HS.out (by have := HS.out.2.1.mono (show zs.length ≤ 60 + 0 by omega); exact this))
              clear hg8 HX HS
              go_wp2_with fail
              go_loopg [19] g8 (fun gg iv wr4 => ∃ (i u4 : Nat) (W F G B : List Nat), gg = g8 - i ∧ i ≤ g8 ∧ iv = .int .i64 i ∧ Hid (St (fun b => PX rg ba bw sb b ∨ b = bk) wr4 rg ba bw sb (3 * k + 1) ⟨W, F, G, B⟩ ⟨W, F, G, B⟩ u4 ∧ IMap wr4 bk (60 + i) (keys (G ++ B)) (cntF (G ++ B)) ∧ W.length + (F.length + (G.length + B.length)) = k) ∧ u4 ≤ 5000 + 20 * i ∧ Fr Nil w wr4)
              case atStart => exact ⟨0, u3, W', F, G, [], rfl, by omega, rfl, Lib.hid ⟨H7.out.1.1, by simpa using H7.out.2, by simpa using H7.out.1.2.2⟩, by omega, hw⟩
              case round =>
                obtain ⟨i, u4, W, F, G, B, rfl, hi, rfl, HS, hu5, hw⟩ := hrel
                by_cases hlt4 : i < g8
                · have i5 : (i : Int) < (g8 : Int) := by omega
                  obtain ⟨S', c, b, e, hst⟩ := rstep_total (3 * k + 1) W F G B 1 0
                  have hszk := HS.out.2.2
                  have hsd := HS.out.1.size
                  have hD1 := Lib.hid (do1 HS.out.1 (S' := S') hst (by omega) (by omega) (right_one _ 0 (by decide)))
                  have HST := Lib.hid hst
                  rcases step_one hst with ⟨rfl, rfl⟩ | ⟨rfl, W0, rfl, rfl⟩
                  · clear hst
                    go_wp2_with fail
                    refine hD1.out.mono ?_
                    rintro e w3 ⟨rfl, ⟨u5, h3, hu5'⟩, f3⟩
                    have hw3 : Fr Nil w w3 := hw.trans f3 (fun g hg q => by have := HNE.out g q; omega)
                    have H3 := Lib.hid (And.intro h3 (And.intro (HS.out.2.1.fr f3 HNK.out) hw3))
                    clear h3 hw3 f3
                    have d2 : ¬ ((2 : Nat) : Int) = 0 := by omega
                    go_wp2_with fail
                    refine (do2 (H3.out.1.fr (by (repeat (first | (with_reducible exact Fr.refl _ _) | (with_reducible assumption) | (with_reducible exact Fr.of_nil (by assumption)) | (with_reducible refine Fr.drew ?_) | (with_reducible refine Fr.drewN ?_ _) | (with_reducible refine Fr.alloc ?_ _) | (with_reducible refine Fr.set ?_ _ _ (by first | (intros; omega) | (simp; done) | (simp; omega))) | (with_reducible refine Fr.via ?_ (by assumption)) | (with_reducible refine Fr.comp ?_ (by assumption)))))) HST.out (by omega) (by have := hsd.1; omega) hsd.2.1).mono ?_
                    rintro e w4 ⟨rfl, h4, f4⟩
                    have f4' : Fr (PX rg ba bw sb) w3 w4 := Fr.trans (S := PX rg ba bw sb) (by (repeat (first | (with_reducible exact Fr.refl _ _) | (with_reducible assumption) | (with_reducible exact Fr.of_nil (by assumption)) | (with_reducible refine Fr.drew ?_) | (with_reducible refine Fr.drewN ?_ _) | (with_reducible refine Fr.alloc ?_ _) | (with_reducible refine Fr.set ?_ _ _ (by first | (intros; omega) | (simp; done) | (simp; omega))) | (with_reducible refine Fr.via ?_ (by assumption)) | (with_reducible refine Fr.comp ?_ (by assumption))))) f4 (fun _ _ q => q)
                    have hw4 : Fr Nil w w4 := H3.out.2.2.trans f4' (fun g hg q => by have := HNE.out g q; omega)
                    have H4 := Lib.hid (And.intro h4 (H3.out.2.1.fr f4' HNK.out))
                    clear h4 f4 f4'
                    go_wp2_with fail
                    go_roundg (g8 - (i + 1))
                    case rel => exact ⟨i + 1, u5, W, F, G, B, rfl, by omega, by go_num, Lib.hid ⟨H4.out.1, H4.out.2.mono (by omega), hszk⟩, by omega, hw4⟩
                    case measure => omega
                  · have hnd : ((c :: W0) ++ (F ++ (G ++ B))).Nodup := hsd.2.2.nodup
                    have hcG : c ∉ G ++ B := fun q => (List.nodup_append.1 hnd).2.2 c (by simp) c (List.mem_append_right F q) rfl
                    have hcm := (hsd.2.2.le c (by simp [Seg4.all])).2
                    have hwN : (Lit.int .i64 (c : Int)).wf = true := wf_small (by omega) (by omega)
                    have hcl := cntF_le (G ++ B) (c : Int)
                    have hcl2 : (G ++ B).length ≤ k := by simp only [List.length_append, List.length_cons] at hszk ⊢; omega
                    have hwv : (Lit.int .i64 (cntF (G ++ B) (c : Int) + 1)).wf = true := wf_small (by omega) (by omega)
                    have hww : IntKind.i64.wrap (cntF (G ++ B) (c : Int) + 1) = cntF (G ++ B) (c : Int) + 1 := by rw [IntKind.wrap_i64]; omega
                    have HC := Lib.hid (And.intro hcG (And.intro hwN (And.intro hwv hsd)))
                    clear hcG hwN hwv hsd hnd hcl hcl2 hst
                    go_wp2_with fail
                    refine hD1.out.mono ?_
                    rintro e w3 ⟨rfl, ⟨u5, h3, hu5'⟩, f3⟩
                    have hw3 : Fr Nil w w3 := hw.trans f3 (fun g hg q => by have := HNE.out g q; omega)
                    have hM3 := HS.out.2.1.fr f3 HNK.out
                    have hM3' : IMap (w3.alloc (Obj.cells #[Value.int IntKind.i64 ↑c, Value.bool b, Value.int IntKind.i64 ↑(0 : Nat)] 47)) bk (60 + i) (keys (G ++ B)) (cntF (G ++ B)) := hM3.fr (S := Nil) (by (repeat (first | (with_reducible exact Fr.refl _ _) | (with_reducible assumption) | (with_reducible exact Fr.of_nil (by assumption)) | (with_reducible refine Fr.drew ?_) | (with_reducible refine Fr.drewN ?_ _) | (with_reducible refine Fr.alloc ?_ _) | (with_reducible refine Fr.set ?_ _ _ (by first | (intros; omega) | (simp; done) | (simp; omega))) | (with_reducible refine Fr.via ?_ (by assumption)) | (with_reducible refine Fr.comp ?_ (by assumption))))) (fun q => q)
                    have H3 := Lib.hid (And.intro h3 hw3)
                    clear h3 f3 hM3
                    go_wp2_with (first
                      | (at_lookup; refine wp_look _ rfl _ _ rfl bk (60 + i) (keys (G ++ B)) (cntF (G ++ B)) rfl hM3' (c : Int) rfl HC.out.2.1 ?_)
                      | (at_mapUpdate; refine wp_put _ rfl _ _ _ rfl bk (60 + i) (keys (G ++ B)) (cntF (G ++ B)) rfl hM3' (by omega) (c : Int) (cntF (G ++ B) (c : Int) + 1) rfl rfl HC.out.2.1 HC.out.2.2.1 ?_; intro w4 hM4 f4 hz4)
                      | fail)
                    have f3a : Fr Nil w3 (w3.alloc (Obj.cells #[Value.int IntKind.i64 ↑c, Value.bool b, Value.int IntKind.i64 ↑(0 : Nat)] 47)) := by (repeat (first | (with_reducible exact Fr.refl _ _) | (with_reducible assumption) | (with_reducible exact Fr.of_nil (by assumption)) | (with_reducible refine Fr.drew ?_) | (with_reducible refine Fr.drewN ?_ _) | (with_reducible refine Fr.alloc ?_ _) | (with_reducible refine Fr.set ?_ _ _ (by first | (intros; omega) | (simp; done) | (simp; omega))) | (with_reducible refine Fr.via ?_ (by assumption)) | (with_reducible refine Fr.comp ?_ (by assumption))))
                    have h4 := (H3.out.1.fr f3a).map f4 (.inr rfl) HNK.out
                    have hw4 : Fr Nil w w4 := (H3.out.2.comp f3a).trans f4 (fun g hg q => by have q' : g = bk := q; omega)
                    have hup : IMap w4 bk (60 + i + 1) (keys (G ++ (B ++ [c]))) (cntF (G ++ (B ++ [c]))) := by
                      have h := hM4
                      rw [keys_snoc HC.out.1, cnt_snoc, List.append_assoc] at h
                      exact h
                    have H4 := Lib.hid (And.intro h4 (And.intro hup hw4))
                    clear h4 hup hw4 hM4 f4 f3a hM3'
                    refine (do2 H4.out.1 HST.out (by omega) (by have := HC.out.2.2.2.1; omega) HC.out.2.2.2.2.1).mono ?_
                    rintro e w5 ⟨rfl, h5, f5⟩
                    have hw5 : Fr Nil w w5 := H4.out.2.2.trans f5 (fun g hg q => by have := HNE.out g q; omega)
                    have H5 := Lib.hid (And.intro h5 (H4.out.2.1.fr f5 HNK.out))
                    have hsum : W0.length + (F.length + (G.length + (B ++ [c]).length)) = k := by
                      simp only [List.length_append, List.length_cons, List.length_nil] at hszk ⊢
                      omega
                    clear h5 f5
                    go_wp2_with fail
                    go_roundg (g8 - (i + 1))
                    case rel => exact ⟨i + 1, u5, W0, F, G, B ++ [c], rfl, by omega, by go_num, Lib.hid ⟨H5.out.1, H5.out.2, hsum⟩, by omega, hw5⟩
                    case measure => omega
                · obtain rfl : i = g8 := by omega
                  have i6 : ¬ ((i : Int) < (i : Int)) := by omega
                  obtain ⟨L, hL⟩ : ∃ L, G ++ B = L := ⟨_, rfl⟩
                  have hszk := HS.out.2.2
                  have hLn : L.length ≤ k := by rw [← hL]; simp only [List.length_append]; omega
                  have hLW : (W ++ F).length + L.length = k := by rw [← hL]; simp only [List.length_append]; omega
                  have hnd : L.Nodup := by
                    have h : (W ++ (F ++ (G ++ B))).Nodup := HS.out.1.size.2.2.nodup
                    rw [← hL]
                    exact (List.nodup_append.1 (List.nodup_append.1 h).2.1).2.1
                  have hmem : ∀ y ∈ L, y ≤ 3 * k + 1 := fun y hy => (HS.out.1.size.2.2.le y (by rw [← hL] at hy; simp only [Seg4.all, List.mem_append] at hy ⊢; exact .inr (.inr hy))).2 |> fun h => by omega
                  have hM := HS.out.2.1
                  rw [hL] at hM
                  have H8 := Lib.hid (And.intro HS.out.1 (And.intro hM (And.intro hnd (And.intro hmem hL))))
                  have hGk : G.length ≤ k := by omega
                  clear hM hnd hmem HS hL
                  go_wp2_with fail
                  go_loopg [21] k (fun gg iv wr5 => ∃ (j u6 : Nat) (G' B' : List Nat), gg = k - j ∧ j ≤ k ∧ iv = .int .i64 j ∧ Hid (St (fun b => PX rg ba bw sb b ∨ b = bk) wr5 rg ba bw sb (3 * k + 1) ⟨W, F, G', B'⟩ ⟨W, F, G, B⟩ u6 ∧ IMap wr5 bk (60 + i) (keys L) (cntF L) ∧ G' ++ B' = L) ∧ G'.length + j ≤ k ∧ u6 ≤ 6000 + 50 * j ∧ Fr Nil w wr5)
                  case atStart => exact ⟨0, u4, G, B, rfl, by omega, rfl, Lib.hid ⟨H8.out.1, H8.out.2.1, H8.out.2.2.2.2⟩, by omega, by omega, hw⟩
                  case round =>
                    obtain ⟨j, u6, G', B', rfl, hj, rfl, HS, hgl, hu7, hw⟩ := hrel
                    by_cases hlt5 : j < k
                    · have i7 : (j : Int) < (k : Int) := by omega
                      by_cases hG : G' = []
                      · subst hG
                        have hd := rgrey_none (h := HS.out.1.ring)
                        have HDn := Lib.hid hd
                        clear hd
                        go_wp2_with fail
                        refine HDn.out.mono ?_
                        rintro e w3 ⟨rfl, f3⟩
                        go_wp2_with fail
                        go_roundg (k - (j + 1))
                        case rel => exact ⟨j + 1, u6, [], B', rfl, by omega, by go_num, Lib.hid ⟨HS.out.1.fr f3, HS.out.2.1.fr f3 (fun q => q), HS.out.2.2⟩, by simp; omega, by omega, hw.comp f3⟩
                        case measure => omega
                      · obtain ⟨G0, c, rfl⟩ := snoc_of hG
                        have HDn := Lib.hid (rgrey_some (h := HS.out.1.ring) (hu := by omega))
                        go_wp2_with fail
                        refine HDn.out.mono ?_
                        rintro e w3 ⟨rfl, ⟨u7, h3, hu8⟩, f3⟩
                        have hw3 : Fr Nil w w3 := hw.trans f3 (fun g hg q => by have := HNE.out g (.inr q); omega)
                        have H3 := Lib.hid (And.intro (HS.out.1.rs h3 f3) (And.intro (HS.out.2.1.fr f3 (fun q => HNK.out (.inr q))) hw3))
                        have HDd := Lib.hid (rdone_some (h := h3) (hu := by omega))
                        clear h3 f3 hw3
                        go_wp2_with fail
                        refine HDd.out.mono ?_
                        rintro e w4 ⟨rfl, ⟨u8, h4, hu9⟩, f4⟩
                        have hw4 : Fr Nil w w4 := H3.out.2.2.trans f4 (fun g hg q => by have := HNE.out g (.inr q); omega)
                        have H4 := Lib.hid (And.intro (H3.out.1.rs h4 f4) (H3.out.2.1.fr f4 (fun q => HNK.out (.inr q))))
                        have hgl2 : G0.length + (j + 1) ≤ k := by simp only [List.length_append, List.length_cons, List.length_nil] at hgl; omega
                        clear h4 f4
                        go_wp2_with fail
                        go_roundg (k - (j + 1))
                        case rel => exact ⟨j + 1, u8, G0, c :: B', rfl, by omega, by go_num, Lib.hid ⟨H4.out.1, H4.out.2, by have := HS.out.2.2; simpa using this⟩, hgl2, by omega, hw4⟩
                        case measure => omega
                    · obtain rfl : j = k := by omega
                      have i8 : ¬ ((j : Int) < (j : Int)) := by omega
                      obtain rfl : G' = [] := List.eq_nil_of_length_eq_zero (by omega)
                      obtain rfl : B' = L := HS.out.2.2
                      have HE := Lib.hid (rend_ok (h := HS.out.1.ring))
                      go_wp2_with fail
                      refine HE.out.mono ?_
                      rintro e w3 ⟨rfl, h3, f3⟩
                      have hw3 : Fr Nil w w3 := hw.trans f3 (fun g hg q => by have := HNE.out g (.inr q); omega)
                      have H3 := Lib.hid (And.intro (HS.out.1.rs h3 f3) (And.intro (HS.out.2.1.fr f3 (fun q => HNK.out (.inr q))) hw3))
                      clear h3 f3 hw3 hw HE
                      go_wp2_with fail
                      refine (list_any rg ba bw _ u6 _ _ H3.out.1.ring (by omega)).mono ?_
                      rintro e wL ⟨⟨y0, y1, y2, y3, rfl, rr0, rr1, rr2, rr3⟩, _, fL⟩
                      have fLp : Fr (PX rg ba bw sb) w3 wL := fL.mono (fun _ _ q => .inr (.inr (.inl q)))
                      have hwL : Fr Nil w wL := H3.out.2.2.trans fLp (fun g hg q => by have := HNE.out g q; omega)
                      have hML := H3.out.2.1.fr fLp HNK.out
                      have hv3 := rr3.toV
                      obtain ⟨x0, k0, rfl⟩ := rr0.toV.shape
                      obtain ⟨x1, k1, rfl⟩ := rr1.toV.shape
                      obtain ⟨x2, k2', rfl⟩ := rr2.toV.shape
                      obtain ⟨x3, k3, rfl⟩ := hv3.shape
                      obtain ⟨N, hN⟩ : ∃ N, B'.length = N := ⟨_, rfl⟩
                      obtain ⟨M, hM⟩ : ∃ M, (W ++ F).length = M := ⟨_, rfl⟩
                      rw [hM, hN] at hLW
                      have hlr := hML.lenrun
                      rw [keys_len, hN] at hlr
                      have HRW : Hid (∀ w', Fr Nil wL w' → RowV w' (.slice x3 B'.length k3) B') := fun w' f => hv3.fr f
                      simp only [List.length_nil, hM, hN] at HRW ⊢
                      have HML := Lib.hid (And.intro hML hN)
                      clear hML hv3 rr0 rr1 rr2 rr3 fL fLp hN hM hlr
                      go_wp2_with fail
                      obtain ⟨T, hT⟩ : ∃ T, wL.heap.size = T := ⟨_, rfl⟩
                      obtain ⟨V, hV⟩ : ∃ V, wL.alloc (Obj.cells #[.slice x0 M k0, .slice x1 0 k1, .slice x2 0 k2', .slice x3 N k3] 32) = V := ⟨_, rfl⟩
                      have fV : Fr Nil wL V := by rw [← hV]; (repeat (first | (with_reducible exact Fr.refl _ _) | (with_reducible assumption) | (with_reducible exact Fr.of_nil (by assumption)) | (with_reducible refine Fr.drew ?_) | (with_reducible refine Fr.drewN ?_ _) | (with_reducible refine Fr.alloc ?_ _) | (with_reducible refine Fr.set ?_ _ _ (by first | (intros; omega) | (simp; done) | (simp; omega))) | (with_reducible refine Fr.via ?_ (by assumption)) | (with_reducible refine Fr.comp ?_ (by assumption))))
                      have p0 : V.cell? ⟨T, 0, none⟩ = some (.slice x0 M k0) := by rw [← hV, ← hT]; simp
                      have p1 : V.cell? ⟨T, 1, none⟩ = some (.slice x1 0 k1) := by rw [← hV, ← hT]; simp
                      have p2 : V.cell? ⟨T, 2, none⟩ = some (.slice x2 0 k2') := by rw [← hV, ← hT]; simp
                      have p3 : V.cell? ⟨T, 3, none⟩ = some (.slice x3 N k3) := by rw [← hV, ← hT]; simp
                      have HP := Lib.hid (And.intro p0 (And.intro p1 (And.intro p2 (And.intro p3 fV))))
                      rw [hT, hV]
                      clear hV hT p0 p1 p2 p3 fV
                      go_loopg [25] N (fun gg iv wr6 => ∃ t : Nat, gg = N - t ∧ t ≤ N ∧ iv = .int .i64 t ∧ Fr Nil V wr6)
                      case atStart => exact ⟨0, rfl, by omega, rfl, Fr.refl _ _⟩
                      case round =>
                        obtain ⟨t, rfl, ht, rfl, hw6⟩ := hrel
                        have p0 := hw6.cell HP.out.1 (by simp [Nil])
                        have p1 := hw6.cell HP.out.2.1 (by simp [Nil])
                        have p2 := hw6.cell HP.out.2.2.1 (by simp [Nil])
                        have p3 := hw6.cell HP.out.2.2.2.1 (by simp [Nil])
                        have hTl : T < wr.heap.size := World.block_lt_of_cell? _ _ p0
                        have fM : Fr Nil wL wr := HP.out.2.2.2.2.comp hw6
                        by_cases hlt6 : t < N
                        · have j1 : (t : Int) < (N : Int) := by omega
                          have j0 : (0 : Int) ≤ (t : Int) := by omega
                          have htL : t < B'.length := by have := HML.out.2; omega
                          obtain ⟨g, eg, pk⟩ := RowV.at (HRW.out wr fM) t htL
                          cases eg
                          obtain ⟨y, ey⟩ : ∃ y, B'[t] = y := ⟨_, rfl⟩
                          rw [ey] at pk
                          have hyL : y ∈ B' := by rw [← ey]; exact List.getElem_mem htL
                          have hone : cntF B' (y : Int) = 1 := cntF_one H8.out.2.2.1 hyL
                          have hym := H8.out.2.2.2.1 y hyL
                          have hlk := (HML.out.1.fr fM (fun q => q)).run (c := (y : Int)) (wf_small (by omega) (by omega))
                          rw [hone] at hlk
                          have hgl : g < wr.heap.size := World.block_lt_of_cell? _ _ pk
                          clear hone hyL ey htL
                          go_wp2
                          go_roundg (N - (t + 1))
                          case rel => exact ⟨t + 1, rfl, by omega, by go_num, by (repeat (first | (with_reducible exact Fr.refl _ _) | (with_reducible assumption) | (with_reducible exact Fr.of_nil (by assumption)) | (with_reducible refine Fr.drew ?_) | (with_reducible refine Fr.drewN ?_ _) | (with_reducible refine Fr.alloc ?_ _) | (with_reducible refine Fr.set ?_ _ _ (by first | (intros; omega) | (simp; done) | (simp; omega))) | (with_reducible refine Fr.via ?_ (by assumption)) | (with_reducible refine Fr.comp ?_ (by assumption))))⟩
                          case measure => omega
                        · obtain rfl : t = N := by omega
                          have i9 : ¬ ((t : Int) < (t : Int)) := by omega
                          have hln := fun ty => (HML.out.1.fr fM (fun q => q)).lenrun ty
                          rw [keys_len, HML.out.2] at hln
                          have hsub : IntKind.i64.wrap ((j : Int) - (t : Int)) = (M : Int) := by rw [IntKind.wrap_i64]; omega
                          go_wp2
                          go_ret
                          exact ⟨rfl, (hwL.comp HP.out.2.2.2.2).comp hw6⟩
set_option maxRecDepth 100000 in
theorem cycle_wide (q r s : Nat) (hq : q < 256) (hr : r < 256) (hs : s < 256) (v : Value) (zs : List Int) (w : World) (hv : RowInts w v zs) (hz : 60 < zs.length) :
    Calls Try.prog 5 #[.int .u8 (q : Int), .int .u8 (r : Int), .int .u8 (s : Int), v] w fun e w' => e = .returned (.bool true) ∧ Fr Nil w w' := by
  obtain ⟨a, cap, rfl, hrow⟩ := hv
  have hmm := @run_makeMap Try.prog
  obtain ⟨q1, hq1⟩ : ∃ q1, q % 40 = q1 := ⟨_, rfl⟩
  have hq2 : q1 < 40 := by omega
  have a1 : (q : Int).tmod 40 = (q1 : Int) := by rw [Int.tmod_eq_emod_of_nonneg (by omega)]; omega
  have a2 : IntKind.u8.wrap (q1 : Int) = (q1 : Int) := by simp [IntKind.wrap, IntKind.bits, IntKind.signed]; omega
  have a3 : IntKind.i64.wrap (q1 : Int) = (q1 : Int) := by rw [IntKind.wrap_i64]; omega
  have a4 : IntKind.i64.wrap ((q1 : Int) + 1) = (q1 : Int) + 1 := by rw [IntKind.wrap_i64]; omega
  clear hq1 hrow
  go_enter Try.func5, Try.ntmps5
  go_wp2_with fail
  refine (awake_any _).mono ?_
  rintro e w0 ⟨rfl, f0⟩
  go_wp2_with fail
  obtain ⟨n, hn⟩ : ∃ n : Nat, q1 + 1 = n := ⟨_, rfl⟩
  have e1 : (q1 : Int) + 1 = (n : Int) := by omega
  have hn1 : 1 ≤ n := by omega
  have hn2 : n ≤ 40 := by omega
  rw [e1]
  clear a1 a2 a3 a4 e1 hq2 hn
  have hmd := made_any (3 * n + 1) w0 (by omega) (by omega)
  rw [show ((3 * n + 1 : Nat) : Int) = 3 * (n : Int) + 1 by omega] at hmd
  refine hmd.mono ?_
  clear hmd
  rintro e w1 ⟨ba, bw, rg, sb, rfl, hR, hB, s1, s2, s3, s4, f1⟩
  have fw1 : Fr Nil w w1 := by (repeat (first | (with_reducible exact Fr.refl _ _) | (with_reducible assumption) | (with_reducible exact Fr.of_nil (by assumption)) | (with_reducible refine Fr.drew ?_) | (with_reducible refine Fr.drewN ?_ _) | (with_reducible refine Fr.alloc ?_ _) | (with_reducible refine Fr.set ?_ _ _ (by first | (intros; omega) | (simp; done) | (simp; omega))) | (with_reducible refine Fr.via ?_ (by assumption)) | (with_reducible refine Fr.comp ?_ (by assumption))))
  have i60 : (60 : Int) < (zs.length : Int) := by omega
  have d60 := decide_eq_true i60
  clear hR hB s1 s2 s3 s4 f0 f1
  go_wp2
  go_ret
  exact ⟨rfl, fw1⟩
theorem cycle_any (x y z : Int) (hx : 0 ≤ x ∧ x < 256) (hy : 0 ≤ y ∧ y < 256) (hz : 0 ≤ z ∧ z < 256) (v : Value) (zs : List Int) (w : World) (hv : RowInts w v zs) :
    Calls Try.prog 5 #[.int .u8 x, .int .u8 y, .int .u8 z, v] w fun e w' => e = .returned (.bool true) ∧ Fr Nil w w' := by
  obtain ⟨q, rfl⟩ := Int.eq_ofNat_of_zero_le hx.1
  obtain ⟨r, rfl⟩ := Int.eq_ofNat_of_zero_le hy.1
  obtain ⟨s, rfl⟩ := Int.eq_ofNat_of_zero_le hz.1
  by_cases h : 60 < zs.length
  · exact cycle_wide q r s (by omega) (by omega) (by omega) v zs w hv h
  · exact cycle_in q r s (by omega) (by omega) (by omega) v zs w hv (by omega)
end Go.Proofs.Ytlpdlhmdhlcdlaa
