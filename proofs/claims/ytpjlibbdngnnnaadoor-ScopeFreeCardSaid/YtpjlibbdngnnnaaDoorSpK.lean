/-
  The program's scope (layer 10): a module's constructors; its first fault. Conditions: the listed variable errors.errorType; a module as a source tells it.
-/
import Derived.Test.YtpjlibbdngnnnaaDoorSpY
import Derived.Test.YtpjlibbdngnnnaaDoorSpAs
import Derived.BigQuiet
namespace Go.Proofs.YtpjlibbdngnnnaaDoor
set_option linter.unusedSimpArgs false
set_option linter.unusedVariables false
open Go.RowKit

theorem chk_nf (m : TM) (h : (chkF m).1 = 0) : chkF m = noF := by
  have hc : Stays (fun s : FS => if mainN ∈ nmB m.binds then s else fltS s 10 mainN) := if_stays Stays.id (flt_stays (by decide) mainN)
  have hg := Stays.comp (Stays.comp (scB_stays (consN m) m.binds (nmB m.binds)) (Stays.comp hc (twF_stays (nmB m.binds)))) (twF_stays (consN m))
  exact hg.nf h
section
variable {w : World} {m : TM} {c1 : Option Addr} {c2 : Nat}
set_option maxRecDepth 100000 in
theorem scons_any {b1 : Option Addr} {nb b2 nc : Nat} (hc : DeclsAt (fun _ => False) w (.slice c1 nc c2) m.cons) (hnc : m.cons.length = nc) (hl9 : m.cons.length ≤ 100000) :
    Calls Tryd.prog 21 #[.agg #[.slice c1 nc c2, .slice b1 nb b2]] w fun r w' => ∃ v, r = .returned v ∧ w'.ownsRow w.heap.size 49 2 v (fullD m).length (flatN (fullD m)) ∧ Fr Nil w w' := by
  obtain ⟨i0, hi, hz0, hz1, hz2⟩ := info_parts infoD
  have hfl : (fullD m).length = 4 + nc := by simp [fullD, hnc]; omega
  have HV := Lib.hid (And.intro hc (And.intro hnc hfl))
  rw [hnc] at hl9
  clear hc hnc hfl
  go_enter Tryd.func21, Tryd.ntmps21
  go_wp2_with (first
    | (at_builtin; refine wpList_append_src rfl (.tmp 7) (.tmp 9) 23 rfl w.heap.size 49 i0 (.agg #[.string ⟨#[]⟩, .int .i64 0]) 2 24 Tryd.underlying23 hi hz0 hz1 hz2 rfl (by decide) (.slice (some ⟨w.heap.size + 1, 0, none⟩) 4 4) 4 (flatN [(falseN, 0), (trueN, 0), (nothN, 0), (justN, 1)]) rfl (owns_four (by (unfold Blk; simp (disch := first | omega | (simp; done) | (simp; omega)) only [hp_drew, hp_drewN, hp_alloc, hp_other, hp_same, hp_new, upd_cells, Option.map_some])) (by omega)) c1 nc c2 (flatN m.cons) rfl (DeclsAt.src (RowC.fr HV.out.1 (S := Nil) (by (repeat (first | (with_reducible exact Fr.refl _ _) | (with_reducible assumption) | (with_reducible exact Fr.of_nil (by assumption)) | (with_reducible refine Fr.drew ?_) | (with_reducible refine Fr.drewN ?_ _) | (with_reducible refine Fr.alloc ?_ _) | (with_reducible refine Fr.set ?_ _ _ (by first | (intros; omega) | (simp; done) | (simp; omega))) | (with_reducible refine Fr.via ?_ (by assumption)) | (with_reducible refine Fr.comp ?_ (by assumption))))) (fun _ q => q.elim)) HV.out.2.1) flatN_one (by unfold maxLen; omega) (by omega) (by simp; omega) ?_; intro u1 w1 hown1 g1 hk1; have H1 := Lib.hid (And.intro hown1 g1); clear hown1 g1 hk1)
    | fail)
  have hf : Fr Nil w w1 := Fr.grown (S := Nil) (w := w) (by (repeat (first | (with_reducible exact Fr.refl _ _) | (with_reducible assumption) | (with_reducible exact Fr.of_nil (by assumption)) | (with_reducible refine Fr.drew ?_) | (with_reducible refine Fr.drewN ?_ _) | (with_reducible refine Fr.alloc ?_ _) | (with_reducible refine Fr.set ?_ _ _ (by first | (intros; omega) | (simp; done) | (simp; omega))) | (with_reducible refine Fr.via ?_ (by assumption)) | (with_reducible refine Fr.comp ?_ (by assumption))))) H1.out.2 (fun k q hk => by
    have e : some (w.heap.size + 1) = some k := q
    injection e with e
    omega)
  have ho : w1.ownsRow w.heap.size 49 2 u1 (fullD m).length (flatN (fullD m)) := by
    have h := H1.out.1
    rw [HV.out.2.2]
    unfold fullD
    rw [flatN_app]
    exact h
  have HF := Lib.hid (And.intro ho hf)
  obtain ⟨ua, uc, rfl⟩ := owns_shape ho
  clear ho hf
  go_ret
  exact ⟨_, rfl, HF.out.1, HF.out.2⟩
set_option maxRecDepth 100000 in
theorem scheck3_any {q1 mi n : Nat} {G : List (List UInt8)} (hb : Blk w q1 #[.map (some mi)] 62) (hm : SMap w mi n (cnt G)) :
    Calls Tryd.prog 29 #[.pointer (some ⟨q1, 0, none⟩)] w (Told (if mainN ∈ G then noF else (10, mainN)) w) := by
  have t0 := hb.cell 0
  simp at t0
  have tl := hb.lt
  obtain ⟨F, hF⟩ : ∃ F, cnt G = F := ⟨_, rfl⟩
  obtain ⟨d, hd⟩ : ∃ d, F mainN = d := ⟨_, rfl⟩
  have hmem : d = 0 ↔ mainN ∉ G := by rw [← hd, ← hF]; exact cnt_zero
  have HM : Hid (SMap w mi n F) := Lib.hid (hF ▸ hm)
  obtain ⟨R, hR⟩ : ∃ R, (if mainN ∈ G then noF else (10, mainN)) = R := ⟨_, rfl⟩
  rw [hR]
  clear hb hm hF
  by_cases hz : d = 0
  · have HS := Lib.hid (show R = (10, mainN) by rw [← hR, if_neg (hmem.1 hz)])
    clear hR
    subst hz
    clear hmem
    go_enter Tryd.func29, Tryd.ntmps29
    go_wp2_with (first
      | (at_lookup; refine wp_lookS _ Tryd.underlying62 rfl _ _ rfl mi n F rfl HM.out mainN rfl (by decide) ?_; rw [hd])
      | fail)
    refine (bad_any (e := 10) (by decide) mainN).mono ?_
    rintro e w2 ⟨v, rfl, he, f2⟩
    have HG := Lib.hid (And.intro he f2)
    clear he f2
    go_wp2
    go_ret
    exact ⟨v, rfl, by rw [HS.out]; exact HG.out.1, HG.out.2⟩
  · have d1 : (d == 0) = false := by simpa using hz
    have HS := Lib.hid (show R = noF by rw [← hR, if_pos (Classical.not_not.1 (fun z => hz (hmem.2 z)))])
    clear hmem hz hR
    go_enter Tryd.func29, Tryd.ntmps29
    go_wp2_with (first
      | (at_lookup; refine wp_lookS _ Tryd.underlying62 rfl _ _ rfl mi n F rfl HM.out mainN rfl (by decide) ?_; rw [hd])
      | fail)
    go_ret
    exact ⟨_, rfl, by rw [HS.out]; exact ErrAt.none, by (repeat (first | (with_reducible exact Fr.refl _ _) | (with_reducible assumption) | (with_reducible exact Fr.of_nil (by assumption)) | (with_reducible refine Fr.drew ?_) | (with_reducible refine Fr.drewN ?_ _) | (with_reducible refine Fr.alloc ?_ _) | (with_reducible refine Fr.set ?_ _ _ (by first | (intros; omega) | (simp; done) | (simp; omega))) | (with_reducible refine Fr.via ?_ (by assumption)) | (with_reducible refine Fr.comp ?_ (by assumption))))⟩

set_option maxRecDepth 100000 in
set_option maxHeartbeats 8000000 in
theorem scheck_any {b1 : Option Addr} {nb b2 nc : Nat} (hm : ModV (fun _ => False) w c1 nc c2 b1 nb b2 m) (hcn : ∀ d ∈ m.cons, d.1.length ≤ maxLen) (hok : okB m.binds) (hws : wsB m.binds) (hl9 : m.cons.length ≤ 100000) (hl8 : m.binds.length + wnB m.binds ≤ 700000) (hT : ErrT w) :
    Calls Tryd.prog 12 #[.agg #[.slice c1 nc c2, .slice b1 nb b2]] w fun r w' => r = .returned (.tuple #[.int .i64 ((chkF m).1 : Int), .string ⟨(chkF m).2.toArray⟩]) ∧ Fr Nil w w' := by
  obtain ⟨i0, hi, hz0, hz1, hz2⟩ := info_parts infoS
  obtain ⟨⟨RE, RN⟩, hR⟩ : ∃ R, chkF m = R := ⟨_, rfl⟩
  rw [hR]
  have hcl : (consN m).length = 4 + nc := by simp [consN, hm.2.1]; omega
  have hfl : (fullD m).length = 4 + nc := by simp [fullD, hm.2.1]; omega
  have hnc9 : nc ≤ 100000 := by have := hm.2.1; omega
  have hnb9 : nb ≤ 700000 := by have := hm.2.2.2; omega
  have HM := Lib.hid (And.intro hm (And.intro hcn (And.intro hok (And.intro hws (And.intro hl9 (And.intro hl8 (And.intro hT (And.intro hR (And.intro hcl hfl)))))))))
  clear hm hcn hok hws hl9 hl8 hT hR hcl hfl
  obtain ⟨T, hT⟩ : ∃ T, w.heap.size = T := ⟨_, rfl⟩
  have hmm := @run_makeMap Tryd.prog
  go_enter Tryd.func12, Tryd.ntmps12
  go_upto_region 3 with fail
  try rw [hT]
  obtain ⟨W1, hW1⟩ : ∃ W1, (((((w.alloc (.cells #[.slice c1 nc c2, .slice b1 nb b2] 26)).alloc (.map #[] 0)).alloc (.cells #[.map (some (T + 1))] 64)).alloc (.cells #[.pointer (some ⟨T + 2, 0, none⟩)] 60)).alloc (.cells #[.slice none 0 0] 33)).alloc (.cells #[.slice none 0 0] 33) = W1 := ⟨_, rfl⟩
  rw [hW1]
  have f1 : Fr Nil w W1 := by rw [← hW1]; (repeat (first | (with_reducible exact Fr.refl _ _) | (with_reducible assumption) | (with_reducible exact Fr.of_nil (by assumption)) | (with_reducible refine Fr.drew ?_) | (with_reducible refine Fr.drewN ?_ _) | (with_reducible refine Fr.alloc ?_ _) | (with_reducible refine Fr.set ?_ _ _ (by first | (intros; omega) | (simp; done) | (simp; omega))) | (with_reducible refine Fr.via ?_ (by assumption)) | (with_reducible refine Fr.comp ?_ (by assumption))))
  have b0 : Blk W1 T #[.slice c1 nc c2, .slice b1 nb b2] 26 := by rw [← hW1, ← hT]; (unfold Blk; simp (disch := first | omega | (simp; done) | (simp; omega)) only [hp_drew, hp_drewN, hp_alloc, hp_other, hp_same, hp_new, upd_cells, Option.map_some])
  have bb2 : Blk W1 (T + 2) #[.map (some (T + 1))] 64 := by rw [← hW1, ← hT]; (unfold Blk; simp (disch := first | omega | (simp; done) | (simp; omega)) only [hp_drew, hp_drewN, hp_alloc, hp_other, hp_same, hp_new, upd_cells, Option.map_some])
  have bb3 : Blk W1 (T + 3) #[.pointer (some ⟨T + 2, 0, none⟩)] 60 := by rw [← hW1, ← hT]; (unfold Blk; simp (disch := first | omega | (simp; done) | (simp; omega)) only [hp_drew, hp_drewN, hp_alloc, hp_other, hp_same, hp_new, upd_cells, Option.map_some])
  have bb4 : Blk W1 (T + 4) #[.slice none 0 0] 33 := by rw [← hW1, ← hT]; (unfold Blk; simp (disch := first | omega | (simp; done) | (simp; omega)) only [hp_drew, hp_drewN, hp_alloc, hp_other, hp_same, hp_new, upd_cells, Option.map_some])
  have bb5 : Blk W1 (T + 5) #[.slice none 0 0] 33 := by rw [← hW1, ← hT]; (unfold Blk; simp (disch := first | omega | (simp; done) | (simp; omega)) only [hp_drew, hp_drewN, hp_alloc, hp_other, hp_same, hp_new, upd_cells, Option.map_some])
  have hmp : SMap W1 (T + 1) 0 (cnt []) := by
    have h := SMap.made (w.alloc (.cells #[.slice c1 nc c2, .slice b1 nb b2] 26))
    rw [World.size_alloc, hT] at h
    have h2 : SMap ((w.alloc (.cells #[.slice c1 nc c2, .slice b1 nb b2] 26)).alloc (.map #[] 0)) (T + 1) 0 (cnt []) := h.congr (fun x _ => by simp [cnt])
    rw [← hW1]
    exact h2.frN (by (repeat (first | (with_reducible exact Fr.refl _ _) | (with_reducible assumption) | (with_reducible exact Fr.of_nil (by assumption)) | (with_reducible refine Fr.drew ?_) | (with_reducible refine Fr.drewN ?_ _) | (with_reducible refine Fr.alloc ?_ _) | (with_reducible refine Fr.set ?_ _ _ (by first | (intros; omega) | (simp; done) | (simp; omega))) | (with_reducible refine Fr.via ?_ (by assumption)) | (with_reducible refine Fr.comp ?_ (by assumption)))))
  have z1 : W1.heap.size = T + 6 := by rw [← hW1, ← hT]; simp
  have hc1 := scons_any (m := m) (b1 := b1) (nb := nb) (b2 := b2) (RowC.frN HM.out.1.1 f1) HM.out.1.2.1 HM.out.2.2.2.2.1
  have u0 := b0.cell 0
  have u1 := b0.cell 1
  simp at u0 u1
  have ul := b0.lt
  have H1 := Lib.hid (And.intro f1 (And.intro b0 (And.intro bb2 (And.intro bb3 (And.intro bb4 (And.intro bb5 (And.intro hmp (And.intro z1 hT))))))))
  have HC1 := Lib.hid hc1
  clear hW1 f1 b0 bb2 bb3 bb4 bb5 hmp z1 hT hc1
  go_wp2_with fail
  refine HC1.out.mono ?_
  rintro e W2 ⟨v0, rfl, own0, f2⟩
  obtain ⟨n4, hn4⟩ : ∃ n4, 4 + nc = n4 := ⟨_, rfl⟩
  rw [H1.out.2.2.2.2.2.2.2.1] at own0
  have hdA : DeclsAt (fun b => b < T + 6) W2 v0 (fullD m) := DeclsAt.of_own own0 (fun b q => q)
  obtain ⟨va, vc, rfl⟩ := owns_shape own0
  have hfl := HM.out.2.2.2.2.2.2.2.2.2
  have hcl := HM.out.2.2.2.2.2.2.2.2.1
  rw [hn4] at hfl hcl
  rw [hfl] at hdA
  have hz2' := f2.size
  obtain ⟨T2, hT2⟩ : ∃ T2, W2.heap.size = T2 := ⟨_, rfl⟩
  have hTT : T + 6 ≤ T2 := by have := H1.out.2.2.2.2.2.2.2.1; omega
  have H2 := Lib.hid (And.intro hdA (And.intro f2 (And.intro hfl (And.intro hcl hT2))))
  rw [hfl]
  have hn49 : n4 ≤ 100004 := by omega
  clear own0 hdA f2 hfl hcl hn4 HC1 hz2' hT2 u0 u1 ul
  go_wp2_with fail
  go_loopg [20] n4 (fun g iv wr => ∃ (k : Nat) (v : Value), g = n4 - k ∧ k ≤ n4 ∧ iv = .int .i64 (k : Int) ∧ Hid (Blk wr (T + 4) #[v] 33 ∧ wr.ownsRow T2 9 1 v k (strC ((consN m).take k)) ∧ Fr (fun b => b = T + 4) W2 wr))
  case atStart => exact ⟨0, _, rfl, by omega, rfl, Lib.hid ⟨H2.out.2.1.blk H1.out.2.2.2.2.1 (fun q => q), by simpa [strC] using World.ownsRow_nil _ _ _ _, Fr.refl _ _⟩⟩
  case round =>
    obtain ⟨kk, v, rfl, hk, rfl, HS⟩ := hrel
    have j0 : (0 : Int) ≤ (kk : Int) := by omega
    have hT4 : T2 ≤ wr.heap.size := by have := HS.out.2.2.size; have := H2.out.2.2.2.2; omega
    by_cases hlt : kk < n4
    · have hkD : kk < (fullD m).length := by rw [H2.out.2.2.1]; exact hlt
      have hkC : kk < (consN m).length := by rw [H2.out.2.2.2.1]; exact hlt
      have wkk : IntKind.i64.wrap ((kk : Int) + 1) = (kk : Int) + 1 := by rw [IntKind.wrap_i64]; omega
      have j1 : (kk : Int) < (n4 : Int) := by omega
      obtain ⟨db, doff, e, hdb, p0, p1⟩ := DeclsAt.cell (RowC.fr H2.out.1 HS.out.2.2 (fun b q => by have q' : b = T + 4 := q; omega)) kk hkD
      subst e
      obtain ⟨x, hx⟩ : ∃ x, (consN m)[kk] = x := ⟨_, rfl⟩
      have ex : (fullD m)[kk].1 = x := by
        have h1 := congrArg (fun z => z[kk]?) (fullD_names m)
        simp only [List.getElem?_map, List.getElem?_eq_getElem hkD, List.getElem?_eq_getElem hkC, Option.map_some] at h1
        injection h1 with h1
        rw [h1, hx]
      rw [ex] at p0
      obtain ⟨ar, har⟩ : ∃ ar, (fullD m)[kk].2 = ar := ⟨_, rfl⟩
      rw [har] at p1
      have HX := Lib.hid hx
      have hdl : db < wr.heap.size := World.block_lt_of_cell? _ _ p0
      have u3 := HS.out.1.cell 0
      simp at u3
      have u3l := HS.out.1.lt
      have u3f := HS.out.1.free
      have hown := HS.out.2.1.lt
      clear hx ex har hdb
      go_wp2_with (first
        | (at_builtin; refine wpList_push rfl (.tmp 24) (.tmp 27) 33 rfl T2 9 i0 (.string ⟨#[]⟩) 1 16 Tryd.underlying33 hi hz0 hz1 hz2 rfl (by decide) v kk (strC ((consN m).take kk)) rfl (owns_fr HS.out.2.1 (by (repeat (first | (with_reducible exact Fr.refl _ _) | (with_reducible assumption) | (with_reducible exact Fr.of_nil (by assumption)) | (with_reducible refine Fr.drew ?_) | (with_reducible refine Fr.drewN ?_ _) | (with_reducible refine Fr.alloc ?_ _) | (with_reducible refine Fr.set ?_ _ _ (by first | (intros; omega) | (simp; done) | (simp; omega))) | (with_reducible refine Fr.via ?_ (by assumption)) | (with_reducible refine Fr.comp ?_ (by assumption)))))) [.string ⟨x.toArray⟩] (by rw [World.size_alloc]; rfl) rfl (by simp [Value.oneCell']) (by unfold maxLen; omega) (by omega) (Nat.le_trans hT4 (Fr.size (S := Nil) (by (repeat (first | (with_reducible exact Fr.refl _ _) | (with_reducible assumption) | (with_reducible exact Fr.of_nil (by assumption)) | (with_reducible refine Fr.drew ?_) | (with_reducible refine Fr.drewN ?_ _) | (with_reducible refine Fr.alloc ?_ _) | (with_reducible refine Fr.set ?_ _ _ (by first | (intros; omega) | (simp; done) | (simp; omega))) | (with_reducible refine Fr.via ?_ (by assumption)) | (with_reducible refine Fr.comp ?_ (by assumption))))))) ?_; intro v' w3 hown3 f3 hk3; obtain ⟨xa, xc, rfl⟩ := owns_shape hown3; have k9 : Fr (fun k => v.ownBlock = some k) wr w3 := Fr.trans (w1 := _) (Fr.of_nil (by (repeat (first | (with_reducible exact Fr.refl _ _) | (with_reducible assumption) | (with_reducible exact Fr.of_nil (by assumption)) | (with_reducible refine Fr.drew ?_) | (with_reducible refine Fr.drewN ?_ _) | (with_reducible refine Fr.alloc ?_ _) | (with_reducible refine Fr.set ?_ _ _ (by first | (intros; omega) | (simp; done) | (simp; omega))) | (with_reducible refine Fr.via ?_ (by assumption)) | (with_reducible refine Fr.comp ?_ (by assumption)))))) f3 (fun _ _ q => q); have s9 := k9.blk HS.out.1 (fun q => by have := (hown _ q).1; omega); have s91 := s9.cell 0; simp at s91; have s9l := s9.lt; have s9f := s9.free; have HO3 := Lib.hid (And.intro hown3 (And.intro k9 (And.intro s9 hk3))); clear hown3 f3 hk3 k9 s9)
        | fail)
      go_roundg (n4 - (kk + 1))
      case rel => exact ⟨kk + 1, _, rfl, by omega, by simp, Lib.hid ⟨HO3.out.2.2.1.put rfl, by rw [List.take_succ_eq_append_getElem hkC, HX.out, strC_snoc]; exact owns_frS HO3.out.1 (Fr.set (S := fun b => b = T + 4) (Fr.refl _ _) ⟨T + 4, 0, none⟩ _ (fun _ => rfl)) (fun q e z => by
          have z' : q = T + 4 := z
          rcases HO3.out.2.2.2 q e with y | y
          · have := (hown q y).1; omega
          · have y' : wr.heap.size + 1 ≤ q := by simpa using y
            omega),
        (HS.out.2.2.trans HO3.out.2.1 (fun q hq z => by have := (hown q z).1; have := H2.out.2.2.2.2; omega)).set _ _ (fun _ => rfl)⟩⟩
      case measure => omega
    · have j1 : ¬ (kk : Int) < (n4 : Int) := by omega
      obtain rfl : n4 = kk := by omega
      have hown := HS.out.2.1
      rw [List.take_of_length_le (by rw [H2.out.2.2.2.1]; exact Nat.le_refl _)] at hown
      obtain ⟨W3, hW3⟩ : ∃ W, W = wr := ⟨_, rfl⟩
      subst hW3
      have fw3 : Fr Nil w W3 := (H1.out.1.comp H2.out.2.1).trans HS.out.2.2 (fun b hb q => by have q' : b = T + 4 := q; have := H1.out.2.2.2.2.2.2.2.2; omega)
      have b0 : Blk W3 T #[.slice c1 nc c2, .slice b1 nb b2] 26 := HS.out.2.2.blk (H2.out.2.1.blk H1.out.2.1 (fun q => q)) (fun q => by have q' : T = T + 4 := q; omega)
      have bb2 : Blk W3 (T + 2) #[.map (some (T + 1))] 64 := HS.out.2.2.blk (H2.out.2.1.blk H1.out.2.2.1 (fun q => q)) (fun q => by have q' : T + 2 = T + 4 := q; omega)
      have bb3 : Blk W3 (T + 3) #[.pointer (some ⟨T + 2, 0, none⟩)] 60 := HS.out.2.2.blk (H2.out.2.1.blk H1.out.2.2.2.1 (fun q => q)) (fun q => by have q' : T + 3 = T + 4 := q; omega)
      have bb5 : Blk W3 (T + 5) #[.slice none 0 0] 33 := HS.out.2.2.blk (H2.out.2.1.blk H1.out.2.2.2.2.2.1 (fun q => q)) (fun q => by have q' : T + 5 = T + 4 := q; omega)
      have hmp : SMap W3 (T + 1) 0 (cnt []) := (H1.out.2.2.2.2.2.2.1.frN H2.out.2.1).fr HS.out.2.2 (fun q => by have q' : T + 1 = T + 4 := q; omega)
      have hrc : RowS (fun b => b < T2) W3 v (consN m) := RowS.of_own (by rw [H2.out.2.2.2.1]; exact hown) (fun q hq => hq)
      obtain ⟨xa, xc, rfl⟩ := owns_shape hown
      obtain ⟨T3, hT3⟩ : ∃ T3, W3.heap.size = T3 := ⟨_, rfl⟩
      have H3 := Lib.hid (And.intro fw3 (And.intro b0 (And.intro bb2 (And.intro bb3 (And.intro HS.out.1 (And.intro bb5 (And.intro hmp (And.intro hrc hT3))))))))
      have u1 := b0.cell 1
      simp at u1
      have ul := b0.lt
      have hT23 : T2 ≤ T3 := by omega
      have hmB := HM.out.1.2.2.1
      have hmN := HM.out.1.2.2.2
      obtain ⟨bc, hB1, hB2⟩ := hmB
      rw [hmN] at hB1
      have HB := Lib.hid (And.intro hB1 (And.intro hB2 hmN))
      clear fw3 b0 bb2 bb3 bb5 hmp hrc hown hT4 HS hT3 hmN hB1 hB2
      go_wp2_with fail
      go_loopg [33] nb (fun g iv wr => ∃ (k : Nat) (v : Value), g = nb - k ∧ k ≤ nb ∧ iv = .int .i64 (k : Int) ∧ Hid (Blk wr (T + 5) #[v] 33 ∧ wr.ownsRow T3 9 1 v k (strC (nmB (m.binds.take k))) ∧ Fr (fun b => b = T + 5) W3 wr))
      case atStart => exact ⟨0, _, rfl, by omega, rfl, Lib.hid ⟨H3.out.2.2.2.2.2.1, by simpa [nmB, strC] using World.ownsRow_nil _ _ _ _, Fr.refl _ _⟩⟩
      case round =>
        clear hk hlt j1 j0
        obtain ⟨kk, v, rfl, hk, rfl, HS⟩ := hrel
        have j0 : (0 : Int) ≤ (kk : Int) := by omega
        have hT4 : T3 ≤ wr.heap.size := by have := HS.out.2.2.size; have := H3.out.2.2.2.2.2.2.2.2; omega
        by_cases hlt : kk < nb
        · have hkL : kk < m.binds.length := by rw [HB.out.2.2]; exact hlt
          have wkk : IntKind.i64.wrap ((kk : Int) + 1) = (kk : Int) + 1 := by rw [IntKind.wrap_i64]; omega
          have j1 : (kk : Int) < (nb : Int) := by omega
          have fww : Fr Nil w wr := H3.out.1.trans HS.out.2.2 (fun b hb q => by have q' : b = T + 5 := q; have := H1.out.2.2.2.2.2.2.2.2; omega)
          obtain ⟨b, off, rfl, _, hc⟩ := (HB.out.1.frN fww).at hlt
          have hBA := HB.out.2.1 kk hkL
          obtain ⟨bn, pa, pn, pc, k', nm', fl', bi', e0, m0, d0, e1, m1, d1, e2, m2, d2, e3, m3, d3, ec⟩ := hBA.formB
          rw [ec] at hc hBA
          obtain ⟨_, _, hbn⟩ := hBA.parts
          obtain ⟨x, hx⟩ : ∃ x, m.binds[kk].name = x := ⟨_, rfl⟩
          rw [hx] at hbn
          subst hbn
          have HXX := Lib.hid (And.intro hx fww)
          have p0 := hc 0 _ rfl
          have p1 := hc 1 _ rfl
          have p2 := hc 2 _ rfl
          have p3 := hc 3 _ rfl
          have p4 := hc 4 _ rfl
          have p5 := hc 5 _ rfl
          have p6 := hc 6 _ rfl
          have p7 := hc 7 _ rfl
          have p8 := hc 8 _ rfl
          have p9 := hc 9 _ rfl
          simp only [Nat.add_zero] at p0
          have hbl : b < wr.heap.size := World.block_lt_of_cell? _ _ p0
          have u3 := HS.out.1.cell 0
          simp at u3
          have u3l := HS.out.1.lt
          have u3f := HS.out.1.free
          have hown := HS.out.2.1.lt
          clear hc ec hx hBA fww u1 ul
          go_wp2_with (first
            | (at_builtin; refine wpList_push rfl (.tmp 37) (.tmp 40) 33 rfl T3 9 i0 (.string ⟨#[]⟩) 1 16 Tryd.underlying33 hi hz0 hz1 hz2 rfl (by decide) v kk (strC (nmB (m.binds.take kk))) rfl (owns_fr HS.out.2.1 (by (repeat (first | (with_reducible exact Fr.refl _ _) | (with_reducible assumption) | (with_reducible exact Fr.of_nil (by assumption)) | (with_reducible refine Fr.drew ?_) | (with_reducible refine Fr.drewN ?_ _) | (with_reducible refine Fr.alloc ?_ _) | (with_reducible refine Fr.set ?_ _ _ (by first | (intros; omega) | (simp; done) | (simp; omega))) | (with_reducible refine Fr.via ?_ (by assumption)) | (with_reducible refine Fr.comp ?_ (by assumption)))))) [.string ⟨x.toArray⟩] (by rw [World.size_alloc]; rfl) rfl (by simp [Value.oneCell']) (by unfold maxLen; omega) (by omega) (Nat.le_trans hT4 (Fr.size (S := Nil) (by (repeat (first | (with_reducible exact Fr.refl _ _) | (with_reducible assumption) | (with_reducible exact Fr.of_nil (by assumption)) | (with_reducible refine Fr.drew ?_) | (with_reducible refine Fr.drewN ?_ _) | (with_reducible refine Fr.alloc ?_ _) | (with_reducible refine Fr.set ?_ _ _ (by first | (intros; omega) | (simp; done) | (simp; omega))) | (with_reducible refine Fr.via ?_ (by assumption)) | (with_reducible refine Fr.comp ?_ (by assumption))))))) ?_; intro v' w3 hown3 f3 hk3; obtain ⟨ya, yc, rfl⟩ := owns_shape hown3; have k9 : Fr (fun k => v.ownBlock = some k) wr w3 := Fr.trans (w1 := _) (Fr.of_nil (by (repeat (first | (with_reducible exact Fr.refl _ _) | (with_reducible assumption) | (with_reducible exact Fr.of_nil (by assumption)) | (with_reducible refine Fr.drew ?_) | (with_reducible refine Fr.drewN ?_ _) | (with_reducible refine Fr.alloc ?_ _) | (with_reducible refine Fr.set ?_ _ _ (by first | (intros; omega) | (simp; done) | (simp; omega))) | (with_reducible refine Fr.via ?_ (by assumption)) | (with_reducible refine Fr.comp ?_ (by assumption)))))) f3 (fun _ _ q => q); have s9 := k9.blk HS.out.1 (fun q => by have := (hown _ q).1; omega); have s91 := s9.cell 0; simp at s91; have s9l := s9.lt; have s9f := s9.free; have HO3 := Lib.hid (And.intro hown3 (And.intro k9 (And.intro s9 hk3))); clear hown3 f3 hk3 k9 s9)
            | fail)
          go_roundg (nb - (kk + 1))
          case rel => exact ⟨kk + 1, _, rfl, by omega, by simp, Lib.hid ⟨HO3.out.2.2.1.put rfl, by rw [nmB_take hkL, strC_snoc, HXX.out.1]; exact owns_frS HO3.out.1 (Fr.set (S := fun b => b = T + 5) (Fr.refl _ _) ⟨T + 5, 0, none⟩ _ (fun _ => rfl)) (fun q e z => by
              have z' : q = T + 5 := z
              rcases HO3.out.2.2.2 q e with y | y
              · have := (hown q y).1; omega
              · have y' : wr.heap.size + 1 ≤ q := by simpa using y
                omega),
            (HS.out.2.2.trans HO3.out.2.1 (fun q hq z => by have := (hown q z).1; have := H3.out.2.2.2.2.2.2.2.2; omega)).set _ _ (fun _ => rfl)⟩⟩
          case measure => omega
        · have j1 : ¬ (kk : Int) < (nb : Int) := by omega
          obtain rfl : nb = kk := by omega
          obtain ⟨W4, hW4⟩ : ∃ W, W = wr := ⟨_, rfl⟩
          subst hW4
          have hown := HS.out.2.1
          rw [List.take_of_length_le (by rw [HB.out.2.2]; exact Nat.le_refl _)] at hown
          have hlen : (nmB m.binds).length = nb := by simp [nmB, HB.out.2.2]
          have hrg : RowS (fun b => b < T3) W4 v (nmB m.binds) := RowS.of_own (by rw [hlen]; exact hown) (fun q hq => hq)
          have hrc : RowS (fun b => b < T2) W4 (.slice xa n4 xc) (consN m) := RowS.fr H3.out.2.2.2.2.2.2.2.1 HS.out.2.2 (fun b q => by have q' : b = T + 5 := q; show b < T2; omega)
          have fw4 : Fr Nil w W4 := H3.out.1.trans HS.out.2.2 (fun b hb q => by have q' : b = T + 5 := q; have := H1.out.2.2.2.2.2.2.2.2; omega)
          have b0 : Blk W4 T #[.slice c1 nc c2, .slice b1 nb b2] 26 := HS.out.2.2.blk H3.out.2.1 (fun q => by have q' : T = T + 5 := q; omega)
          have bb2 : Blk W4 (T + 2) #[.map (some (T + 1))] 64 := HS.out.2.2.blk H3.out.2.2.1 (fun q => by have q' : T + 2 = T + 5 := q; omega)
          have bb3 : Blk W4 (T + 3) #[.pointer (some ⟨T + 2, 0, none⟩)] 60 := HS.out.2.2.blk H3.out.2.2.2.1 (fun q => by have q' : T + 3 = T + 5 := q; omega)
          have bb4 : Blk W4 (T + 4) #[.slice xa n4 xc] 33 := HS.out.2.2.blk H3.out.2.2.2.2.1 (fun q => by have q' : T + 4 = T + 5 := q; omega)
          have hmp : SMap W4 (T + 1) 0 (cnt []) := H3.out.2.2.2.2.2.2.1.fr HS.out.2.2 (fun q => by have q' : T + 1 = T + 5 := q; omega)
          have hcl9 : ∀ x ∈ consN m, x.length ≤ maxLen := fun x hx => by
            unfold consN at hx
            rcases List.mem_append.1 hx with q | q
            · simp at q
              rcases q with rfl | rfl | rfl | rfl <;> decide
            · obtain ⟨d, hd, rfl⟩ := List.mem_map.1 q
              exact HM.out.2.1 d hd
          obtain ⟨ya, yc, rfl⟩ := owns_shape hown
          have LW : ∀ W, Fr Nil W4 W → Calls Tryd.prog 24 #[.map (some (T + 1)), .slice xa n4 xc] W fun r w' => ∃ mo, r = .returned (.map (some mo)) ∧ SMap w' mo (consN m).length (cnt (consN m)) ∧ Fr Nil W w' := fun W g => by
            have h := with_any (i := []) (l := consN m) (w := W) (mi := T + 1) (hmp.frN g) (RowS.frN (RowS.nocare hrc) g) hcl9 (by rw [H2.out.2.2.2.1]; simp; omega)
            rw [List.nil_append] at h
            exact h
          have t2 := bb2.cell 0
          have t3 := bb3.cell 0
          have t4 := bb4.cell 0
          simp at t2 t3 t4
          have l2 := bb2.lt
          have l3 := bb3.lt
          have l4 := bb4.lt
          have v2 := bb2.free
          have HLW := Lib.hid LW
          have H4 := Lib.hid (And.intro fw4 (And.intro b0 (And.intro bb2 (And.intro bb3 (And.intro HS.out.1 (And.intro hrg (And.intro hlen (And.intro bb4 hrc))))))))
          have HMC := Lib.hid hcl9
          clear LW fw4 b0 bb2 bb3 bb4 hmp hrg hrc hlen hown HS hcl9 u1 ul
          go_upto_region 13 with fail
          go_cut [] (fun wx => ∃ mo, Hid (SMap wx mo (consN m).length (cnt (consN m)) ∧ Blk wx (T + 2) #[.map (some mo)] 64 ∧ Fr (fun b => b = T + 2) W4 wx))
          case first =>
            go_region_law (first
              | (go_simp; go_at_call 24; refine (HLW.out _ (by first | assumption | (repeat (first | (with_reducible exact Fr.refl _ _) | (with_reducible assumption) | (with_reducible exact Fr.of_nil (by assumption)) | (with_reducible refine Fr.drew ?_) | (with_reducible refine Fr.drewN ?_ _) | (with_reducible refine Fr.alloc ?_ _) | (with_reducible refine Fr.set ?_ _ _ (by first | (intros; omega) | (simp; done) | (simp; omega))) | (with_reducible refine Fr.via ?_ (by assumption)) | (with_reducible refine Fr.comp ?_ (by assumption)))))).mono ?_; rintro r wa ⟨mo, rfl, hmo, fa⟩; have ga : Fr Nil W4 wa := Fr.comp (S := Nil) (by first | assumption | (repeat (first | (with_reducible exact Fr.refl _ _) | (with_reducible assumption) | (with_reducible exact Fr.of_nil (by assumption)) | (with_reducible refine Fr.drew ?_) | (with_reducible refine Fr.drewN ?_ _) | (with_reducible refine Fr.alloc ?_ _) | (with_reducible refine Fr.set ?_ _ _ (by first | (intros; omega) | (simp; done) | (simp; omega))) | (with_reducible refine Fr.via ?_ (by assumption)) | (with_reducible refine Fr.comp ?_ (by assumption))))) fa; have s2 := ga.blk H4.out.2.2.1 (fun q => q); have s20 := s2.cell 0; simp at s20; have s2l := s2.lt; have s2f := s2.free; have s3 := ga.blk H4.out.2.2.2.1 (fun q => q); have s30 := s3.cell 0; simp at s30; have HA := Lib.hid (And.intro hmo (And.intro ga s2)); clear hmo fa ga s2 s3))
            all_goals
              go_wp2_with fail
              go_meet
              case rel => exact ⟨mo, Lib.hid ⟨HA.out.1.fr (S := fun b => b = T + 2) (Fr.set (S := fun b => b = T + 2) (Fr.refl _ _) _ _ (fun _ => rfl)) (HA.out.1.ne HA.out.2.2), HA.out.2.2.put rfl, (Fr.of_nil HA.out.2.1).set _ _ (fun _ => rfl)⟩⟩
          case rest =>
            obtain ⟨mo, HC⟩ := hcut
            obtain ⟨W5, hW5⟩ : ∃ W, W = wc := ⟨_, rfl⟩
            subst hW5
            have fw5 : Fr Nil w W5 := H4.out.1.trans HC.out.2.2 (fun b hb q => by have q' : b = T + 2 := q; have := H1.out.2.2.2.2.2.2.2.2; omega)
            have b0 : Blk W5 T #[.slice c1 nc c2, .slice b1 nb b2] 26 := HC.out.2.2.blk H4.out.2.1 (fun q => by have q' : T = T + 2 := q; omega)
            have bb3 : Blk W5 (T + 3) #[.pointer (some ⟨T + 2, 0, none⟩)] 60 := HC.out.2.2.blk H4.out.2.2.2.1 (fun q => by have q' : T + 3 = T + 2 := q; omega)
            have bb4 : Blk W5 (T + 4) #[.slice xa n4 xc] 33 := HC.out.2.2.blk H4.out.2.2.2.2.2.2.2.1 (fun q => by have q' : T + 4 = T + 2 := q; omega)
            have bb5 : Blk W5 (T + 5) #[.slice ya nb yc] 33 := HC.out.2.2.blk H4.out.2.2.2.2.1 (fun q => by have q' : T + 5 = T + 2 := q; omega)
            have hrc : RowS (fun _ => False) W5 (.slice xa n4 xc) (consN m) := RowS.nocare (RowS.fr H4.out.2.2.2.2.2.2.2.2 HC.out.2.2 (fun b q => by have q' : b = T + 2 := q; show b < T2; omega))
            have hrg : RowS (fun _ => False) W5 (.slice ya nb yc) (nmB m.binds) := RowS.nocare (RowS.fr H4.out.2.2.2.2.2.1 HC.out.2.2 (fun b q => by have q' : b = T + 2 := q; show b < T3; omega))
            have hck : ChkAt W5 (T + 2) (consN m) := ⟨mo, HC.out.2.1, HC.out.1⟩
            obtain ⟨T5, hT5⟩ : ∃ T5, W5.heap.size = T5 := ⟨_, rfl⟩
            have hmd : SMap (W5.alloc (.map #[] 0)) T5 0 (cnt []) := by
              have h := SMap.made W5
              rw [hT5] at h
              exact h.congr (fun x _ => by simp [cnt])
            have hb9 := okB_nm HM.out.2.2.1
            have LG : Calls Tryd.prog 24 #[.map (some T5), .slice ya nb yc] (W5.alloc (.map #[] 0)) fun r w' => ∃ mg, r = .returned (.map (some mg)) ∧ SMap w' mg (nmB m.binds).length (cnt (nmB m.binds)) ∧ Fr Nil (W5.alloc (.map #[] 0)) w' := by
              have h := with_any (i := []) (l := nmB m.binds) hmd (RowS.frN hrg (by (repeat (first | (with_reducible exact Fr.refl _ _) | (with_reducible assumption) | (with_reducible exact Fr.of_nil (by assumption)) | (with_reducible refine Fr.drew ?_) | (with_reducible refine Fr.drewN ?_ _) | (with_reducible refine Fr.alloc ?_ _) | (with_reducible refine Fr.set ?_ _ _ (by first | (intros; omega) | (simp; done) | (simp; omega))) | (with_reducible refine Fr.via ?_ (by assumption)) | (with_reducible refine Fr.comp ?_ (by assumption)))))) hb9 (by rw [H4.out.2.2.2.2.2.2.1]; simp; omega)
              rw [List.nil_append] at h
              exact h
            have t5 := bb5.cell 0
            simp at t5
            have l5 := bb5.lt
            have l5' : T + 5 < T5 := by omega
            have HLG := Lib.hid LG
            have H5 := Lib.hid (And.intro fw5 (And.intro b0 (And.intro bb3 (And.intro bb4 (And.intro bb5 (And.intro hrc (And.intro hrg (And.intro hck hb9))))))))
            clear fw5 b0 bb3 bb4 bb5 hrc hrg hck hb9 LG hmd t2 t3 t4 l2 l3 l4 v2 HC HLW
            go_wp2_with fail
            try rw [hT5]
            refine HLG.out.mono ?_
            rintro e W6 ⟨mg, rfl, hmg, f6⟩
            have f56 : Fr Nil W5 W6 := Fr.comp (S := Nil) (by (repeat (first | (with_reducible exact Fr.refl _ _) | (with_reducible assumption) | (with_reducible exact Fr.of_nil (by assumption)) | (with_reducible refine Fr.drew ?_) | (with_reducible refine Fr.drewN ?_ _) | (with_reducible refine Fr.alloc ?_ _) | (with_reducible refine Fr.set ?_ _ _ (by first | (intros; omega) | (simp; done) | (simp; omega))) | (with_reducible refine Fr.via ?_ (by assumption)) | (with_reducible refine Fr.comp ?_ (by assumption))))) f6
            have H6 := Lib.hid (And.intro hmg f56)
            clear hmg f6 f56 t5 l5 hT5 HLG
            go_upto_region 15 with fail
            obtain ⟨T6, hT6⟩ : ∃ T6, W6.heap.size = T6 := ⟨_, rfl⟩
            try rw [hT6]
            obtain ⟨W7, hW7⟩ : ∃ W7, W6.alloc (.cells #[.map (some mg)] 62) = W7 := ⟨_, rfl⟩
            rw [hW7]
            have f67 : Fr Nil W6 W7 := by rw [← hW7]; (repeat (first | (with_reducible exact Fr.refl _ _) | (with_reducible assumption) | (with_reducible exact Fr.of_nil (by assumption)) | (with_reducible refine Fr.drew ?_) | (with_reducible refine Fr.drewN ?_ _) | (with_reducible refine Fr.alloc ?_ _) | (with_reducible refine Fr.set ?_ _ _ (by first | (intros; omega) | (simp; done) | (simp; omega))) | (with_reducible refine Fr.via ?_ (by assumption)) | (with_reducible refine Fr.comp ?_ (by assumption))))
            have f57 := H6.out.2.comp f67
            have fw7 := H5.out.1.comp f57
            have b6 : Blk W7 T6 #[.map (some mg)] 62 := by rw [← hW7, ← hT6]; exact Blk.new _ _ _
            have b0 := f57.blk H5.out.2.1 (fun q => q)
            have A1 : FnAt W7 (.func (.func 26) #[] #[.pointer (some ⟨T + 4, 0, none⟩)]) (twF (consN m) noF) :=
              ⟨_, _, rfl, enters_of Tryd.func26 (by kernel_rfl) rfl, fun w' f => c_Check1_any (f.blk (f57.blk H5.out.2.2.2.1 (fun q => q)) (fun q => q)) (H5.out.2.2.2.2.2.1.frN (f57.comp f)) HMC.out (by rw [H2.out.2.2.2.1]; omega)⟩
            have A2 : FnAt W7 (.func (.func 28) #[] #[.pointer (some ⟨T + 5, 0, none⟩)]) (twF (nmB m.binds) noF) :=
              ⟨_, _, rfl, enters_of Tryd.func28 (by kernel_rfl) rfl, fun w' f => c_Check2_any (f.blk (f57.blk H5.out.2.2.2.2.1 (fun q => q)) (fun q => q)) (H5.out.2.2.2.2.2.2.1.frN (f57.comp f)) H5.out.2.2.2.2.2.2.2.2 (by rw [H4.out.2.2.2.2.2.2.1]; omega)⟩
            have A3 : FnAt W7 (.func (.func 29) #[] #[.pointer (some ⟨T6, 0, none⟩)]) (if mainN ∈ nmB m.binds then noF else (10, mainN)) :=
              ⟨_, _, rfl, enters_of Tryd.func29 (by kernel_rfl) rfl, fun w' f => scheck3_any (f.blk b6 (fun q => q)) (H6.out.1.frN (f67.comp f))⟩
            have LB : Calls Tryd.prog 31 #[.slice b1 nb b2, .func (.func 32) #[] #[.pointer (some ⟨T + 3, 0, none⟩), .pointer (some ⟨T6, 0, none⟩)]] W7 fun r w' => ∃ v, r = .returned v ∧ FnAt w' v (firstF (m.binds.map (fun b => bodyF (consN m) b.params b.body (nmB m.binds)))) ∧ Fr Nil W7 w' :=
              allB_any (w := W7) (cs := bc) (ss := m.binds.map (fun b => bodyF (consN m) b.params b.body (nmB m.binds))) (enters_of Tryd.func32 (by kernel_rfl) rfl) HB.out.1.lenX (fun j hj => (HB.out.2.1 j (by rw [HB.out.2.2]; exact hj)).formB) (HB.out.1.frN fw7) (by rw [List.length_map, HB.out.2.2]) (fun j hj w' f => by
                have hj' : j < m.binds.length := by simpa using hj
                rw [List.getElem_map]
                have hmm' := List.getElem_mem hj'
                have hob := okB_mem HM.out.2.2.1 hmm'
                exact scheck4_any (sexpr_all _ _ (Nat.le_refl _) hob.2.2 (wsB_mem HM.out.2.2.2.1 hmm')) (H5.out.2.2.2.2.2.2.2.1.fr (f57.comp f)) (H6.out.1.frN (f67.comp f)) ((f57.comp f).blk H5.out.2.2.1 (fun q => q)) (f.blk b6 (fun q => q)) ((HB.out.2.1 j hj').frN (fw7.comp f)) hob.2.1 (by have := wnB_mem hmm'; have := HM.out.2.2.2.2.2.1; have := HB.out.2.2; rw [H4.out.2.2.2.2.2.2.1]; omega))
            have u1 := b0.cell 1
            simp at u1
            have ul := b0.lt
            have HLB := Lib.hid LB
            have H7 := Lib.hid (And.intro A1 (And.intro A2 (And.intro A3 fw7)))
            clear hW7 f67 f57 fw7 b6 b0 A1 A2 A3 LB hT6
            go_wp2_with fail
            refine HLB.out.mono ?_
            rintro e W8 ⟨_, rfl, ⟨gf1, p1, rfl, hE1, hA1⟩, f8⟩
            have hv1 := FnAt.mk hE1 hA1
            have H8 := Lib.hid (And.intro hv1 (And.intro (H7.out.1.fr f8) (And.intro (H7.out.2.1.fr f8) (And.intro (H7.out.2.2.1.fr f8) (H7.out.2.2.2.comp f8)))))
            clear hE1 hA1 hv1 f8 HLB u1 ul
            go_wp2_with fail
            refine (first_any (n := 4) (vs := [.func (.func 26) #[] #[.pointer (some ⟨T + 4, 0, none⟩)], .func (.func 28) #[] #[.pointer (some ⟨T + 5, 0, none⟩)], .func (.func 29) #[] #[.pointer (some ⟨T6, 0, none⟩)], .func (.func gf1) #[] p1]) (ss := [_, _, _, _]) (t := 70) (by (unfold Blk; simp (disch := first | omega | (simp; done) | (simp; omega)) only [hp_drew, hp_drewN, hp_alloc, hp_other, hp_same, hp_new, upd_cells, Option.map_some])) rfl rfl (fns4 (H8.out.2.1.fr (by (repeat (first | (with_reducible exact Fr.refl _ _) | (with_reducible assumption) | (with_reducible exact Fr.of_nil (by assumption)) | (with_reducible refine Fr.drew ?_) | (with_reducible refine Fr.drewN ?_ _) | (with_reducible refine Fr.alloc ?_ _) | (with_reducible refine Fr.set ?_ _ _ (by first | (intros; omega) | (simp; done) | (simp; omega))) | (with_reducible refine Fr.via ?_ (by assumption)) | (with_reducible refine Fr.comp ?_ (by assumption)))))) (H8.out.2.2.1.fr (by (repeat (first | (with_reducible exact Fr.refl _ _) | (with_reducible assumption) | (with_reducible exact Fr.of_nil (by assumption)) | (with_reducible refine Fr.drew ?_) | (with_reducible refine Fr.drewN ?_ _) | (with_reducible refine Fr.alloc ?_ _) | (with_reducible refine Fr.set ?_ _ _ (by first | (intros; omega) | (simp; done) | (simp; omega))) | (with_reducible refine Fr.via ?_ (by assumption)) | (with_reducible refine Fr.comp ?_ (by assumption)))))) (H8.out.2.2.2.1.fr (by (repeat (first | (with_reducible exact Fr.refl _ _) | (with_reducible assumption) | (with_reducible exact Fr.of_nil (by assumption)) | (with_reducible refine Fr.drew ?_) | (with_reducible refine Fr.drewN ?_ _) | (with_reducible refine Fr.alloc ?_ _) | (with_reducible refine Fr.set ?_ _ _ (by first | (intros; omega) | (simp; done) | (simp; omega))) | (with_reducible refine Fr.via ?_ (by assumption)) | (with_reducible refine Fr.comp ?_ (by assumption)))))) (H8.out.1.fr (by (repeat (first | (with_reducible exact Fr.refl _ _) | (with_reducible assumption) | (with_reducible exact Fr.of_nil (by assumption)) | (with_reducible refine Fr.drew ?_) | (with_reducible refine Fr.drewN ?_ _) | (with_reducible refine Fr.alloc ?_ _) | (with_reducible refine Fr.set ?_ _ _ (by first | (intros; omega) | (simp; done) | (simp; omega))) | (with_reducible refine Fr.via ?_ (by assumption)) | (with_reducible refine Fr.comp ?_ (by assumption))))))) (by decide)).mono ?_
            rintro e W9 ⟨v, rfl, he, f9⟩
            have g9 : Fr Nil W8 W9 := Fr.comp (S := Nil) (by (repeat (first | (with_reducible exact Fr.refl _ _) | (with_reducible assumption) | (with_reducible exact Fr.of_nil (by assumption)) | (with_reducible refine Fr.drew ?_) | (with_reducible refine Fr.drewN ?_ _) | (with_reducible refine Fr.alloc ?_ _) | (with_reducible refine Fr.set ?_ _ _ (by first | (intros; omega) | (simp; done) | (simp; omega))) | (with_reducible refine Fr.via ?_ (by assumption)) | (with_reducible refine Fr.comp ?_ (by assumption))))) f9
            rw [← scB_first, ← chk_first, HM.out.2.2.2.2.2.2.2.1] at he
            have hg9 := HM.out.2.2.2.2.2.2.1.fr (H8.out.2.2.2.2.comp g9)
            have H9 := Lib.hid (And.intro (H8.out.2.2.2.2.comp g9) hg9)
            clear f9 g9 hg9
            rcases he with ⟨hz, rfl⟩ | ⟨hz, bx, rfl, hbx⟩
            · have hR0 : (RE, RN) = noF := by
                have h := chk_nf m
                rw [HM.out.2.2.2.2.2.2.2.1] at h
                exact h hz
              injection hR0 with q1 q2
              subst q1 q2
              clear hz
              go_wp2_with fail
              refine (as_nil _ _).mono ?_
              rintro e w' ⟨rfl, rfl⟩
              go_wp2
              go_ret2
              exact ⟨rfl, H9.out.1.comp (by (repeat (first | (with_reducible exact Fr.refl _ _) | (with_reducible assumption) | (with_reducible exact Fr.of_nil (by assumption)) | (with_reducible refine Fr.drew ?_) | (with_reducible refine Fr.drewN ?_ _) | (with_reducible refine Fr.alloc ?_ _) | (with_reducible refine Fr.set ?_ _ _ (by first | (intros; omega) | (simp; done) | (simp; omega))) | (with_reducible refine Fr.via ?_ (by assumption)) | (with_reducible refine Fr.comp ?_ (by assumption)))))⟩
            · have HZ := Lib.hid hbx
              clear hz hbx
              go_wp2_with fail
              refine (as_hit ⟨bx, 0, none⟩ ⟨W9.heap.size, 0, none⟩ (.pointer none) (W9.alloc (.cells #[.pointer none] 75)) (H9.out.2.fr (by (repeat (first | (with_reducible exact Fr.refl _ _) | (with_reducible assumption) | (with_reducible exact Fr.of_nil (by assumption)) | (with_reducible refine Fr.drew ?_) | (with_reducible refine Fr.drewN ?_ _) | (with_reducible refine Fr.alloc ?_ _) | (with_reducible refine Fr.set ?_ _ _ (by first | (intros; omega) | (simp; done) | (simp; omega))) | (with_reducible refine Fr.via ?_ (by assumption)) | (with_reducible refine Fr.comp ?_ (by assumption)))))) (by have := World.block_lt_of_cell? _ _ H9.out.2; simpa using this) (by simp) (by simp)).mono ?_
              rintro e W10 ⟨rfl, hw⟩
              have F9 : Fr Nil W9 W10 := by rw [hw]; (repeat (first | (with_reducible exact Fr.refl _ _) | (with_reducible assumption) | (with_reducible exact Fr.of_nil (by assumption)) | (with_reducible refine Fr.drew ?_) | (with_reducible refine Fr.drewN ?_ _) | (with_reducible refine Fr.alloc ?_ _) | (with_reducible refine Fr.set ?_ _ _ (by first | (intros; omega) | (simp; done) | (simp; omega))) | (with_reducible refine Fr.via ?_ (by assumption)) | (with_reducible refine Fr.comp ?_ (by assumption))))
              have bf : Blk W10 W9.heap.size #[.pointer (some ⟨bx, 0, none⟩)] 75 := by
                rw [hw]
                (unfold Blk; simp (disch := first | omega | (simp; done) | (simp; omega)) only [hp_drew, hp_drewN, hp_alloc, hp_other, hp_same, hp_new, upd_cells, Option.map_some])
                simp
              have bx2 := F9.blk HZ.out (fun q => q)
              have y0 := bx2.cell 0
              have y1 := bx2.cell 1
              have y2 := bf.cell 0
              simp at y0 y1 y2
              have yl := bx2.lt
              have yf := bf.lt
              have HF9 := Lib.hid (H9.out.1.comp F9)
              clear hw F9 bf bx2 HZ
              go_wp2_with fail
              go_quiet (fail)
              go_wp2
              go_ret2
              exact ⟨rfl, Fr.comp (S := Nil) HF9.out (by (repeat (first | (with_reducible exact Fr.refl _ _) | (with_reducible assumption) | (with_reducible exact Fr.of_nil (by assumption)) | (with_reducible refine Fr.drew ?_) | (with_reducible refine Fr.drewN ?_ _) | (with_reducible refine Fr.alloc ?_ _) | (with_reducible refine Fr.set ?_ _ _ (by first | (intros; omega) | (simp; done) | (simp; omega))) | (with_reducible refine Fr.via ?_ (by assumption)) | (with_reducible refine Fr.comp ?_ (by assumption)))))⟩
end
end Go.Proofs.YtpjlibbdngnnnaaDoor

