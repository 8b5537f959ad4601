/-
  The document's scope (layer 10): binds, alternatives, expressions. No conditions.
-/
import Derived.Test.YthpenpgcacikaaaSc1
namespace Go.Proofs.Ythpenpgcacikaaa
set_option linter.unusedSimpArgs false
set_option linter.unusedVariables false
open Go.RowKit

/-- What expr does of an expression. -/
def ScOk (cons : List (List UInt8)) (e : TE) : Prop := ∀ (w : World) (sb : Nat) (s : FS) (i : List (List UInt8)) (iv : Value) (cs : List Value), SAt w sb cons s → EAt (fun b => b = sb) w cs e → RowS (fun b => b = sb) w iv i → i.length + wtE e ≤ 900000 →
  Calls Try.prog 41 #[.pointer (some ⟨sb, 0, none⟩), .agg cs.toArray, iv] w fun r w' => r = .returned (.tuple #[]) ∧ SAt w' sb cons (scE cons e i s) ∧ Fr (fun b => b = sb) w w'
section
variable {w : World} {sb : Nat} {cons i : List (List UInt8)} {s : FS} {iv bv : Value}
/-- A row joined to another one, as a value. -/
theorem join10_row {X X2 : Nat → Prop} {av bv : Value} {a b R : List (List UInt8)} {M : Nat} (ha : RowS X w av a) (hb : RowS X2 w bv b) (hl9 : a.length + b.length ≤ 1000000) (hsb : sb < w.heap.size) (hR : a ++ b = R) (hM : R.length = M) :
    Calls Try.prog 42 #[av, bv] w fun r w' => ∃ va vc, r = .returned (.slice va M vc) ∧ RowS (fun b => b = sb) w' (.slice va M vc) R ∧ Fr Nil w w' := by
  refine (join10_any ha hb hl9).mono ?_
  rintro r w' ⟨v, rfl, own, f⟩
  rw [hR] at own
  obtain ⟨va, vc, rfl⟩ := owns_shape own
  have h : RowS (fun b => b = sb) w' (.slice va R.length vc) R := RowC.mono (owns_row own) (by decide) (fun b _ q => by have q' : b = sb := q; omega)
  rw [hM] at h ⊢
  exact ⟨va, vc, rfl, h, f⟩
set_option maxRecDepth 100000 in
set_option maxHeartbeats 8000000 in
theorem sbinds_any {bs : List TB} {bc : Nat → List Value} (hOk : ∀ b ∈ bs, ScOk cons b.body) (h : SAt w sb cons s) (hb : RowC (fun b => b = sb) w bv bs.length 10 bc) (hbb : ∀ j (h : j < bs.length), BAt (fun b => b = sb) w (bc j) bs[j]) (hi : RowS (fun b => b = sb) w iv i) (hl9 : i.length + wnB bs ≤ 900000) :
    Calls Try.prog 30 #[.pointer (some ⟨sb, 0, none⟩), bv, iv] w fun r w' => r = .returned (.tuple #[]) ∧ SAt w' sb cons (scB cons bs i s) ∧ Fr (fun b => b = sb) w w' := by
  obtain ⟨ba, bcap, rfl⟩ := hb.shape
  obtain ⟨ia, ic, rfl⟩ := RowC.shape hi
  obtain ⟨n, hn⟩ : ∃ n, bs.length = n := ⟨_, rfl⟩
  obtain ⟨ni, hni⟩ : ∃ n, i.length = n := ⟨_, rfl⟩
  obtain ⟨R, hR⟩ : ∃ R, scB cons bs i s = R := ⟨_, rfl⟩
  have hn9 : n ≤ 9223372036854775807 := by
    obtain ⟨_, _, e, q1, q2, _⟩ := hb
    unfold maxLen at q2
    omega
  have hi' : RowS (fun b => b = sb) w (.slice ia ni ic) i := by rw [← hni]; exact hi
  rw [hn, hni, hR]
  have HV := Lib.hid (And.intro h (And.intro hb (And.intro hbb (And.intro hi' (And.intro hn (And.intro hni (And.intro hR hl9)))))))
  have HO := Lib.hid hOk
  clear h hb hbb hi hi' hn hni hR hl9 hOk
  go_enter Try.func30, Try.ntmps30
  go_wp2_with fail
  go_loopg [6] n (fun g kv wr => ∃ j : Nat, g = n - j ∧ j ≤ n ∧ kv = .int .i64 (j : Int) ∧ Hid (SAt wr sb cons (scB cons (bs.take j) i s) ∧ Fr (fun b => b = sb) w wr))
  case atStart => exact ⟨0, rfl, by omega, rfl, Lib.hid ⟨by simpa [scB] using HV.out.1, Fr.refl _ _⟩⟩
  case round =>
    obtain ⟨j, rfl, hjn, rfl, HS⟩ := hrel
    have j0 : (0 : Int) ≤ (j : Int) := by omega
    by_cases hlt : j < n
    · have hjL : j < bs.length := by rw [HV.out.2.2.2.2.1]; exact hlt
      have wk : IntKind.i64.wrap ((j : Int) + 1) = (j : Int) + 1 := by rw [IntKind.wrap_i64]; omega
      have j1 : (j : Int) < (n : Int) := by omega
      obtain ⟨b, off, rfl, hbs, hc⟩ := (HV.out.2.1.fr HS.out.2 (fun _ q => q)).at hjL
      have hBA := lawB.fr (HV.out.2.2.1 j hjL) HS.out.2 (fun _ q => q)
      obtain ⟨bn, pa, pn, pc, k', nm', fl', bi', b0, m0, d0, b1, m1, d1, b2, m2, d2, b3, m3, d3, ec⟩ := hBA.formB
      rw [ec] at hc hBA
      obtain ⟨hpr, hbo, hbn⟩ := hBA.parts
      obtain ⟨x, hx⟩ : ∃ x, bs[j].name = x := ⟨_, rfl⟩
      rw [hx] at hbn
      subst hbn
      have HK : Hid (∀ w', Fr (fun b => b = sb) wr w' → w'.cell? ⟨b, off + j * 10, none⟩ = some (.string ⟨x.toArray⟩) ∧ w'.cell? ⟨b, off + j * 10 + 1, none⟩ = some (.slice pa pn pc) ∧ w'.cell? ⟨b, off + j * 10 + 2, none⟩ = some (.int .i64 (k' : Int)) ∧ w'.cell? ⟨b, off + j * 10 + 3, none⟩ = some (.string nm') ∧ w'.cell? ⟨b, off + j * 10 + 4, none⟩ = some (.bool fl') ∧ w'.cell? ⟨b, off + j * 10 + 5, none⟩ = some (.int .u64 (bi' : Int)) ∧ w'.cell? ⟨b, off + j * 10 + 6, none⟩ = some (.slice b0 m0 d0) ∧ w'.cell? ⟨b, off + j * 10 + 7, none⟩ = some (.slice b1 m1 d1) ∧ w'.cell? ⟨b, off + j * 10 + 8, none⟩ = some (.slice b2 m2 d2) ∧ w'.cell? ⟨b, off + j * 10 + 9, none⟩ = some (.slice b3 m3 d3)) := Lib.hid (fun w' f => ⟨f.cell (hc 0 _ rfl) hbs, f.cell (hc 1 _ rfl) hbs, f.cell (hc 2 _ rfl) hbs, f.cell (hc 3 _ rfl) hbs, f.cell (hc 4 _ rfl) hbs, f.cell (hc 5 _ rfl) hbs, f.cell (hc 6 _ rfl) hbs, f.cell (hc 7 _ rfl) hbs, f.cell (hc 8 _ rfl) hbs, f.cell (hc 9 _ rfl) hbs⟩)
      obtain ⟨p0, p1, _⟩ := HK.out wr (Fr.refl _ _)
      have hb1 := wnB_take hjL
      have hb2 := wnB_take_le bs (j + 1)
      have hstep := scB_take cons hjL i s
      obtain ⟨G, hG⟩ : ∃ G, i ++ bs[j].params = G := ⟨_, rfl⟩
      obtain ⟨nG, hnG⟩ : ∃ n, G.length = n := ⟨_, rfl⟩
      have hGl : G.length = i.length + bs[j].params.length := by rw [← hG, List.length_append]
      rw [hG] at hstep
      have HQ := Lib.hid (And.intro hpr (And.intro hbo (And.intro hstep (show bs[j].params.length + wtE bs[j].body ≤ wnB bs by omega))))
      have HG := Lib.hid (And.intro hG (And.intro hnG hGl))
      clear hpr hbo hstep hb1 hb2 hc hBA ec hx hG hnG hGl
      go_wp2_with fail
      refine (twice_any HS.out.1 HQ.out.1 (by have := HQ.out.2.2.2; have := HV.out.2.2.2.2.2.2.2; omega)).mono ?_
      rintro e w1 ⟨rfl, h1, f1⟩
      have H1 := Lib.hid (And.intro h1 (And.intro f1 (HS.out.2.comp f1)))
      have hsz1 := f1.size
      have hsb1 := h1.lt
      clear h1 f1 p0 p1
      go_upto_region 4 with fail
      go_region_held3 (fun w' => w'.cell? ⟨b, off + j * 10, none⟩ = some (.string ⟨x.toArray⟩) ∧ w'.cell? ⟨b, off + j * 10 + 1, none⟩ = some (.slice pa pn pc) ∧ w'.cell? ⟨b, off + j * 10 + 2, none⟩ = some (.int .i64 (k' : Int)) ∧ w'.cell? ⟨b, off + j * 10 + 3, none⟩ = some (.string nm') ∧ w'.cell? ⟨b, off + j * 10 + 4, none⟩ = some (.bool fl') ∧ w'.cell? ⟨b, off + j * 10 + 5, none⟩ = some (.int .u64 (bi' : Int)) ∧ w'.cell? ⟨b, off + j * 10 + 6, none⟩ = some (.slice b0 m0 d0) ∧ w'.cell? ⟨b, off + j * 10 + 7, none⟩ = some (.slice b1 m1 d1) ∧ w'.cell? ⟨b, off + j * 10 + 8, none⟩ = some (.slice b2 m2 d2) ∧ w'.cell? ⟨b, off + j * 10 + 9, none⟩ = some (.slice b3 m3 d3)) (first | (with_reducible exact qb) | (with_reducible exact qa) | (with_reducible refine HK.out _ ?_; refine Fr.comp H1.out.2.1 ?_; (repeat (first | (with_reducible exact Fr.refl _ _) | (with_reducible assumption) | (with_reducible exact Fr.of_nil (by assumption)) | (with_reducible refine Fr.drew ?_) | (with_reducible refine Fr.drewN ?_ _) | (with_reducible refine Fr.alloc ?_ _) | (with_reducible refine Fr.set ?_ _ _ (by first | (intro _; exact rfl) | (intro _; exact .inl rfl) | (intro _; exact .inr rfl) | (intro q; exact absurd q (Nat.lt_irrefl _)) | (intro q; simp at q; omega))) | (with_reducible refine Fr.via ?_ (by assumption)) | (with_reducible refine Fr.comp ?_ (by assumption)))))) (first
        | (go_at_call 42; refine (join10_row (sb := sb) (RowS.fr HV.out.2.2.2.1 (S := fun b => b = sb) (H1.out.2.2.comp (by (repeat (first | (with_reducible exact Fr.refl _ _) | (with_reducible assumption) | (with_reducible exact Fr.of_nil (by assumption)) | (with_reducible refine Fr.drew ?_) | (with_reducible refine Fr.drewN ?_ _) | (with_reducible refine Fr.alloc ?_ _) | (with_reducible refine Fr.set ?_ _ _ (by first | (intro _; exact rfl) | (intro _; exact .inl rfl) | (intro _; exact .inr rfl) | (intro q; exact absurd q (Nat.lt_irrefl _)) | (intro q; simp at q; omega))) | (with_reducible refine Fr.via ?_ (by assumption)) | (with_reducible refine Fr.comp ?_ (by assumption)))))) (fun _ q => q)) (RowS.fr HQ.out.1 (S := fun b => b = sb) (H1.out.2.1.comp (by (repeat (first | (with_reducible exact Fr.refl _ _) | (with_reducible assumption) | (with_reducible exact Fr.of_nil (by assumption)) | (with_reducible refine Fr.drew ?_) | (with_reducible refine Fr.drewN ?_ _) | (with_reducible refine Fr.alloc ?_ _) | (with_reducible refine Fr.set ?_ _ _ (by first | (intro _; exact rfl) | (intro _; exact .inl rfl) | (intro _; exact .inr rfl) | (intro q; exact absurd q (Nat.lt_irrefl _)) | (intro q; simp at q; omega))) | (with_reducible refine Fr.via ?_ (by assumption)) | (with_reducible refine Fr.comp ?_ (by assumption)))))) (fun _ q => q)) (by have := HQ.out.2.2.2; have := HV.out.2.2.2.2.2.2.2; omega) (by simpa using hsb1) HG.out.1 HG.out.2.1).mono ?_; rintro e wa ⟨xa, xc, rfl, ra, fa⟩; have fa' : Fr Nil w1 wa := Fr.comp (S := Nil) (by (repeat (first | (with_reducible exact Fr.refl _ _) | (with_reducible assumption) | (with_reducible exact Fr.of_nil (by assumption)) | (with_reducible refine Fr.drew ?_) | (with_reducible refine Fr.drewN ?_ _) | (with_reducible refine Fr.alloc ?_ _) | (with_reducible refine Fr.set ?_ _ _ (by first | (intros; omega) | (simp; done) | (simp; omega))) | (with_reducible refine Fr.via ?_ (by assumption)) | (with_reducible refine Fr.comp ?_ (by assumption))))) fa; have qa := HK.out wa (H1.out.2.1.comp fa'.of_nil); have HA := Lib.hid (And.intro ra fa'); clear ra fa fa')
        | (go_at_call 41; refine (HO.out _ (List.getElem_mem hjL) _ sb _ _ _ _ (H1.out.1.fr HA.out.2) (HQ.out.2.1.fr (S := fun b => b = sb) (H1.out.2.1.comp HA.out.2.of_nil) (fun _ q => q)) HA.out.1 (by have := HG.out.2.2; have := HQ.out.2.2.2; have := HV.out.2.2.2.2.2.2.2; omega)).mono ?_; rintro e wb ⟨rfl, hb2, fb⟩; have fb' := HA.out.2.of_nil.comp fb; have qb := HK.out wb (H1.out.2.1.comp fb'); have HB2 := Lib.hid (And.intro hb2 fb'); clear hb2 fb fb'))
      go_wp2
      go_roundg (n - (j + 1))
      case rel => exact ⟨j + 1, rfl, by omega, by simp, Lib.hid ⟨by rw [HQ.out.2.2.1]; exact HB2.out.1, H1.out.2.2.comp HB2.out.2⟩⟩
      case measure => omega
    · have j1 : ¬ (j : Int) < (n : Int) := by omega
      obtain rfl : n = j := by omega
      have HF : Hid (SAt wr sb cons R ∧ Fr (fun b => b = sb) w wr) := Lib.hid (by
        have h := HS.out
        rw [List.take_of_length_le (by rw [HV.out.2.2.2.2.1]; exact Nat.le_refl _), HV.out.2.2.2.2.2.2.1] at h
        exact h)
      go_wp2
      go_end0
      exact ⟨rfl, HF.out.1, HF.out.2⟩
set_option maxRecDepth 100000 in
set_option maxHeartbeats 16000000 in
theorem salts_any {al : List TA} {ac : Nat → List Value} (hOk : ∀ b ∈ al, ScOk cons b.body) (h : SAt w sb cons s) (hb : RowC (fun b => b = sb) w bv al.length 13 ac) (hbb : ∀ j (h : j < al.length), AAt (fun b => b = sb) w (ac j) al[j]) (hi : RowS (fun b => b = sb) w iv i) (hl9 : i.length + wtA al ≤ 900000) :
    Calls Try.prog 64 #[.pointer (some ⟨sb, 0, none⟩), bv, iv] w fun r w' => r = .returned (.tuple #[]) ∧ SAt w' sb cons (scA cons al i s) ∧ Fr (fun b => b = sb) w w' := by
  obtain ⟨ba, bcap, rfl⟩ := hb.shape
  obtain ⟨ia, ic, rfl⟩ := RowC.shape hi
  obtain ⟨n, hn⟩ : ∃ n, al.length = n := ⟨_, rfl⟩
  obtain ⟨ni, hni⟩ : ∃ n, i.length = n := ⟨_, rfl⟩
  obtain ⟨R, hR⟩ : ∃ R, scA cons al i s = R := ⟨_, rfl⟩
  have hn9 : n ≤ 9223372036854775807 := by
    obtain ⟨_, _, e, q1, q2, _⟩ := hb
    unfold maxLen at q2
    omega
  have hi' : RowS (fun b => b = sb) w (.slice ia ni ic) i := by rw [← hni]; exact hi
  rw [hn, hni, hR]
  have HV := Lib.hid (And.intro h (And.intro hb (And.intro hbb (And.intro hi' (And.intro hn (And.intro hni (And.intro hR hl9)))))))
  have HO := Lib.hid hOk
  clear h hb hbb hi hi' hn hni hR hl9 hOk
  go_enter Try.func64, Try.ntmps64
  go_wp2_with fail
  go_loopg [6] n (fun g kv wr => ∃ j : Nat, g = n - j ∧ j ≤ n ∧ kv = .int .i64 (j : Int) ∧ Hid (SAt wr sb cons (scA cons (al.take j) i s) ∧ Fr (fun b => b = sb) w wr))
  case atStart => exact ⟨0, rfl, by omega, rfl, Lib.hid ⟨by simpa [scA] using HV.out.1, Fr.refl _ _⟩⟩
  case round =>
    obtain ⟨j, rfl, hjn, rfl, HS⟩ := hrel
    have j0 : (0 : Int) ≤ (j : Int) := by omega
    by_cases hlt : j < n
    · have hjL : j < al.length := by rw [HV.out.2.2.2.2.1]; exact hlt
      have wk : IntKind.i64.wrap ((j : Int) + 1) = (j : Int) + 1 := by rw [IntKind.wrap_i64]; omega
      have j1 : (j : Int) < (n : Int) := by omega
      obtain ⟨b, off, rfl, hbs, hc⟩ := (HV.out.2.1.fr HS.out.2 (fun _ q => q)).at hjL
      have hAA := lawA.fr (HV.out.2.2.1 j hjL) HS.out.2 (fun _ q => q)
      obtain ⟨tk, tn, tf, tb, pa, pn, pc, k', nm', fl', bi', b0, m0, d0, b1, m1, d1, b2, m2, d2, b3, m3, d3, ec⟩ := hAA.formA
      rw [ec] at hc hAA
      obtain ⟨hnr, hbo, hbn, htk⟩ := hAA.parts
      obtain ⟨x, hx⟩ : ∃ x, al[j].name = x := ⟨_, rfl⟩
      rw [hx] at hbn
      subst hbn
      have HK : Hid (∀ w', Fr (fun b => b = sb) wr w' → w'.cell? ⟨b, off + j * 13, none⟩ = some (.int .i64 (tk : Int)) ∧ w'.cell? ⟨b, off + j * 13 + 1, none⟩ = some (.string ⟨x.toArray⟩) ∧ w'.cell? ⟨b, off + j * 13 + 2, none⟩ = some (.bool tf) ∧ w'.cell? ⟨b, off + j * 13 + 3, none⟩ = some (.int .u64 (tb : Int)) ∧ w'.cell? ⟨b, off + j * 13 + 4, none⟩ = some (.slice pa pn pc) ∧ w'.cell? ⟨b, off + j * 13 + 5, none⟩ = some (.int .i64 (k' : Int)) ∧ w'.cell? ⟨b, off + j * 13 + 6, none⟩ = some (.string nm') ∧ w'.cell? ⟨b, off + j * 13 + 7, none⟩ = some (.bool fl') ∧ w'.cell? ⟨b, off + j * 13 + 8, none⟩ = some (.int .u64 (bi' : Int)) ∧ w'.cell? ⟨b, off + j * 13 + 9, none⟩ = some (.slice b0 m0 d0) ∧ w'.cell? ⟨b, off + j * 13 + 10, none⟩ = some (.slice b1 m1 d1) ∧ w'.cell? ⟨b, off + j * 13 + 11, none⟩ = some (.slice b2 m2 d2) ∧ w'.cell? ⟨b, off + j * 13 + 12, none⟩ = some (.slice b3 m3 d3)) := Lib.hid (fun w' f => ⟨f.cell (hc 0 _ rfl) hbs, f.cell (hc 1 _ rfl) hbs, f.cell (hc 2 _ rfl) hbs, f.cell (hc 3 _ rfl) hbs, f.cell (hc 4 _ rfl) hbs, f.cell (hc 5 _ rfl) hbs, f.cell (hc 6 _ rfl) hbs, f.cell (hc 7 _ rfl) hbs, f.cell (hc 8 _ rfl) hbs, f.cell (hc 9 _ rfl) hbs, f.cell (hc 10 _ rfl) hbs, f.cell (hc 11 _ rfl) hbs, f.cell (hc 12 _ rfl) hbs⟩)
      obtain ⟨p0, p1, p2, p3, p4, p5, p6, p7, p8, p9, p10, p11, p12⟩ := HK.out wr (Fr.refl _ _)
      have hb1 := wtA_take hjL
      have hb2 := wtA_take_le al (j + 1)
      have hstep := scA_take cons hjL i s
      unfold scA1 at hstep
      rw [← htk, hx] at hstep
      have hbd : 1 + al[j].names.length + wtE al[j].body ≤ wtA al := by omega
      have hlb : b < wr.heap.size := World.block_lt_of_cell? _ _ p0
      by_cases hk0 : tk = 0
      · rw [if_pos hk0] at hstep
        have ek0 : ((tk : Int) == 0) = true := by simp [hk0]
        obtain ⟨G, hG⟩ : ∃ G, i ++ al[j].names = G := ⟨_, rfl⟩
        obtain ⟨nG, hnG⟩ : ∃ n, G.length = n := ⟨_, rfl⟩
        have hGl : G.length = i.length + al[j].names.length := by rw [← hG, List.length_append]
        rw [hG] at hstep
        have HQ := Lib.hid (And.intro hnr (And.intro hbo (And.intro hstep hbd)))
        have HG := Lib.hid (And.intro hG (And.intro hnG hGl))
        clear hnr hbo hstep hb1 hb2 hc hAA ec hx hbd htk hk0 hG hnG hGl
        go_wp2_with fail
        refine (con_any HS.out.1 x).mono ?_
        rintro e w0 ⟨rfl, h0, f0⟩
        have H0 := Lib.hid (And.intro h0 f0)
        clear h0 f0 p0 p1 p2 p3 p4 p5 p6 p7 p8 p9 p10 p11 p12
        obtain ⟨p0, p1, p2, p3, p4, p5, p6, p7, p8, p9, p10, p11, p12⟩ := HK.out w0 H0.out.2
        go_wp2_with fail
        refine (twice_any H0.out.1 (RowS.fr HQ.out.1 H0.out.2 (fun _ q => q)) (by have := HQ.out.2.2.2; have := HV.out.2.2.2.2.2.2.2; omega)).mono ?_
        rintro e w1 ⟨rfl, h1, f1⟩
        have H1 := Lib.hid (And.intro h1 (And.intro (H0.out.2.comp f1) (HS.out.2.comp (H0.out.2.comp f1))))
        have hsb1 := h1.lt
        clear h1 f1 p0 p1 p2 p3 p4 p5 p6 p7 p8 p9 p10 p11 p12
        go_upto_region 8 with fail
        go_region_held3 (fun w' => w'.cell? ⟨b, off + j * 13, none⟩ = some (.int .i64 (tk : Int)) ∧ w'.cell? ⟨b, off + j * 13 + 1, none⟩ = some (.string ⟨x.toArray⟩) ∧ w'.cell? ⟨b, off + j * 13 + 2, none⟩ = some (.bool tf) ∧ w'.cell? ⟨b, off + j * 13 + 3, none⟩ = some (.int .u64 (tb : Int)) ∧ w'.cell? ⟨b, off + j * 13 + 4, none⟩ = some (.slice pa pn pc) ∧ w'.cell? ⟨b, off + j * 13 + 5, none⟩ = some (.int .i64 (k' : Int)) ∧ w'.cell? ⟨b, off + j * 13 + 6, none⟩ = some (.string nm') ∧ w'.cell? ⟨b, off + j * 13 + 7, none⟩ = some (.bool fl') ∧ w'.cell? ⟨b, off + j * 13 + 8, none⟩ = some (.int .u64 (bi' : Int)) ∧ w'.cell? ⟨b, off + j * 13 + 9, none⟩ = some (.slice b0 m0 d0) ∧ w'.cell? ⟨b, off + j * 13 + 10, none⟩ = some (.slice b1 m1 d1) ∧ w'.cell? ⟨b, off + j * 13 + 11, none⟩ = some (.slice b2 m2 d2) ∧ w'.cell? ⟨b, off + j * 13 + 12, none⟩ = some (.slice b3 m3 d3)) (first | (with_reducible exact qb) | (with_reducible exact qa) | (with_reducible refine HK.out _ ?_; refine Fr.comp H1.out.2.1 ?_; (repeat (first | (with_reducible exact Fr.refl _ _) | (with_reducible assumption) | (with_reducible exact Fr.of_nil (by assumption)) | (with_reducible refine Fr.drew ?_) | (with_reducible refine Fr.drewN ?_ _) | (with_reducible refine Fr.alloc ?_ _) | (with_reducible refine Fr.set ?_ _ _ (by first | (intro _; exact rfl) | (intro _; exact .inl rfl) | (intro _; exact .inr rfl) | (intro q; exact absurd q (Nat.lt_irrefl _)) | (intro q; simp at q; omega))) | (with_reducible refine Fr.via ?_ (by assumption)) | (with_reducible refine Fr.comp ?_ (by assumption)))))) (first
          | (go_at_call 42; refine (join10_row (sb := sb) (RowS.fr HV.out.2.2.2.1 (S := fun b => b = sb) (H1.out.2.2.comp (by (repeat (first | (with_reducible exact Fr.refl _ _) | (with_reducible assumption) | (with_reducible exact Fr.of_nil (by assumption)) | (with_reducible refine Fr.drew ?_) | (with_reducible refine Fr.drewN ?_ _) | (with_reducible refine Fr.alloc ?_ _) | (with_reducible refine Fr.set ?_ _ _ (by first | (intro _; exact rfl) | (intro _; exact .inl rfl) | (intro _; exact .inr rfl) | (intro q; exact absurd q (Nat.lt_irrefl _)) | (intro q; simp at q; omega))) | (with_reducible refine Fr.via ?_ (by assumption)) | (with_reducible refine Fr.comp ?_ (by assumption)))))) (fun _ q => q)) (RowS.fr HQ.out.1 (S := fun b => b = sb) (H1.out.2.1.comp (by (repeat (first | (with_reducible exact Fr.refl _ _) | (with_reducible assumption) | (with_reducible exact Fr.of_nil (by assumption)) | (with_reducible refine Fr.drew ?_) | (with_reducible refine Fr.drewN ?_ _) | (with_reducible refine Fr.alloc ?_ _) | (with_reducible refine Fr.set ?_ _ _ (by first | (intro _; exact rfl) | (intro _; exact .inl rfl) | (intro _; exact .inr rfl) | (intro q; exact absurd q (Nat.lt_irrefl _)) | (intro q; simp at q; omega))) | (with_reducible refine Fr.via ?_ (by assumption)) | (with_reducible refine Fr.comp ?_ (by assumption)))))) (fun _ q => q)) (by have := HQ.out.2.2.2; have := HV.out.2.2.2.2.2.2.2; omega) (by simpa using hsb1) HG.out.1 HG.out.2.1).mono ?_; rintro e wa ⟨xa, xc, rfl, ra, fa⟩; have fa' : Fr Nil w1 wa := Fr.comp (S := Nil) (by (repeat (first | (with_reducible exact Fr.refl _ _) | (with_reducible assumption) | (with_reducible exact Fr.of_nil (by assumption)) | (with_reducible refine Fr.drew ?_) | (with_reducible refine Fr.drewN ?_ _) | (with_reducible refine Fr.alloc ?_ _) | (with_reducible refine Fr.set ?_ _ _ (by first | (intros; omega) | (simp; done) | (simp; omega))) | (with_reducible refine Fr.via ?_ (by assumption)) | (with_reducible refine Fr.comp ?_ (by assumption))))) fa; have qa := HK.out wa (H1.out.2.1.comp fa'.of_nil); have HA := Lib.hid (And.intro ra fa'); clear ra fa fa')
          | (go_at_call 41; refine (HO.out _ (List.getElem_mem hjL) _ sb _ _ _ _ (H1.out.1.fr HA.out.2) (HQ.out.2.1.fr (S := fun b => b = sb) (H1.out.2.1.comp HA.out.2.of_nil) (fun _ q => q)) HA.out.1 (by have := HG.out.2.2; have := HQ.out.2.2.2; have := HV.out.2.2.2.2.2.2.2; omega)).mono ?_; rintro e wb ⟨rfl, hb2, fb⟩; have fb' := HA.out.2.of_nil.comp fb; have qb := HK.out wb (H1.out.2.1.comp fb'); have HB2 := Lib.hid (And.intro hb2 fb'); clear hb2 fb fb'))
        go_wp2
        go_roundg (n - (j + 1))
        case rel => exact ⟨j + 1, rfl, by omega, by simp, Lib.hid ⟨by rw [HQ.out.2.2.1]; exact HB2.out.1, H1.out.2.2.comp HB2.out.2⟩⟩
        case measure => omega
      · rw [if_neg hk0] at hstep
        have ek0 : ((tk : Int) == 0) = false := beq_false_of_ne (by omega)
        by_cases hk2 : tk = 2
        · rw [if_pos hk2] at hstep
          have ek2 : ((tk : Int) == 2) = true := by simp [hk2]
          have hsb1 := HS.out.1.lt
          obtain ⟨G, hG⟩ : ∃ G, i ++ [x] = G := ⟨_, rfl⟩
          obtain ⟨nG, hnG⟩ : ∃ n, G.length = n := ⟨_, rfl⟩
          have hGl : G.length = i.length + 1 := by rw [← hG, List.length_append]; rfl
          rw [hG] at hstep
          have HQ := Lib.hid (And.intro hbo (And.intro hstep hbd))
          have HG := Lib.hid (And.intro hG (And.intro hnG hGl))
          clear hnr hbo hstep hb1 hb2 hc hAA ec hx hbd htk hk0 hk2 hG hnG hGl
          go_upto_region 10 with fail
          go_region_held3 (fun w' => w'.cell? ⟨b, off + j * 13, none⟩ = some (.int .i64 (tk : Int)) ∧ w'.cell? ⟨b, off + j * 13 + 1, none⟩ = some (.string ⟨x.toArray⟩) ∧ w'.cell? ⟨b, off + j * 13 + 2, none⟩ = some (.bool tf) ∧ w'.cell? ⟨b, off + j * 13 + 3, none⟩ = some (.int .u64 (tb : Int)) ∧ w'.cell? ⟨b, off + j * 13 + 4, none⟩ = some (.slice pa pn pc) ∧ w'.cell? ⟨b, off + j * 13 + 5, none⟩ = some (.int .i64 (k' : Int)) ∧ w'.cell? ⟨b, off + j * 13 + 6, none⟩ = some (.string nm') ∧ w'.cell? ⟨b, off + j * 13 + 7, none⟩ = some (.bool fl') ∧ w'.cell? ⟨b, off + j * 13 + 8, none⟩ = some (.int .u64 (bi' : Int)) ∧ w'.cell? ⟨b, off + j * 13 + 9, none⟩ = some (.slice b0 m0 d0) ∧ w'.cell? ⟨b, off + j * 13 + 10, none⟩ = some (.slice b1 m1 d1) ∧ w'.cell? ⟨b, off + j * 13 + 11, none⟩ = some (.slice b2 m2 d2) ∧ w'.cell? ⟨b, off + j * 13 + 12, none⟩ = some (.slice b3 m3 d3)) (first | (with_reducible exact qb) | (with_reducible exact qa) | (with_reducible refine HK.out _ ?_; (repeat (first | (with_reducible exact Fr.refl _ _) | (with_reducible assumption) | (with_reducible exact Fr.of_nil (by assumption)) | (with_reducible refine Fr.drew ?_) | (with_reducible refine Fr.drewN ?_ _) | (with_reducible refine Fr.alloc ?_ _) | (with_reducible refine Fr.set ?_ _ _ (by first | (intro _; exact rfl) | (intro _; exact .inl rfl) | (intro _; exact .inr rfl) | (intro q; exact absurd q (Nat.lt_irrefl _)) | (intro q; simp at q; omega))) | (with_reducible refine Fr.via ?_ (by assumption)) | (with_reducible refine Fr.comp ?_ (by assumption)))))) (first
            | (go_at_call 42; refine (join10_row (sb := sb) (RowS.fr HV.out.2.2.2.1 (S := fun b => b = sb) (HS.out.2.comp (by (repeat (first | (with_reducible exact Fr.refl _ _) | (with_reducible assumption) | (with_reducible exact Fr.of_nil (by assumption)) | (with_reducible refine Fr.drew ?_) | (with_reducible refine Fr.drewN ?_ _) | (with_reducible refine Fr.alloc ?_ _) | (with_reducible refine Fr.set ?_ _ _ (by first | (intro _; exact rfl) | (intro _; exact .inl rfl) | (intro _; exact .inr rfl) | (intro q; exact absurd q (Nat.lt_irrefl _)) | (intro q; simp at q; omega))) | (with_reducible refine Fr.via ?_ (by assumption)) | (with_reducible refine Fr.comp ?_ (by assumption)))))) (fun _ q => q)) (RowS.single (x := x) (X := fun b => False) (Blk.new wr.drew #[.string ⟨x.toArray⟩] 9) (fun q => q)) (by have := HQ.out.2.2; have := HV.out.2.2.2.2.2.2.2; simp only [List.length_singleton]; omega) (by simp; omega) HG.out.1 HG.out.2.1).mono ?_; rintro e wa ⟨xa, xc, rfl, ra, fa⟩; have fa' : Fr Nil wr wa := Fr.comp (S := Nil) (by (repeat (first | (with_reducible exact Fr.refl _ _) | (with_reducible assumption) | (with_reducible exact Fr.of_nil (by assumption)) | (with_reducible refine Fr.drew ?_) | (with_reducible refine Fr.drewN ?_ _) | (with_reducible refine Fr.alloc ?_ _) | (with_reducible refine Fr.set ?_ _ _ (by first | (intros; omega) | (simp; done) | (simp; omega))) | (with_reducible refine Fr.via ?_ (by assumption)) | (with_reducible refine Fr.comp ?_ (by assumption))))) fa; have qa := HK.out wa fa'.of_nil; have HA := Lib.hid (And.intro ra fa'); clear ra fa fa')
            | (go_at_call 41; refine (HO.out _ (List.getElem_mem hjL) _ sb _ _ _ _ (HS.out.1.fr HA.out.2) (HQ.out.1.fr (S := Nil) HA.out.2 (fun _ q => q.elim)) HA.out.1 (by have := HG.out.2.2; have := HQ.out.2.2; have := HV.out.2.2.2.2.2.2.2; omega)).mono ?_; rintro e wb ⟨rfl, hb2, fb⟩; have fb' := HA.out.2.of_nil.comp fb; have qb := HK.out wb fb'; have HB2 := Lib.hid (And.intro hb2 fb'); clear hb2 fb fb'))
          go_wp2
          go_roundg (n - (j + 1))
          case rel => exact ⟨j + 1, rfl, by omega, by simp, Lib.hid ⟨by rw [HQ.out.2.1]; exact HB2.out.1, HS.out.2.comp HB2.out.2⟩⟩
          case measure => omega
        · rw [if_neg hk2] at hstep
          have ek2 : ((tk : Int) == 2) = false := beq_false_of_ne (by omega)
          have HQ := Lib.hid (And.intro hbo (And.intro hstep hbd))
          clear hnr hbo hstep hb1 hb2 hc hAA ec hx hbd htk hk0 hk2
          go_wp2_with fail
          refine (HO.out _ (List.getElem_mem hjL) _ sb _ _ _ _ HS.out.1 HQ.out.1 (RowS.fr HV.out.2.2.2.1 HS.out.2 (fun _ q => q)) (by have := HQ.out.2.2; have := HV.out.2.2.2.2.2.2.2; omega)).mono ?_
          rintro e w1 ⟨rfl, h1, f1⟩
          have H1 := Lib.hid (And.intro h1 (HS.out.2.comp f1))
          clear h1 f1 p0 p1 p2 p3 p4 p5 p6 p7 p8 p9 p10 p11 p12
          go_wp2
          go_roundg (n - (j + 1))
          case rel => exact ⟨j + 1, rfl, by omega, by simp, Lib.hid ⟨by rw [HQ.out.2.1]; exact H1.out.1, H1.out.2⟩⟩
          case measure => omega
    · have j1 : ¬ (j : Int) < (n : Int) := by omega
      obtain rfl : n = j := by omega
      have HF : Hid (SAt wr sb cons R ∧ Fr (fun b => b = sb) w wr) := Lib.hid (by
        have h := HS.out
        rw [List.take_of_length_le (by rw [HV.out.2.2.2.2.1]; exact Nat.le_refl _), HV.out.2.2.2.2.2.2.1] at h
        exact h)
      go_wp2
      go_end0
      exact ⟨rfl, HF.out.1, HF.out.2⟩
end
end Go.Proofs.Ythpenpgcacikaaa
