/-
  The law VarsTell, walked (layer 12). Conditions: none but the arguments' forms.
-/
import Derived.Test.YthpenpgcacikaaaVar17
import Derived.Deep.RegionHeld3
namespace Go.Proofs.Ythpenpgcacikaaa
set_option linter.unusedSimpArgs false
set_option linter.unusedVariables false
open Go.RowKit

set_option maxRecDepth 100000 in
set_option maxHeartbeats 40000000 in
theorem tell12_any (s : ByteArray) (nv : Value) (names : List (List UInt8)) (w : World) (hn : RowS (fun _ => False) w nv names) :
    Calls Try.prog 4 #[.string s, nv] w fun r w' => r = .returned (.bool true) ∧ Fr Nil w w' := by
  obtain ⟨na, nc, rfl⟩ := RowC.shape hn
  obtain ⟨nn, hnn⟩ : ∃ n, names.length = n := ⟨_, rfl⟩
  rw [hnn] at hn ⊢
  by_cases hs : s.size ≤ 3000 ∧ nn ≤ 30
  · have c1 : ¬ (3000 : Int) < (s.size : Int) := by omega
    have c2 : ¬ (30 : Int) < (nn : Int) := by omega
    have d1 : decide ((3000 : Int) < (s.size : Int)) = false := decide_eq_false c1
    have d2 : decide ((30 : Int) < (nn : Int)) = false := decide_eq_false c2
    have hS := parse_src s.data.toList (by rw [size_of]; unfold maxLen; omega)
    obtain ⟨bs, hbs⟩ : ∃ bs, (parseF s.data.toList).1.binds = bs := ⟨_, rfl⟩
    rw [hbs] at hS
    have HS := Lib.hid (And.intro hS (And.intro hbs hn))
    have hsz : s.size ≤ 1000000 := by omega
    clear hS hbs hn hnn hs
    go_enter Try.func4, Try.ntmps4
    go_wp2_with fail
    refine (awake_any w).mono ?_
    rintro e w1 ⟨rfl, f1⟩
    have HF1 := Lib.hid f1
    clear f1
    go_wp2_with fail
    refine (told_any s w1 hsz).mono ?_
    rw [HS.out.2.1]
    rintro e w2 ⟨v, rfl, hb, f2⟩
    obtain ⟨ba, bc, rfl⟩ := hb.shape
    obtain ⟨nb, hnb⟩ : ∃ nb, bs.length = nb := ⟨_, rfl⟩
    have hnb9 : nb ≤ 4096 := by have := HS.out.1.len; omega
    rw [hnb] at hb ⊢
    have HB := Lib.hid (And.intro hb (And.intro hnb (HF1.out.comp f2)))
    clear hb hnb f2
    go_wp2_with fail
    go_loopg [6] nb (fun g iv wr => ∃ i : Nat, g = nb - i ∧ i ≤ nb ∧ iv = .int .i64 (i : Int) ∧ Hid (Fr Nil w2 wr))
    case atStart => exact ⟨0, rfl, by omega, rfl, Lib.hid (Fr.refl _ _)⟩
    case round =>
      obtain ⟨i, rfl, hil, rfl, HF⟩ := hrel
      have j0 : (0 : Int) ≤ (i : Int) := by omega
      by_cases hlt : i < nb
      · have hiL : i < bs.length := by rw [HB.out.2.1]; exact hlt
        have wk : IntKind.i64.wrap ((i : Int) + 1) = (i : Int) + 1 := by rw [IntKind.wrap_i64]; omega
        have j1 : (i : Int) < (nb : Int) := by omega
        obtain ⟨b, off, pa, pn, pc, c, rfl, hlb, hfo, hpr, hE, hpn, hc⟩ := (HB.out.1.fr HF.out (fun _ q => q.elim)).at hiL
        have hok := HS.out.1.ok _ (List.getElem_mem hiL)
        obtain ⟨e, he⟩ : ∃ e, bs[i].body = e := ⟨_, rfl⟩
        obtain ⟨pl, hpl⟩ : ∃ e, bs[i].params = e := ⟨_, rfl⟩
        rw [he] at hE hok
        rw [hpl] at hpr
        obtain ⟨k, nm, fl, bi, a0, n0, c0, a1, n1, c1, a2, n2, c2, a3, n3, c3, rfl⟩ := hfo
        have hwr := HB.out.2.2.comp HF.out
        obtain ⟨U, hU⟩ : ∃ U, freeE e = U := ⟨_, rfl⟩
        have hU2 : uniq (occE e []) = U := by rw [uniq_free hok.2.1, hU]
        obtain ⟨V, hV⟩ : ∃ V, woF U pl = V := ⟨_, rfl⟩
        obtain ⟨Z, hZ⟩ : ∃ Z, woF U names = Z := ⟨_, rfl⟩
        obtain ⟨nU, hnU⟩ : ∃ n, U.length = n := ⟨_, rfl⟩
        obtain ⟨nV, hnV⟩ : ∃ n, V.length = n := ⟨_, rfl⟩
        obtain ⟨nZ, hnZ⟩ : ∃ n, Z.length = n := ⟨_, rfl⟩
        have hwt : wtE e ≤ 4096 := by have := hok.2.2.1; omega
        obtain ⟨cl, hcl⟩ : ∃ cl : List Value, [.int .i64 (k : Int), .string nm, .bool fl, .int .u64 (bi : Int), .slice a0 n0 c0, .slice a1 n1 c1, .slice a2 n2 c2, .slice a3 n3 c3] = cl := ⟨_, rfl⟩
        -- what each call tells, wherever
        have A1 : ∀ w', Fr Nil wr w' → Calls Try.prog 10 #[.agg #[.int .i64 (k : Int), .string nm, .bool fl, .int .u64 (bi : Int), .slice a0 n0 c0, .slice a1 n1 c1, .slice a2 n2 c2, .slice a3 n3 c3]] w' fun r w2 => ∃ va vc, r = .returned (.slice va nU vc) ∧ RowS (fun _ => False) w2 (.slice va nU vc) U ∧ Fr Nil w' w2 :=
          fun w' f => free_row (hE.fr f (fun _ q => q.elim)) hok.1 hwt hU2 hnU
        have A2 : ∀ w', Fr Nil wr w' → Calls Try.prog 13 #[.agg #[.int .i64 (k : Int), .string nm, .bool fl, .int .u64 (bi : Int), .slice a0 n0 c0, .slice a1 n1 c1, .slice a2 n2 c2, .slice a3 n3 c3]] w' fun r w2 => ∃ va vc, r = .returned (.slice va nU vc) ∧ RowS (fun _ => False) w2 (.slice va nU vc) U ∧ Fr Nil w' w2 :=
          fun w' f => rfree_row (hE.fr f (fun _ q => q.elim)) hwt hU hnU
        have A3 : ∀ w', Fr Nil wr w' → Calls Try.prog 14 #[.slice pa pn pc, .agg #[.int .i64 (k : Int), .string nm, .bool fl, .int .u64 (bi : Int), .slice a0 n0 c0, .slice a1 n1 c1, .slice a2 n2 c2, .slice a3 n3 c3]] w' fun r w2 => ∃ va vc, r = .returned (.slice va nV vc) ∧ RowS (fun _ => False) w2 (.slice va nV vc) V ∧ Fr Nil w' w2 :=
          fun w' f => body_row (RowS.fr hpr f (fun _ q => q.elim)) (hE.fr f (fun _ q => q.elim)) hok.1 hwt (by rw [hU2, hV]) hnV
        have A4 : ∀ w', Fr Nil wr w' → Calls Try.prog 15 #[.slice pa pn pc, .agg #[.int .i64 (k : Int), .string nm, .bool fl, .int .u64 (bi : Int), .slice a0 n0 c0, .slice a1 n1 c1, .slice a2 n2 c2, .slice a3 n3 c3]] w' fun r w2 => ∃ va vc, r = .returned (.slice va nV vc) ∧ RowS (fun _ => False) w2 (.slice va nV vc) V ∧ Fr Nil w' w2 :=
          fun w' f => rbody_row (RowS.fr hpr f (fun _ q => q.elim)) (hE.fr f (fun _ q => q.elim)) hwt (by rw [hU, hV]) hnV
        have A5 : ∀ w', Fr Nil wr w' → Calls Try.prog 14 #[.slice na nn nc, .agg #[.int .i64 (k : Int), .string nm, .bool fl, .int .u64 (bi : Int), .slice a0 n0 c0, .slice a1 n1 c1, .slice a2 n2 c2, .slice a3 n3 c3]] w' fun r w2 => ∃ va vc, r = .returned (.slice va nZ vc) ∧ RowS (fun _ => False) w2 (.slice va nZ vc) Z ∧ Fr Nil w' w2 :=
          fun w' f => body_row (RowS.fr HS.out.2.2 (hwr.comp f) (fun _ q => q.elim)) (hE.fr f (fun _ q => q.elim)) hok.1 hwt (by rw [hU2, hZ]) hnZ
        have A6 : ∀ w', Fr Nil wr w' → Calls Try.prog 15 #[.slice na nn nc, .agg #[.int .i64 (k : Int), .string nm, .bool fl, .int .u64 (bi : Int), .slice a0 n0 c0, .slice a1 n1 c1, .slice a2 n2 c2, .slice a3 n3 c3]] w' fun r w2 => ∃ va vc, r = .returned (.slice va nZ vc) ∧ RowS (fun _ => False) w2 (.slice va nZ vc) Z ∧ Fr Nil w' w2 :=
          fun w' f => rbody_row (RowS.fr HS.out.2.2 (hwr.comp f) (fun _ q => q.elim)) (hE.fr f (fun _ q => q.elim)) hwt (by rw [hU, hZ]) hnZ
        have HA := Lib.hid (And.intro A1 (And.intro A2 (And.intro A3 (And.intro A4 (And.intro A5 A6)))))
        have hK : ∀ w', Fr Nil wr w' → w'.cell? ⟨b, off + i * 10 + 1, none⟩ = some (.slice pa pn pc) ∧ w'.cell? ⟨b, off + i * 10 + 2, none⟩ = some (.int .i64 (k : Int)) ∧ w'.cell? ⟨b, off + i * 10 + 2 + 1, none⟩ = some (.string nm) ∧ w'.cell? ⟨b, off + i * 10 + 2 + 2, none⟩ = some (.bool fl) ∧ w'.cell? ⟨b, off + i * 10 + 2 + 3, none⟩ = some (.int .u64 (bi : Int)) ∧ w'.cell? ⟨b, off + i * 10 + 2 + 4, none⟩ = some (.slice a0 n0 c0) ∧ w'.cell? ⟨b, off + i * 10 + 2 + 5, none⟩ = some (.slice a1 n1 c1) ∧ w'.cell? ⟨b, off + i * 10 + 2 + 6, none⟩ = some (.slice a2 n2 c2) ∧ w'.cell? ⟨b, off + i * 10 + 2 + 7, none⟩ = some (.slice a3 n3 c3) := fun w' f => by
          obtain ⟨_, h1, h⟩ := hc w' f
          exact ⟨h1, h 0 _ rfl, h 1 _ rfl, h 2 _ rfl, h 3 _ rfl, h 4 _ rfl, h 5 _ rfl, h 6 _ rfl, h 7 _ rfl⟩
        have HK := Lib.hid hK
        clear A1 A2 A3 A4 A5 A6 hE hok hpr hpn hc hU hU2 hV hZ hnU hnV hnZ hwt he hpl hK hwr hcl
        go_upto_region 9 with fail
        go_region_held3 (fun w' => w'.cell? ⟨b, off + i * 10 + 1, none⟩ = some (.slice pa pn pc) ∧ w'.cell? ⟨b, off + i * 10 + 2, none⟩ = some (.int .i64 (k : Int)) ∧ w'.cell? ⟨b, off + i * 10 + 2 + 1, none⟩ = some (.string nm) ∧ w'.cell? ⟨b, off + i * 10 + 2 + 2, none⟩ = some (.bool fl) ∧ w'.cell? ⟨b, off + i * 10 + 2 + 3, none⟩ = some (.int .u64 (bi : Int)) ∧ w'.cell? ⟨b, off + i * 10 + 2 + 4, none⟩ = some (.slice a0 n0 c0) ∧ w'.cell? ⟨b, off + i * 10 + 2 + 5, none⟩ = some (.slice a1 n1 c1) ∧ w'.cell? ⟨b, off + i * 10 + 2 + 6, none⟩ = some (.slice a2 n2 c2) ∧ w'.cell? ⟨b, off + i * 10 + 2 + 7, none⟩ = some (.slice a3 n3 c3)) (with_reducible refine HK.out _ ?_; first | assumption | (repeat (first | (with_reducible exact Fr.refl _ _) | (with_reducible assumption) | (with_reducible exact Fr.of_nil (by assumption)) | (with_reducible refine Fr.drew ?_) | (with_reducible refine Fr.drewN ?_ _) | (with_reducible refine Fr.alloc ?_ _) | (with_reducible refine Fr.set ?_ _ _ (by first | (intros; omega) | (simp; done) | (simp; omega))) | (with_reducible refine Fr.via ?_ (by assumption)) | (with_reducible refine Fr.comp ?_ (by assumption))))) (first
          | (go_at_call 10; refine (HA.out.1 _ (by first | assumption | (repeat (first | (with_reducible exact Fr.refl _ _) | (with_reducible assumption) | (with_reducible exact Fr.of_nil (by assumption)) | (with_reducible refine Fr.drew ?_) | (with_reducible refine Fr.drewN ?_ _) | (with_reducible refine Fr.alloc ?_ _) | (with_reducible refine Fr.set ?_ _ _ (by first | (intros; omega) | (simp; done) | (simp; omega))) | (with_reducible refine Fr.via ?_ (by assumption)) | (with_reducible refine Fr.comp ?_ (by assumption)))))).mono ?_; rintro r wa ⟨xa, ya, rfl, r1, fa⟩; have ga : Fr Nil wr wa := Fr.comp (S := Nil) (by first | assumption | (repeat (first | (with_reducible exact Fr.refl _ _) | (with_reducible assumption) | (with_reducible exact Fr.of_nil (by assumption)) | (with_reducible refine Fr.drew ?_) | (with_reducible refine Fr.drewN ?_ _) | (with_reducible refine Fr.alloc ?_ _) | (with_reducible refine Fr.set ?_ _ _ (by first | (intros; omega) | (simp; done) | (simp; omega))) | (with_reducible refine Fr.via ?_ (by assumption)) | (with_reducible refine Fr.comp ?_ (by assumption))))) fa; (try replace r2 := RowS.fr r2 fa (fun _ q => q.elim)); clear fa)
          | (go_at_call 13; refine (HA.out.2.1 _ (by first | assumption | (repeat (first | (with_reducible exact Fr.refl _ _) | (with_reducible assumption) | (with_reducible exact Fr.of_nil (by assumption)) | (with_reducible refine Fr.drew ?_) | (with_reducible refine Fr.drewN ?_ _) | (with_reducible refine Fr.alloc ?_ _) | (with_reducible refine Fr.set ?_ _ _ (by first | (intros; omega) | (simp; done) | (simp; omega))) | (with_reducible refine Fr.via ?_ (by assumption)) | (with_reducible refine Fr.comp ?_ (by assumption)))))).mono ?_; rintro r wb ⟨xb, yb, rfl, r2, fb⟩; have gb : Fr Nil wr wb := Fr.comp (S := Nil) (by first | assumption | (repeat (first | (with_reducible exact Fr.refl _ _) | (with_reducible assumption) | (with_reducible exact Fr.of_nil (by assumption)) | (with_reducible refine Fr.drew ?_) | (with_reducible refine Fr.drewN ?_ _) | (with_reducible refine Fr.alloc ?_ _) | (with_reducible refine Fr.set ?_ _ _ (by first | (intros; omega) | (simp; done) | (simp; omega))) | (with_reducible refine Fr.via ?_ (by assumption)) | (with_reducible refine Fr.comp ?_ (by assumption))))) fb; (try replace r1 := RowS.fr r1 fb (fun _ q => q.elim)); clear fb)
          | (go_at_call 12; refine (texts_same r5 r6).mono ?_; rintro r wt3 ⟨rfl, ft3⟩; have gt3 : Fr Nil wr wt3 := Fr.comp (S := Nil) (by first | assumption | (repeat (first | (with_reducible exact Fr.refl _ _) | (with_reducible assumption) | (with_reducible exact Fr.of_nil (by assumption)) | (with_reducible refine Fr.drew ?_) | (with_reducible refine Fr.drewN ?_ _) | (with_reducible refine Fr.alloc ?_ _) | (with_reducible refine Fr.set ?_ _ _ (by first | (intros; omega) | (simp; done) | (simp; omega))) | (with_reducible refine Fr.via ?_ (by assumption)) | (with_reducible refine Fr.comp ?_ (by assumption))))) ft3; clear ft3)
          | (go_at_call 12; refine (texts_same r3 r4).mono ?_; rintro r wt2 ⟨rfl, ft2⟩; have done2 : True := trivial; have gt2 : Fr Nil wr wt2 := Fr.comp (S := Nil) (by first | assumption | (repeat (first | (with_reducible exact Fr.refl _ _) | (with_reducible assumption) | (with_reducible exact Fr.of_nil (by assumption)) | (with_reducible refine Fr.drew ?_) | (with_reducible refine Fr.drewN ?_ _) | (with_reducible refine Fr.alloc ?_ _) | (with_reducible refine Fr.set ?_ _ _ (by first | (intros; omega) | (simp; done) | (simp; omega))) | (with_reducible refine Fr.via ?_ (by assumption)) | (with_reducible refine Fr.comp ?_ (by assumption))))) ft2; clear ft2)
          | (go_at_call 12; refine (texts_same r1 r2).mono ?_; rintro r wt1 ⟨rfl, ft1⟩; have gt1 : Fr Nil wr wt1 := Fr.comp (S := Nil) (by first | assumption | (repeat (first | (with_reducible exact Fr.refl _ _) | (with_reducible assumption) | (with_reducible exact Fr.of_nil (by assumption)) | (with_reducible refine Fr.drew ?_) | (with_reducible refine Fr.drewN ?_ _) | (with_reducible refine Fr.alloc ?_ _) | (with_reducible refine Fr.set ?_ _ _ (by first | (intros; omega) | (simp; done) | (simp; omega))) | (with_reducible refine Fr.via ?_ (by assumption)) | (with_reducible refine Fr.comp ?_ (by assumption))))) ft1; clear ft1)
          | (have hd2 := done2; clear hd2; go_at_call 14; refine (HA.out.2.2.2.2.1 _ (by first | assumption | (repeat (first | (with_reducible exact Fr.refl _ _) | (with_reducible assumption) | (with_reducible exact Fr.of_nil (by assumption)) | (with_reducible refine Fr.drew ?_) | (with_reducible refine Fr.drewN ?_ _) | (with_reducible refine Fr.alloc ?_ _) | (with_reducible refine Fr.set ?_ _ _ (by first | (intros; omega) | (simp; done) | (simp; omega))) | (with_reducible refine Fr.via ?_ (by assumption)) | (with_reducible refine Fr.comp ?_ (by assumption)))))).mono ?_; rintro r we ⟨xe, ye, rfl, r5, fe⟩; have ge : Fr Nil wr we := Fr.comp (S := Nil) (by first | assumption | (repeat (first | (with_reducible exact Fr.refl _ _) | (with_reducible assumption) | (with_reducible exact Fr.of_nil (by assumption)) | (with_reducible refine Fr.drew ?_) | (with_reducible refine Fr.drewN ?_ _) | (with_reducible refine Fr.alloc ?_ _) | (with_reducible refine Fr.set ?_ _ _ (by first | (intros; omega) | (simp; done) | (simp; omega))) | (with_reducible refine Fr.via ?_ (by assumption)) | (with_reducible refine Fr.comp ?_ (by assumption))))) fe; (try replace r6 := RowS.fr r6 fe (fun _ q => q.elim)); clear fe)
          | (have hd2 := done2; clear hd2; go_at_call 15; refine (HA.out.2.2.2.2.2 _ (by first | assumption | (repeat (first | (with_reducible exact Fr.refl _ _) | (with_reducible assumption) | (with_reducible exact Fr.of_nil (by assumption)) | (with_reducible refine Fr.drew ?_) | (with_reducible refine Fr.drewN ?_ _) | (with_reducible refine Fr.alloc ?_ _) | (with_reducible refine Fr.set ?_ _ _ (by first | (intros; omega) | (simp; done) | (simp; omega))) | (with_reducible refine Fr.via ?_ (by assumption)) | (with_reducible refine Fr.comp ?_ (by assumption)))))).mono ?_; rintro r wf ⟨xf, yf, rfl, r6, ff⟩; have gf : Fr Nil wr wf := Fr.comp (S := Nil) (by first | assumption | (repeat (first | (with_reducible exact Fr.refl _ _) | (with_reducible assumption) | (with_reducible exact Fr.of_nil (by assumption)) | (with_reducible refine Fr.drew ?_) | (with_reducible refine Fr.drewN ?_ _) | (with_reducible refine Fr.alloc ?_ _) | (with_reducible refine Fr.set ?_ _ _ (by first | (intros; omega) | (simp; done) | (simp; omega))) | (with_reducible refine Fr.via ?_ (by assumption)) | (with_reducible refine Fr.comp ?_ (by assumption))))) ff; (try replace r5 := RowS.fr r5 ff (fun _ q => q.elim)); clear ff)
          | (go_at_call 14; refine (HA.out.2.2.1 _ (by first | assumption | (repeat (first | (with_reducible exact Fr.refl _ _) | (with_reducible assumption) | (with_reducible exact Fr.of_nil (by assumption)) | (with_reducible refine Fr.drew ?_) | (with_reducible refine Fr.drewN ?_ _) | (with_reducible refine Fr.alloc ?_ _) | (with_reducible refine Fr.set ?_ _ _ (by first | (intros; omega) | (simp; done) | (simp; omega))) | (with_reducible refine Fr.via ?_ (by assumption)) | (with_reducible refine Fr.comp ?_ (by assumption)))))).mono ?_; rintro r wc ⟨xc, yc, rfl, r3, fc⟩; have gc : Fr Nil wr wc := Fr.comp (S := Nil) (by first | assumption | (repeat (first | (with_reducible exact Fr.refl _ _) | (with_reducible assumption) | (with_reducible exact Fr.of_nil (by assumption)) | (with_reducible refine Fr.drew ?_) | (with_reducible refine Fr.drewN ?_ _) | (with_reducible refine Fr.alloc ?_ _) | (with_reducible refine Fr.set ?_ _ _ (by first | (intros; omega) | (simp; done) | (simp; omega))) | (with_reducible refine Fr.via ?_ (by assumption)) | (with_reducible refine Fr.comp ?_ (by assumption))))) fc; (try replace r4 := RowS.fr r4 fc (fun _ q => q.elim)); clear fc)
          | (go_at_call 15; refine (HA.out.2.2.2.1 _ (by first | assumption | (repeat (first | (with_reducible exact Fr.refl _ _) | (with_reducible assumption) | (with_reducible exact Fr.of_nil (by assumption)) | (with_reducible refine Fr.drew ?_) | (with_reducible refine Fr.drewN ?_ _) | (with_reducible refine Fr.alloc ?_ _) | (with_reducible refine Fr.set ?_ _ _ (by first | (intros; omega) | (simp; done) | (simp; omega))) | (with_reducible refine Fr.via ?_ (by assumption)) | (with_reducible refine Fr.comp ?_ (by assumption)))))).mono ?_; rintro r wd ⟨xd, yd, rfl, r4, fd⟩; have gd : Fr Nil wr wd := Fr.comp (S := Nil) (by first | assumption | (repeat (first | (with_reducible exact Fr.refl _ _) | (with_reducible assumption) | (with_reducible exact Fr.of_nil (by assumption)) | (with_reducible refine Fr.drew ?_) | (with_reducible refine Fr.drewN ?_ _) | (with_reducible refine Fr.alloc ?_ _) | (with_reducible refine Fr.set ?_ _ _ (by first | (intros; omega) | (simp; done) | (simp; omega))) | (with_reducible refine Fr.via ?_ (by assumption)) | (with_reducible refine Fr.comp ?_ (by assumption))))) fd; (try replace r3 := RowS.fr r3 fd (fun _ q => q.elim)); clear fd))
        all_goals
          go_wp2
          go_roundg (nb - (i + 1))
          case rel => exact ⟨i + 1, rfl, by omega, by simp, Lib.hid (HF.out.comp (by assumption))⟩
          case measure => omega
      · have j1 : ¬ (i : Int) < (nb : Int) := by omega
        have HF2 := Lib.hid (HB.out.2.2.comp HF.out)
        go_wp2
        go_ret
        exact ⟨rfl, HF2.out⟩
  · by_cases hs2 : s.size ≤ 3000
    · have c1 : ¬ (3000 : Int) < (s.size : Int) := by omega
      have c2 : (30 : Int) < (nn : Int) := by omega
      have d1 : decide ((3000 : Int) < (s.size : Int)) = false := decide_eq_false c1
      have d2 : decide ((30 : Int) < (nn : Int)) = true := decide_eq_true c2
      clear hn hnn hs
      go_enter Try.func4, Try.ntmps4
      go_wp2_with fail
      refine (awake_any w).mono ?_
      rintro e w1 ⟨rfl, f1⟩
      have HF := Lib.hid f1
      clear f1
      go_wp2
      go_ret
      exact ⟨rfl, HF.out⟩
    · have c1 : (3000 : Int) < (s.size : Int) := by omega
      have d1 : decide ((3000 : Int) < (s.size : Int)) = true := decide_eq_true c1
      clear hn hnn hs
      go_enter Try.func4, Try.ntmps4
      go_wp2_with fail
      refine (awake_any w).mono ?_
      rintro e w1 ⟨rfl, f1⟩
      have HF := Lib.hid f1
      clear f1
      go_wp2
      go_ret
      exact ⟨rfl, HF.out⟩
end Go.Proofs.Ythpenpgcacikaaa
