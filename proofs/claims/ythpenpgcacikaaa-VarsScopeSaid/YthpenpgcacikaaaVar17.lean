/-
  The law VarsOnce, walked (layer 12). Conditions: none but the arguments' forms.
-/
import Derived.Test.YthpenpgcacikaaaVarH
namespace Go.Proofs.Ythpenpgcacikaaa
set_option linter.unusedSimpArgs false
set_option linter.unusedVariables false
open Go.RowKit

mutual
theorem occ_names : ∀ (e : TE), okE e → ∀ b, ∀ x ∈ occE e b, x.length ≤ maxLen
  | .mk k n _ _ ps ks bs al, h, b => by
    unfold okE at h
    obtain ⟨h1, h2, h3, h4, h5⟩ := h
    intro x hx
    unfold occE at hx
    split at hx
    · split at hx
      · simp at hx
      · rw [List.mem_singleton] at hx
        exact hx ▸ h1
    · split at hx
      · rcases List.mem_append.1 hx with q | q
        · exact occ_namesB bs h4 _ x q
        · exact occ_namesK ks h3 _ x q
      · split at hx
        · exact occ_namesK ks h3 _ x hx
        · rcases List.mem_append.1 hx with q | q
          · exact occ_namesK ks h3 _ x q
          · exact occ_namesA al h5 _ x q
theorem occ_namesK : ∀ (l : List TE), okK l → ∀ b, ∀ x ∈ occK l b, x.length ≤ maxLen
  | [], _, b => fun x hx => by simp [occK] at hx
  | e :: l, h, b => fun x hx => by
    unfold okK at h
    unfold occK at hx
    rcases List.mem_append.1 hx with q | q
    · exact occ_names e h.1 _ x q
    · exact occ_namesK l h.2 _ x q
theorem occ_namesB : ∀ (l : List TB), okB l → ∀ b, ∀ x ∈ occB l b, x.length ≤ maxLen
  | [], _, b => fun x hx => by simp [occB] at hx
  | .mk _ p e :: l, h, b => fun x hx => by
    unfold okB at h
    unfold occB at hx
    rcases List.mem_append.1 hx with q | q
    · exact occ_names e h.1.2.2 _ x q
    · exact occ_namesB l h.2 _ x q
theorem occ_namesA : ∀ (l : List TA), okA l → ∀ b, ∀ x ∈ occA l b, x.length ≤ maxLen
  | [], _, b => fun x hx => by simp [occA] at hx
  | .mk _ _ _ _ _ e :: l, h, b => fun x hx => by
    unfold okA at h
    unfold occA at hx
    rcases List.mem_append.1 hx with q | q
    · exact occ_names e h.1.2.2 _ x q
    · exact occ_namesA l h.2 _ x q
end
theorem mem_uniq {x : List UInt8} {l : List (List UInt8)} : x ∈ uniq l ↔ x ∈ l := by rw [uniq_eq, mem_joinF]; simp
theorem joinF_once : ∀ (b a : List (List UInt8)), a.Nodup → (joinF a b).Nodup
  | [], a, h => h
  | x :: b, a, h => by
    rw [joinF_cons]
    refine joinF_once b _ ?_
    split
    · exact h
    · rename_i q
      rw [List.nodup_append]
      exact ⟨h, by simp, fun y hy z hz e => by rw [List.mem_singleton] at hz; subst hz; subst e; exact q hy⟩
theorem uniq_once {l : List (List UInt8)} {k : Nat} (h : k < (uniq l).length) : (uniq l)[k] ∉ (uniq l).take k := by
  have hn := joinF_once l [] List.nodup_nil
  rw [← uniq_eq] at hn
  intro q
  obtain ⟨j, hj, e⟩ := List.getElem_of_mem q
  rw [List.getElem_take] at e
  have hj2 : j < k := by rw [List.length_take] at hj; omega
  exact (List.pairwise_iff_getElem.1 hn) j k (by omega) h hj2 e
theorem woF_self {a b : List (List UInt8)} (h : ∀ x ∈ a, x ∈ b) : woF a b = [] := by
  unfold woF
  rw [List.filter_eq_nil_iff]
  intro x hx
  simpa using h x hx
theorem RowS.take {X : Nat → Prop} {w : World} {a : Option Addr} {n cap k : Nat} {l : List (List UInt8)} (h : RowS X w (.slice a n cap) l) (hk : k ≤ l.length) : RowS X w (.slice a k cap) (l.take k) := by
  obtain ⟨a1, cap1, e, h1, h2, hc⟩ := h
  cases e
  have hl : (l.take k).length = k := by rw [List.length_take]; omega
  unfold RowS
  rw [hl]
  refine ⟨_, _, rfl, by omega, h2, fun i hi => ?_⟩
  obtain ⟨b, off, e, hb, hll, hcell⟩ := hc i (by omega)
  refine ⟨b, off, e, hb, rfl, fun j u hj => hcell j u ?_⟩
  have e2 : (l.take k).getD i [] = l.getD i [] := by
    rw [List.getD_eq_getElem?_getD, List.getElem?_take_of_lt hi, List.getD_eq_getElem?_getD]
  have hj2 : [Value.string ⟨((l.take k).getD i []).toArray⟩][j]? = some u := hj
  rw [e2] at hj2
  exact hj2
/-- A lambda of names around an expression, as a law makes it. -/
theorem lam_at {X : Nat → Prop} {w : World} {pv : Value} {U : List (List UInt8)} {b : Nat} {c : List Value} {e : TE} {t : TypeId} (hU : RowS X w pv U) (hb : Blk w b c.toArray t) (hE : EAt X w c e) (hX : ¬ X b) :
    EAt X w [.int .i64 8, .string ⟨#[]⟩, .bool false, .int .u64 0, pv, .slice (some ⟨b, 0, none⟩) 1 1, .slice none 0 0, .slice none 0 0] (.mk 8 [] false 0 U [e] [] []) :=
  EAt.rows (kids := [e]) (alts := []) (binds := []) (ac := fun _ => []) (bc := fun _ => []) 8 [] hU (RowC.one hb hE.len hX) (fun i hi => by
    have e : i = 0 := by simp at hi; omega
    subst e
    exact hE) RowC.nil (fun i hi => absurd hi (Nat.not_lt_zero i)) RowC.nil (fun i hi => absurd hi (Nat.not_lt_zero i))
theorem lam_ok8 {U : List (List UInt8)} {e : TE} (ho : okE e) (hU : ∀ x ∈ U, x.length ≤ maxLen) : okE (.mk 8 [] false 0 U [e] [] []) := ⟨Nat.zero_le _, hU, ⟨ho, trivial⟩, trivial, trivial⟩
theorem lam_vs {U : List (List UInt8)} {e : TE} (ho : vsE e) : vsE (.mk 8 [] false 0 U [e] [] []) := ⟨.inr (.inr (.inl ⟨rfl, rfl, rfl⟩)), ⟨ho, trivial⟩, trivial, trivial⟩
theorem lam_wt {U : List (List UInt8)} {e : TE} : wtE (.mk 8 [] false 0 U [e] [] []) = U.length + wtE e := by
  simp [wtE, wtK, wtB, wtA]
theorem lam_free {U : List (List UInt8)} {e : TE} (ho : vsE e) : uniq (occE (.mk 8 [] false 0 U [e] [] []) []) = woF (freeE e) U := by
  rw [uniq_free (lam_vs ho)]
  have e1 : freeE (.mk 8 [] false 0 U [e] [] []) = woF (woF (joinF [] (freeE e)) []) U := by
    rw [freeE, if_neg (by decide)]
    simp only [freeB, freeK, freeA, nmB, List.map_nil]
  rw [e1, woF_nil, ← uniq_free ho, joinF_uniq, ← uniq_eq]
set_option maxRecDepth 100000 in
set_option maxHeartbeats 4000000 in
theorem once12_any (s : ByteArray) (w : World) :
    Calls Try.prog 7 #[.string s] w fun r w' => r = .returned (.bool true) ∧ Fr Nil w w' := by
  by_cases hs : s.size ≤ 3000
  · have c1 : ¬ (3000 : Int) < (s.size : Int) := by omega
    have hS := parse_src s.data.toList (by rw [size_of]; unfold maxLen; omega)
    obtain ⟨bs, hbs⟩ : ∃ bs, (parseF s.data.toList).1.binds = bs := ⟨_, rfl⟩
    rw [hbs] at hS
    have HS := Lib.hid (And.intro hS hbs)
    have hsz : s.size ≤ 1000000 := by omega
    clear hS hbs
    go_enter Try.func7, Try.ntmps7
    go_wp2_with fail
    refine (awake_any w).mono ?_
    rintro e w1 ⟨rfl, f1⟩
    go_wp2_with fail
    refine (told_any s w1 hsz).mono ?_
    rw [HS.out.2]
    rintro e w2 ⟨v, rfl, hb, f2⟩
    obtain ⟨ba, bc, rfl⟩ := hb.shape
    obtain ⟨nb, hnb⟩ : ∃ nb, bs.length = nb := ⟨_, rfl⟩
    have hnb9 : nb ≤ 4096 := by have := HS.out.1.len; omega
    rw [hnb] at hb ⊢
    have HB := Lib.hid (And.intro hb (And.intro hnb (f1.comp f2)))
    clear hb hnb f1 f2
    go_wp2_with fail
    go_loopg [4] nb (fun g iv wr => ∃ i : Nat, g = nb - i ∧ i ≤ nb ∧ iv = .int .i64 (i : Int) ∧ Hid (Fr Nil w2 wr))
    case atStart => exact ⟨0, rfl, by omega, rfl, Lib.hid (Fr.refl _ _)⟩
    case round =>
      obtain ⟨i, rfl, hil, rfl, HF⟩ := hrel
      obtain ⟨Vr, hVr⟩ : ∃ V, V = wr := ⟨_, rfl⟩
      subst hVr
      have j0 : (0 : Int) ≤ (i : Int) := by omega
      by_cases hlt : i < nb
      · have hiL : i < bs.length := by rw [HB.out.2.1]; exact hlt
        have wk : IntKind.i64.wrap ((i : Int) + 1) = (i : Int) + 1 := by rw [IntKind.wrap_i64]; omega
        have j1 : (i : Int) < (nb : Int) := by omega
        obtain ⟨b, off, pa, pn, pc, c, rfl, hlb, hfo, hpr, hE, hpn, hc⟩ := (HB.out.1.fr HF.out (fun _ q => q.elim)).at hiL
        have hok := HS.out.1.ok _ (List.getElem_mem hiL)
        obtain ⟨e, he⟩ : ∃ e, bs[i].body = e := ⟨_, rfl⟩
        rw [he] at hE hok
        obtain ⟨k, nm, fl, bi, a0, n0, c0, a1, n1, c1, a2, n2, c2, a3, n3, c3, rfl⟩ := hfo
        have HE := Lib.hid (And.intro hE (And.intro hok.1 (And.intro hok.2.1 (show wtE e ≤ 4096 by have := hok.2.2.1; omega))))
        have HC : Hid (∀ w', Fr Nil Vr w' → w'.cell? ⟨b, off + i * 10 + 2, none⟩ = some (.int .i64 (k : Int)) ∧ w'.cell? ⟨b, off + i * 10 + 2 + 1, none⟩ = some (.string nm) ∧ w'.cell? ⟨b, off + i * 10 + 2 + 2, none⟩ = some (.bool fl) ∧ w'.cell? ⟨b, off + i * 10 + 2 + 3, none⟩ = some (.int .u64 (bi : Int)) ∧ w'.cell? ⟨b, off + i * 10 + 2 + 4, none⟩ = some (.slice a0 n0 c0) ∧ w'.cell? ⟨b, off + i * 10 + 2 + 5, none⟩ = some (.slice a1 n1 c1) ∧ w'.cell? ⟨b, off + i * 10 + 2 + 6, none⟩ = some (.slice a2 n2 c2) ∧ w'.cell? ⟨b, off + i * 10 + 2 + 7, none⟩ = some (.slice a3 n3 c3)) := Lib.hid (fun w' f => by
          obtain ⟨_, _, h⟩ := hc w' f
          exact ⟨h 0 _ rfl, h 1 _ rfl, h 2 _ rfl, h 3 _ rfl, h 4 _ rfl, h 5 _ rfl, h 6 _ rfl, h 7 _ rfl⟩)
        obtain ⟨p0, p1, p2, p3, p4, p5, p6, p7⟩ := HC.out Vr (Fr.refl _ _)
        clear hE hok hc hpr hpn he
        go_wp2_with fail
        refine (free_any HE.out.1 HE.out.2.1 (by have := HE.out.2.2.2; omega)).mono ?_
        rintro e3 w3 ⟨vf, rfl, own, f3⟩
        obtain ⟨U, hU⟩ : ∃ U, uniq (occE e []) = U := ⟨_, rfl⟩
        have honce : ∀ (k : Nat) (h : k < U.length), U[k] ∉ U.take k := fun k h => by
          have h2 : k < (uniq (occE e [])).length := by rw [hU]; exact h
          have := uniq_once h2
          simp only [hU] at this
          exact this
        have hUl : U.length ≤ 4096 := by
          have := uniq_len (occE e [])
          have := occE_le e []
          have := HE.out.2.2.2
          rw [hU] at *
          omega
        have hUok : ∀ x ∈ U, x.length ≤ maxLen := fun x hx => occ_names e HE.out.2.1 [] x (mem_uniq.1 (by rw [hU]; exact hx))
        have hUf : freeE e = U := by rw [← uniq_free HE.out.2.2.1, hU]
        rw [hU] at own
        obtain ⟨va, vc, rfl⟩ := owns_shape own
        have hr3 := RowS.nocare (owns_row own)
        obtain ⟨M, hM⟩ : ∃ M, U.length = M := ⟨_, rfl⟩
        rw [hM] at hr3 hUl ⊢
        have HU := Lib.hid (And.intro hr3 (And.intro honce (And.intro hUok (And.intro hUf (And.intro hM (And.intro hU f3))))))
        clear own hr3 honce hUok hUf hM hU f3 p0 p1 p2 p3 p4 p5 p6 p7
        go_wp2_with fail
        go_loopg [6] M (fun g iv wx => ∃ k : Nat, g = M - k ∧ k ≤ M ∧ iv = .int .i64 (k : Int) ∧ Hid (Fr Nil w3 wx))
        case atStart => exact ⟨0, rfl, by omega, rfl, Lib.hid (Fr.refl _ _)⟩
        case round =>
          obtain ⟨k2, rfl, hkl, rfl, HX⟩ := hrel
          have i0 : (0 : Int) ≤ (k2 : Int) := by omega
          by_cases hlt2 : k2 < M
          · have hkU : k2 < U.length := by rw [HU.out.2.2.2.2.1]; exact hlt2
            have wk2 : IntKind.i64.wrap ((k2 : Int) + 1) = (k2 : Int) + 1 := by rw [IntKind.wrap_i64]; omega
            have i1 : (k2 : Int) < (M : Int) := by omega
            have hrx := RowS.fr HU.out.1 HX.out (fun _ q => q.elim)
            obtain ⟨ub, uo, rfl, _, p0⟩ := hrx.cell k2 hkU
            obtain ⟨x, hx⟩ : ∃ x, U[k2] = x := ⟨_, rfl⟩
            have hnot := HU.out.2.1 k2 hkU
            rw [hx] at p0 hnot
            have hcap : M ≤ vc := by
              obtain ⟨_, _, e, q1, _, _⟩ := hrx
              cases e
              have := HU.out.2.2.2.2.1
              omega
            have hcap2 : k2 ≤ vc := by omega
            have hi := in_any x (RowS.take (RowS.fr hrx (Fr.drew (Fr.refl Nil wr)) (fun _ q => q.elim)) (Nat.le_of_lt hkU))
            rw [decide_eq_false hnot] at hi
            have HI := Lib.hid hi
            have hP : ∀ w', Fr Nil wr w' → w'.cell? ⟨ub, uo + k2, none⟩ = some (.string ⟨x.toArray⟩) := fun w' f => f.cell p0 (fun q => q)
            have HP := Lib.hid hP
            clear hi hP hrx hx hnot
            go_upto_region 13 with fail
            go_region_held3 (fun w' => w'.cell? ⟨ub, uo + k2, none⟩ = some (.string ⟨x.toArray⟩)) (first | (with_reducible exact qa) | (with_reducible refine HP.out _ ?_; (repeat (first | (with_reducible exact Fr.refl _ _) | (with_reducible assumption) | (with_reducible exact Fr.of_nil (by assumption)) | (with_reducible refine Fr.drew ?_) | (with_reducible refine Fr.drewN ?_ _) | (with_reducible refine Fr.alloc ?_ _) | (with_reducible refine Fr.set ?_ _ _ (by first | (intros; omega) | (simp; done) | (simp; omega))) | (with_reducible refine Fr.via ?_ (by assumption)) | (with_reducible refine Fr.comp ?_ (by assumption)))))) (first
              | (go_at_call 11; refine HI.out.mono ?_; rintro e wa ⟨rfl, fa⟩; have fa' : Fr Nil wr wa := Fr.comp (S := Nil) (by (repeat (first | (with_reducible exact Fr.refl _ _) | (with_reducible assumption) | (with_reducible exact Fr.of_nil (by assumption)) | (with_reducible refine Fr.drew ?_) | (with_reducible refine Fr.drewN ?_ _) | (with_reducible refine Fr.alloc ?_ _) | (with_reducible refine Fr.set ?_ _ _ (by first | (intros; omega) | (simp; done) | (simp; omega))) | (with_reducible refine Fr.via ?_ (by assumption)) | (with_reducible refine Fr.comp ?_ (by assumption))))) fa; have qa := HP.out wa fa'; have HA := Lib.hid fa'; clear fa fa'))
            go_wp2
            go_roundg (M - (k2 + 1))
            case rel => exact ⟨k2 + 1, rfl, by omega, by simp, Lib.hid (HX.out.comp HA.out)⟩
            case measure => omega
          · have i1 : ¬ (k2 : Int) < (M : Int) := by omega
            obtain rfl : M = k2 := by omega
            obtain ⟨Vx, hVx⟩ : ∃ V, V = wr := ⟨_, rfl⟩
            subst hVx
            have hVV := HU.out.2.2.2.2.2.2.comp HX.out
            have hbx : b < Vx.heap.size := hVV.lt hlb
            have hUx := RowS.fr HU.out.1 HX.out (fun _ q => q.elim)
            have hEx := HE.out.1.fr hVV (fun _ q => q.elim)
            have HV := Lib.hid (And.intro hVV (And.intro hUx hEx))
            obtain ⟨p0, p1, p2, p3, p4, p5, p6, p7⟩ := HC.out Vx hVV
            have hbody := body_any hUx hEx HE.out.2.1 (by have := HE.out.2.2.2; omega)
            clear hVV hUx hEx hbody
            by_cases hM0 : M = 0
            · subst hM0
              go_wp2_with fail
              refine (body_any HV.out.2.1 HV.out.2.2 HE.out.2.1 (by have := HE.out.2.2.2; omega)).mono ?_
              rw [HU.out.2.2.2.2.2.1, woF_self (fun x hx => hx)]
              rintro e6 w6 ⟨v6, rfl, hr6, f6⟩
              obtain ⟨ra, rc, rfl⟩ := RowC.shape hr6
              simp only [List.length_nil]
              have H6 := Lib.hid ((HF.out.comp HV.out.1).comp f6)
              clear hr6 f6 p0 p1 p2 p3 p4 p5 p6 p7
              go_wp2
              go_roundg (nb - (i + 1))
              case rel => exact ⟨i + 1, rfl, by omega, by simp, Lib.hid H6.out⟩
              case measure => omega
            · have hM1 : (0 : Int) < (M : Int) := by omega
              go_wp2_with fail
              have hlam := lam_at (U := U) (t := 32) (X := fun _ => False) (RowS.fr HV.out.2.1 (S := Nil) (w' := Vx.alloc (.cells #[.int .i64 (k : Int), .string nm, .bool fl, .int .u64 (bi : Int), .slice a0 n0 c0, .slice a1 n1 c1, .slice a2 n2 c2, .slice a3 n3 c3] 32)) (by (repeat (first | (with_reducible exact Fr.refl _ _) | (with_reducible assumption) | (with_reducible exact Fr.of_nil (by assumption)) | (with_reducible refine Fr.drew ?_) | (with_reducible refine Fr.drewN ?_ _) | (with_reducible refine Fr.alloc ?_ _) | (with_reducible refine Fr.set ?_ _ _ (by first | (intros; omega) | (simp; done) | (simp; omega))) | (with_reducible refine Fr.via ?_ (by assumption)) | (with_reducible refine Fr.comp ?_ (by assumption))))) (fun _ q => q.elim)) (Blk.new Vx _ _) (HV.out.2.2.fr (S := Nil) (by (repeat (first | (with_reducible exact Fr.refl _ _) | (with_reducible assumption) | (with_reducible exact Fr.of_nil (by assumption)) | (with_reducible refine Fr.drew ?_) | (with_reducible refine Fr.drewN ?_ _) | (with_reducible refine Fr.alloc ?_ _) | (with_reducible refine Fr.set ?_ _ _ (by first | (intros; omega) | (simp; done) | (simp; omega))) | (with_reducible refine Fr.via ?_ (by assumption)) | (with_reducible refine Fr.comp ?_ (by assumption))))) (fun _ q => q.elim)) (fun q => q)
              have hfr := free_any hlam (lam_ok8 HE.out.2.1 HU.out.2.2.1) (by rw [lam_wt, HU.out.2.2.2.2.1]; have := HE.out.2.2.2; omega)
              rw [lam_free HE.out.2.2.1, HU.out.2.2.2.1, woF_self (fun x hx => hx)] at hfr
              refine hfr.mono ?_
              rintro e5 w5 ⟨v5, rfl, own5, f5⟩
              obtain ⟨ya, yc, rfl⟩ := owns_shape own5
              simp only [List.length_nil]
              have hV5 : Fr Nil Vx w5 := Fr.comp (S := Nil) (by (repeat (first | (with_reducible exact Fr.refl _ _) | (with_reducible assumption) | (with_reducible exact Fr.of_nil (by assumption)) | (with_reducible refine Fr.drew ?_) | (with_reducible refine Fr.drewN ?_ _) | (with_reducible refine Fr.alloc ?_ _) | (with_reducible refine Fr.set ?_ _ _ (by first | (intros; omega) | (simp; done) | (simp; omega))) | (with_reducible refine Fr.via ?_ (by assumption)) | (with_reducible refine Fr.comp ?_ (by assumption))))) f5
              have H5 := Lib.hid hV5
              clear p0 p1 p2 p3 p4 p5 p6 p7
              obtain ⟨p0, p1, p2, p3, p4, p5, p6, p7⟩ := HC.out w5 (HV.out.1.comp hV5)
              have hb5 := hV5.lt hbx
              clear own5 f5 hV5 hfr hlam
              go_wp2_with fail
              refine (body_any (RowS.fr HV.out.2.1 H5.out (fun _ q => q.elim)) (HV.out.2.2.fr H5.out (fun _ q => q.elim)) HE.out.2.1 (by have := HE.out.2.2.2; omega)).mono ?_
              rw [HU.out.2.2.2.2.2.1, woF_self (fun x hx => hx)]
              rintro e6 w6 ⟨v6, rfl, hr6, f6⟩
              obtain ⟨ra, rc, rfl⟩ := RowC.shape hr6
              simp only [List.length_nil]
              have H6 := Lib.hid ((HF.out.comp HV.out.1).comp (H5.out.comp f6))
              clear hr6 f6 p0 p1 p2 p3 p4 p5 p6 p7
              go_wp2
              go_roundg (nb - (i + 1))
              case rel => exact ⟨i + 1, rfl, by omega, by simp, Lib.hid H6.out⟩
              case measure => omega
      · have j1 : ¬ (i : Int) < (nb : Int) := by omega
        have HF2 := Lib.hid (HB.out.2.2.comp HF.out)
        go_wp2
        go_ret
        exact ⟨rfl, HF2.out⟩
  · have c1 : (3000 : Int) < (s.size : Int) := by omega
    go_enter Try.func7, Try.ntmps7
    go_wp2_with fail
    refine (awake_any w).mono ?_
    rintro e w1 ⟨rfl, f1⟩
    have HF := Lib.hid f1
    clear f1
    go_wp2
    go_ret
    exact ⟨rfl, HF.out⟩
section
variable {w : World} {cs : List Value} {e : TE} {pv : Value} {ps : List (List UInt8)}
/-- What each of the four functions tells, its length named. -/
theorem free_row (hE : EAt (fun _ => False) w cs e) (ho : okE e) (hwt : wtE e ≤ 4096) {U : List (List UInt8)} {M : Nat} (hU : uniq (occE e []) = U) (hM : U.length = M) :
    Calls Try.prog 10 #[.agg cs.toArray] w fun r w' => ∃ va vc, r = .returned (.slice va M vc) ∧ RowS (fun _ => False) w' (.slice va M vc) U ∧ Fr Nil w w' := by
  refine (free_any hE ho (by omega)).mono ?_
  rintro r w' ⟨v, rfl, own, f⟩
  rw [hU] at own
  obtain ⟨va, vc, rfl⟩ := owns_shape own
  have h := RowS.nocare (owns_row own)
  rw [hM] at h ⊢
  exact ⟨va, vc, rfl, h, f⟩
theorem rfree_row (hE : EAt (fun _ => False) w cs e) (hwt : wtE e ≤ 4096) {U : List (List UInt8)} {M : Nat} (hU : freeE e = U) (hM : U.length = M) :
    Calls Try.prog 13 #[.agg cs.toArray] w fun r w' => ∃ va vc, r = .returned (.slice va M vc) ∧ RowS (fun _ => False) w' (.slice va M vc) U ∧ Fr Nil w w' := by
  refine (ref_all (szE e) e (Nat.le_refl _) w cs hE (by omega)).mono ?_
  rintro r w' ⟨v, rfl, own, f⟩
  rw [hU] at own
  obtain ⟨va, vc, rfl⟩ := owns_shape own
  have h := RowS.nocare (owns_row own)
  rw [hM] at h ⊢
  exact ⟨va, vc, rfl, h, f⟩
theorem body_row {X : Nat → Prop} (hp : RowS X w pv ps) (hE : EAt (fun _ => False) w cs e) (ho : okE e) (hwt : wtE e ≤ 4096) {U : List (List UInt8)} {M : Nat} (hU : woF (uniq (occE e [])) ps = U) (hM : U.length = M) :
    Calls Try.prog 14 #[pv, .agg cs.toArray] w fun r w' => ∃ va vc, r = .returned (.slice va M vc) ∧ RowS (fun _ => False) w' (.slice va M vc) U ∧ Fr Nil w w' := by
  refine (body_any hp hE ho (by omega)).mono ?_
  rintro r w' ⟨v, rfl, h, f⟩
  rw [hU] at h
  obtain ⟨va, vc, rfl⟩ := RowC.shape h
  have h := RowS.nocare h
  rw [hM] at h ⊢
  exact ⟨va, vc, rfl, h, f⟩
set_option maxRecDepth 100000 in
theorem rbody_row {X : Nat → Prop} (hp : RowS X w pv ps) (hE : EAt (fun _ => False) w cs e) (hwt : wtE e ≤ 4096) {U : List (List UInt8)} {M : Nat} (hU : woF (freeE e) ps = U) (hM : U.length = M) :
    Calls Try.prog 15 #[pv, .agg cs.toArray] w fun r w' => ∃ va vc, r = .returned (.slice va M vc) ∧ RowS (fun _ => False) w' (.slice va M vc) U ∧ Fr Nil w w' := by
  obtain ⟨pa, pc, rfl⟩ := RowC.shape hp
  obtain ⟨np, hnp⟩ : ∃ np, ps.length = np := ⟨_, rfl⟩
  obtain ⟨G, hG⟩ : ∃ G, freeE e = G := ⟨_, rfl⟩
  obtain ⟨nG, hnG⟩ : ∃ n, G.length = n := ⟨_, rfl⟩
  have hG9 : G.length ≤ 1000000 := by have := freeE_len e; rw [hG] at this; omega
  rw [hG] at hU
  have hp : RowS (fun _ => False) w (.slice pa np pc) ps := by
    rw [hnp] at hp
    exact RowS.nocare hp
  rw [hnp]
  have HE := Lib.hid (And.intro hE (And.intro hp (And.intro hwt (And.intro hG (And.intro hnG (And.intro hG9 (And.intro hU hM)))))))
  have hfo := hE.formE
  obtain ⟨k, nm, fl, bi, a0, n0, c0, a1, n1, c1, a2, n2, c2, a3, n3, c3, rfl⟩ := hfo
  clear hE hp hwt hG hnG hG9 hU hM hnp
  go_enter Try.func15, Try.ntmps15
  go_wp2_with fail
  refine (rfree_row (HE.out.1.fr (S := Nil) (by (repeat (first | (with_reducible exact Fr.refl _ _) | (with_reducible assumption) | (with_reducible exact Fr.of_nil (by assumption)) | (with_reducible refine Fr.drew ?_) | (with_reducible refine Fr.drewN ?_ _) | (with_reducible refine Fr.alloc ?_ _) | (with_reducible refine Fr.set ?_ _ _ (by first | (intros; omega) | (simp; done) | (simp; omega))) | (with_reducible refine Fr.via ?_ (by assumption)) | (with_reducible refine Fr.comp ?_ (by assumption))))) (fun _ q => q.elim)) HE.out.2.2.1 HE.out.2.2.2.1 HE.out.2.2.2.2.1).mono ?_
  rintro r w2 ⟨va, vc, rfl, h2, f2⟩
  have F2 : Fr Nil w w2 := Fr.comp (S := Nil) (by (repeat (first | (with_reducible exact Fr.refl _ _) | (with_reducible assumption) | (with_reducible exact Fr.of_nil (by assumption)) | (with_reducible refine Fr.drew ?_) | (with_reducible refine Fr.drewN ?_ _) | (with_reducible refine Fr.alloc ?_ _) | (with_reducible refine Fr.set ?_ _ _ (by first | (intros; omega) | (simp; done) | (simp; omega))) | (with_reducible refine Fr.via ?_ (by assumption)) | (with_reducible refine Fr.comp ?_ (by assumption))))) f2
  have H2 := Lib.hid (And.intro h2 F2)
  clear h2 f2 F2
  go_wp2_with fail
  refine (without_any H2.out.1 (RowS.fr HE.out.2.1 H2.out.2 (fun _ q => q.elim)) HE.out.2.2.2.2.2.1).mono ?_
  rintro r w3 ⟨v3, rfl, own, f3⟩
  rw [HE.out.2.2.2.2.2.2.1] at own
  obtain ⟨xa, xc, rfl⟩ := owns_shape own
  have h3 := RowS.nocare (owns_row own)
  rw [HE.out.2.2.2.2.2.2.2] at h3 ⊢
  have H3 := Lib.hid (And.intro h3 (H2.out.2.comp f3))
  clear own h3 f3
  go_wp2
  go_ret
  exact ⟨_, _, rfl, H3.out.1, H3.out.2⟩
theorem texts_same {l : List (List UInt8)} {v v2 : Value} {X X2 : Nat → Prop} (h : RowS X w v l) (h2 : RowS X2 w v2 l) :
    Calls Try.prog 12 #[v, v2] w fun r w' => r = .returned (.bool true) ∧ Fr Nil w w' := by
  have := texts_any h h2
  rwa [decide_eq_true rfl] at this
end
end Go.Proofs.Ythpenpgcacikaaa
