/-
  Names bound while a function goes on (layer 12). No conditions.
  IndexFunc and ContainsFunc, where what is asked never says yes (layer 12): at expressions, binds, alternatives. No conditions.
-/
import Derived.Test.YthpenpgcacikaaaVarA
namespace Go.Proofs.Ythpenpgcacikaaa
set_option linter.unusedSimpArgs false
set_option linter.unusedVariables false
open Go.RowKit

theorem count_take {x : List UInt8} {ns bl : List (List UInt8)} {k : Nat} (hk : k < ns.length) (hx : ns[k] = x) (y : List UInt8) : (ns.take (k + 1) ++ bl).count y = (if y = x then (ns.take k ++ bl).count x + 1 else (ns.take k ++ bl).count y) := by
  rw [List.take_succ_eq_append_getElem hk, hx]
  by_cases e : y = x
  · subst e
    rw [if_pos rfl]
    simp [List.count_append]
    omega
  · rw [if_neg e]
    simp [List.count_append, List.count_cons, show ¬ x = y from fun q => e q.symm]
theorem count_drop {x : List UInt8} {ns bl : List (List UInt8)} {k : Nat} (hk : k < ns.length) (hx : ns[k] = x) (y : List UInt8) : (ns.drop k ++ bl).count y = (if y = x then (ns.drop (k + 1) ++ bl).count x + 1 else (ns.drop (k + 1) ++ bl).count y) := by
  rw [List.drop_eq_getElem_cons hk, hx]
  by_cases e : y = x
  · subst e
    rw [if_pos rfl]
    simp [List.count_append, List.count_cons]
  · rw [if_neg e]
    simp [List.count_append, List.count_cons, show ¬ x = y from fun q => e q.symm]
theorem wf_small {d : Int} (h1 : 0 ≤ d) (h2 : d ≤ 1000000) : (Lit.int .i64 d).wf = true := by
  simp [Lit.wf, IntKind.min, IntKind.max, IntKind.signed, IntKind.bits]
  omega
section
variable {l wk mb N : Nat} {J : List (List UInt8) → World → Prop} {O : World → Nat → Prop} {W : World} {pre bl pre2 : List (List UInt8)} {n n2 : Nat}
set_option maxRecDepth 100000 in
set_option maxHeartbeats 9000000 in
theorem within_any (hY : YL l mb N J O) (ns : List (List UInt8)) {nv : Value} (h : WK l wk mb J O W pre bl n) (hr : RowS (XO mb O W) W nv ns) (hns : ∀ x ∈ ns, x.length ≤ maxLen) (hnb : n + ns.length ≤ 900000) (hcb : bl.length + ns.length ≤ 900000)
    {gf c1 c2 : Nat} (hE : Enters Try.prog gf)
    (hcall : ∀ W1, Stp mb O W W1 → WK l wk mb J O W1 pre (ns ++ bl) (n + ns.length) → Calls Try.prog gf #[.pointer (some ⟨c1, 0, none⟩), .pointer (some ⟨c2, 0, none⟩)] W1 fun r W2 => r = .returned (.bool true) ∧ WK l wk mb J O W2 pre2 (ns ++ bl) n2 ∧ Stp mb O W1 W2) (hn2 : n2 + ns.length ≤ 900000) :
    Calls Try.prog 43 #[.pointer (some ⟨wk, 0, none⟩), nv, .func (.func gf) #[] #[.pointer (some ⟨c1, 0, none⟩), .pointer (some ⟨c2, 0, none⟩)]] W fun r W' => r = .returned (.bool true) ∧ WK l wk mb J O W' pre2 bl (n2 + ns.length) ∧ Stp mb O W W' := by
  obtain ⟨av, cv, rfl⟩ := RowC.shape hr
  obtain ⟨M, hM⟩ : ∃ M, ns.length = M := ⟨_, rfl⟩
  rw [hM] at hnb hcb hcall hn2 ⊢
  have hE' := hE
  unfold Enters at hE'
  have HC := Lib.hid hcall
  have H0 := Lib.hid (And.intro hY (And.intro h (And.intro hr (And.intro hns hM))))
  clear hcall h hr hns hM hY
  go_enter Try.func43, Try.ntmps43
  go_wp2_with fail
  go_loopg [14] M (fun g iv wr => ∃ k : Nat, g = M - k ∧ k ≤ M ∧ iv = .int .i64 (k : Int) ∧ Hid (WK l wk mb J O wr pre (ns.take k ++ bl) (n + k) ∧ Stp mb O W wr))
  case atStart => exact ⟨0, rfl, by omega, rfl, Lib.hid ⟨H0.out.2.1, Stp.refl _⟩⟩
  case round =>
    obtain ⟨k, rfl, hk, rfl, HS⟩ := hrel
    have i0 : (0 : Int) ≤ (k : Int) := by omega
    by_cases hlt : k < M
    · have hkL : k < ns.length := by rw [H0.out.2.2.2.2]; exact hlt
      have wkk : IntKind.i64.wrap ((k : Int) + 1) = (k : Int) + 1 := by rw [IntKind.wrap_i64]; omega
      obtain ⟨b, off, rfl, _, p0⟩ := RowS.cell (HS.out.2.row H0.out.2.2.1 (by decide)) k hkL
      obtain ⟨x, ex⟩ : ∃ x, ns[k] = x := ⟨_, rfl⟩
      rw [ex] at p0
      have i1 : (k : Int) < (M : Int) := by omega
      obtain ⟨q0, q1, qf, ql⟩ := HS.out.1.facts
      obtain ⟨F, hF⟩ : ∃ F : List UInt8 → Int, (fun y => ((ns.take k ++ bl).count y : Int)) = F := ⟨_, rfl⟩
      obtain ⟨c, hc⟩ : ∃ c : Nat, (ns.take k ++ bl).count x = c := ⟨_, rfl⟩
      have hFx : F x = (c : Int) := by rw [← hF, ← hc]
      have hcl : c ≤ 900000 := by
        have := List.count_le_length (a := x) (l := ns.take k ++ bl)
        rw [List.length_append, List.length_take] at this
        omega
      have HM : Hid (SMap wr mb (n + k) F) := Lib.hid (hF ▸ HS.out.1.m)
      have HX := Lib.hid (And.intro ex (And.intro hF (And.intro hc (show x.length ≤ maxLen from H0.out.2.2.2.1 x (ex ▸ List.getElem_mem hkL)))))
      have wc : IntKind.i64.wrap ((c : Int) + 1) = (c : Int) + 1 := by rw [IntKind.wrap_i64]; omega
      clear ex hF hc
      go_wp2_with (first
        | (at_lookup; refine wp_lookS _ rfl _ _ rfl mb (n + k) F rfl HM.out x rfl HX.out.2.2.2 ?_; rw [hFx])
        | (at_mapUpdate; refine wp_putS _ rfl _ _ _ rfl mb (n + k) F rfl HM.out (by omega) x ((c : Int) + 1) rfl rfl HX.out.2.2.2 (wf_small (by omega) (by omega)) ?_; intro w5 hM5 f5 hz5; have H5 := Lib.hid (And.intro hM5 f5); clear hM5 f5)
        | fail)
      have HG : SMap w5 mb (n + (k + 1)) (fun y => ((ns.take (k + 1) ++ bl).count y : Int)) := H5.out.1.congr (fun y _ => by
        rw [count_take hkL HX.out.1 y, HX.out.2.2.1, ← HX.out.2.1]
        split <;> simp)
      have HW := HS.out.1.map H0.out.1 H5.out.2 HG
      go_roundg (M - (k + 1))
      case rel => exact ⟨k + 1, rfl, by omega, by simp, Lib.hid ⟨HW.1, HS.out.2.trans HW.2⟩⟩
      case measure => omega
    · have i1 : ¬ (k : Int) < (M : Int) := by omega
      obtain rfl : M = k := by omega
      have HS1 : Hid (WK l wk mb J O wr pre (ns ++ bl) (n + M) ∧ Stp mb O W wr) := Lib.hid (by
        have h := HS.out
        rw [List.take_of_length_le (by rw [H0.out.2.2.2.2]; exact Nat.le_refl _)] at h
        exact h)
      go_wp2_with (first
        | (go_at_fn gf; refine (HC.out wr HS1.out.2 HS1.out.1).mono ?_; rintro e w2 ⟨rfl, hw2, s2⟩; have H2 := Lib.hid (And.intro hw2 (HS1.out.2.trans s2)); clear hw2 s2)
        | fail)
      go_loopg [30] M (fun g iv wr => ∃ k : Nat, g = M - k ∧ k ≤ M ∧ iv = .int .i64 (k : Int) ∧ Hid (WK l wk mb J O wr pre2 (ns.drop k ++ bl) (n2 + k) ∧ Stp mb O W wr))
      case atStart => exact ⟨0, rfl, by omega, rfl, Lib.hid ⟨H2.out.1, H2.out.2⟩⟩
      case round =>
        obtain ⟨k, rfl, hk, rfl, HS⟩ := hrel
        have i0 : (0 : Int) ≤ (k : Int) := by omega
        by_cases hlt : k < M
        · have hkL : k < ns.length := by rw [H0.out.2.2.2.2]; exact hlt
          have wkk : IntKind.i64.wrap ((k : Int) + 1) = (k : Int) + 1 := by rw [IntKind.wrap_i64]; omega
          obtain ⟨b, off, rfl, _, p0⟩ := RowS.cell (HS.out.2.row H0.out.2.2.1 (by decide)) k hkL
          obtain ⟨x, ex⟩ : ∃ x, ns[k] = x := ⟨_, rfl⟩
          rw [ex] at p0
          have i1 : (k : Int) < (M : Int) := by omega
          obtain ⟨q0, q1, qf, ql⟩ := HS.out.1.facts
          obtain ⟨F, hF⟩ : ∃ F : List UInt8 → Int, (fun y => ((ns.drop k ++ bl).count y : Int)) = F := ⟨_, rfl⟩
          obtain ⟨c, hc⟩ : ∃ c : Nat, (ns.drop (k + 1) ++ bl).count x = c := ⟨_, rfl⟩
          have hFx : F x = (c : Int) + 1 := by
            rw [← hF]
            simp only
            rw [count_drop hkL ex x, if_pos rfl, hc]
            simp
          have hcl : c ≤ 900000 := by
            have := List.count_le_length (a := x) (l := ns.drop (k + 1) ++ bl)
            rw [List.length_append, List.length_drop] at this
            have := H0.out.2.2.2.2
            omega
          have HM : Hid (SMap wr mb (n2 + k) F) := Lib.hid (hF ▸ HS.out.1.m)
          have HX := Lib.hid (And.intro ex (And.intro hF (And.intro hc (show x.length ≤ maxLen from H0.out.2.2.2.1 x (ex ▸ List.getElem_mem hkL)))))
          have wc : IntKind.i64.wrap ((c : Int) + 1 - 1) = (c : Int) := by rw [IntKind.wrap_i64]; omega
          clear ex hF hc
          by_cases hz : c = 0
          · subst hz
            have hFx : F x = 1 := hFx
            have wc : IntKind.i64.wrap ((1 : Int) - 1) = 0 := by decide
            go_wp2_with (first
              | (at_lookup; refine wp_lookS _ rfl _ _ rfl mb (n2 + k) F rfl HM.out x rfl HX.out.2.2.2 ?_; rw [hFx])
              | (at_mapUpdate; refine wp_putS _ rfl _ _ _ rfl mb (n2 + k) F rfl HM.out (by omega) x 0 rfl rfl HX.out.2.2.2 (wf_small (by omega) (by omega)) ?_; intro w5 hM5 f5 hz5; obtain ⟨G, hG, hGx⟩ : ∃ G : List UInt8 → Int, (fun y => if y = x then (0 : Int) else F y) = G ∧ G x = 0 := ⟨_, rfl, if_pos rfl⟩; rw [hG] at hM5; have q05 := f5.cell q0 HS.out.1.wk2; have ql5 := f5.lt ql; have H5 := Lib.hid (And.intro hM5 (And.intro f5 hG)); clear hM5 f5 hG q0)
              | (at_lookup; refine wp_lookS _ rfl _ _ rfl mb (n2 + k + 1) G rfl H5.out.1 x rfl HX.out.2.2.2 ?_; rw [hGx])
              | (at_delete; refine wp_delS _ rfl _ _ rfl mb (n2 + k + 1) G rfl H5.out.1 x rfl HX.out.2.2.2 ?_; intro w6 hM6 f6 hz6; have H6 := Lib.hid (And.intro hM6 f6); clear hM6 f6)
              | fail)
            have HG : SMap w6 mb (n2 + (k + 1)) (fun y => ((ns.drop (k + 1) ++ bl).count y : Int)) := (H6.out.1).congr (fun y _ => by
              rw [← H5.out.2.2, ← HX.out.2.1]
              by_cases e : y = x
              · subst e
                simp [HX.out.2.2.1]
              · simp only [if_neg e]
                rw [count_drop hkL HX.out.1 y, if_neg e])
            have HW := HS.out.1.map H0.out.1 (H5.out.2.1.comp H6.out.2) HG
            go_roundg (M - (k + 1))
            case rel => exact ⟨k + 1, rfl, by omega, by simp, Lib.hid ⟨HW.1, HS.out.2.trans HW.2⟩⟩
            case measure => omega
          · have d1 : ((c : Int) == 0) = false := by simpa using hz
            have d2 : ¬ (c : Int) = 0 := by omega
            go_wp2_with (first
              | (at_lookup; refine wp_lookS _ rfl _ _ rfl mb (n2 + k) F rfl HM.out x rfl HX.out.2.2.2 ?_; rw [hFx])
              | (at_mapUpdate; refine wp_putS _ rfl _ _ _ rfl mb (n2 + k) F rfl HM.out (by omega) x (c : Int) rfl rfl HX.out.2.2.2 (wf_small (by omega) (by omega)) ?_; intro w5 hM5 f5 hz5; obtain ⟨G, hG, hGx⟩ : ∃ G : List UInt8 → Int, (fun y => if y = x then ((c : Int) : Int) else F y) = G ∧ G x = (c : Int) := ⟨_, rfl, if_pos rfl⟩; rw [hG] at hM5; have q05 := f5.cell q0 HS.out.1.wk2; have ql5 := f5.lt ql; have H5 := Lib.hid (And.intro hM5 (And.intro f5 hG)); clear hM5 f5 hG q0)
              | (at_lookup; refine wp_lookS _ rfl _ _ rfl mb (n2 + k + 1) G rfl H5.out.1 x rfl HX.out.2.2.2 ?_; rw [hGx])
              | fail)
            have HG : SMap w5 mb (n2 + (k + 1)) (fun y => ((ns.drop (k + 1) ++ bl).count y : Int)) := (H5.out.1).congr (fun y _ => by
              rw [← H5.out.2.2, ← HX.out.2.1]
              by_cases e : y = x
              · subst e
                simp [HX.out.2.2.1]
              · simp only [if_neg e]
                rw [count_drop hkL HX.out.1 y, if_neg e])
            have HW := HS.out.1.map H0.out.1 H5.out.2.1 HG
            go_roundg (M - (k + 1))
            case rel => exact ⟨k + 1, rfl, by omega, by simp, Lib.hid ⟨HW.1, HS.out.2.trans HW.2⟩⟩
            case measure => omega
        · have i1 : ¬ (k : Int) < (M : Int) := by omega
          obtain rfl : M = k := by omega
          have HS1 : Hid (WK l wk mb J O wr pre2 bl (n2 + M) ∧ Stp mb O W wr) := Lib.hid (by
            have h := HS.out
            rw [List.drop_eq_nil_of_le (by rw [H0.out.2.2.2.2]; exact Nat.le_refl _), List.nil_append] at h
            exact h)
          go_wp2
          go_ret
          exact ⟨rfl, HS1.out.1, HS1.out.2⟩
end
end Go.Proofs.Ythpenpgcacikaaa

namespace Go.Proofs.Ythpenpgcacikaaa
set_option linter.unusedSimpArgs false
set_option linter.unusedVariables false
open Go.RowKit

/-- The cells of one, written out. -/
def FormE (c : List Value) : Prop := ∃ (k : Nat) (nm : ByteArray) (fl : Bool) (bi : Nat) (a0 : Option Addr) (n0 c0 : Nat) (a1 : Option Addr) (n1 c1 : Nat) (a2 : Option Addr) (n2 c2 : Nat) (a3 : Option Addr) (n3 c3 : Nat), c = [.int .i64 (k : Int), .string nm, .bool fl, .int .u64 (bi : Int), .slice a0 n0 c0, .slice a1 n1 c1, .slice a2 n2 c2, .slice a3 n3 c3]
section
variable {H : Nat → World → Prop} {sa : Option Addr} {n cap : Nat} {cs : Nat → List Value} {gf q1 : Nat}
set_option maxRecDepth 100000 in
theorem idxE_any (hE : Enters Try.prog gf) (hn : n ≤ 9223372036854775807) (hform : ∀ i, i < n → FormE (cs i))
    (hrow : ∀ i A, i < n → H i A → ∃ b off, sa = some ⟨b, off, none⟩ ∧ ∀ j u, (cs i)[j]? = some u → A.cell? ⟨b, off + i * 8 + j, none⟩ = some u)
    (hstep : ∀ i A, i < n → H i A → Calls Try.prog gf #[.agg (cs i).toArray, .pointer (some ⟨q1, 0, none⟩)] A fun r B => r = .returned (.bool false) ∧ H (i + 1) B)
    {w : World} (h0 : H 0 w) :
    Calls Try.prog 78 #[.slice sa n cap, .func (.func gf) #[] #[.pointer (some ⟨q1, 0, none⟩)]] w fun r w' => r = .returned (.int .i64 (-1)) ∧ H n w' := by
  have hE' := hE
  unfold Enters at hE'
  have HH := Lib.hid (And.intro hrow (And.intro hstep hform))
  have H0 := Lib.hid h0
  clear hrow hstep h0 hform
  go_enter Try.func78, Try.ntmps78
  go_wp2_with fail
  go_loopg [8] n (fun g iv wr => ∃ k : Nat, g = n - k ∧ k ≤ n ∧ iv = .int .i64 (k : Int) ∧ Hid (H k wr))
  case atStart => exact ⟨0, rfl, by omega, rfl, H0⟩
  case round =>
    obtain ⟨i, rfl, hk, rfl, HS⟩ := hrel
    have j0 : (0 : Int) ≤ (i : Int) := by omega
    by_cases hlt : i < n
    · have wkk : IntKind.i64.wrap ((i : Int) + 1) = (i : Int) + 1 := by rw [IntKind.wrap_i64]; omega
      have j1 : (i : Int) < (n : Int) := by omega
      obtain ⟨b, off, rfl, hc⟩ := HH.out.1 i wr hlt HS.out
      obtain ⟨k, nm, fl, bi, a0, n0, c0, a1, n1, c1, a2, n2, c2, a3, n3, c3, ec⟩ := HH.out.2.2 i hlt
      have HC := HH.out.2.1 i wr hlt HS.out
      rw [ec] at hc HC
      have HC := Lib.hid HC
      have p0 := hc 0 _ rfl
      have p1 := hc 1 _ rfl
      have p2 := hc 2 _ rfl
      have p3 := hc 3 _ rfl
      have p4 := hc 4 _ rfl
      have p5 := hc 5 _ rfl
      have p6 := hc 6 _ rfl
      have p7 := hc 7 _ rfl
      simp only [Nat.add_zero] at p0
      clear hc ec
      go_wp2_with (first
        | (go_at_fn gf; refine HC.out.mono ?_; rintro e w2 ⟨rfl, h2⟩; have H2 := Lib.hid h2; clear h2)
        | fail)
      go_roundg (n - (i + 1))
      case rel => exact ⟨i + 1, rfl, by omega, by simp, H2⟩
      case measure => omega
    · have j1 : ¬ (i : Int) < (n : Int) := by omega
      obtain rfl : i = n := by omega
      go_wp2
      go_ret
      exact ⟨rfl, HS.out⟩
set_option maxRecDepth 100000 in
theorem hasE_any (hE : Enters Try.prog gf) (hn : n ≤ 9223372036854775807) (hform : ∀ i, i < n → FormE (cs i))
    (hrow : ∀ i A, i < n → H i A → ∃ b off, sa = some ⟨b, off, none⟩ ∧ ∀ j u, (cs i)[j]? = some u → A.cell? ⟨b, off + i * 8 + j, none⟩ = some u)
    (hstep : ∀ i A, i < n → H i A → Calls Try.prog gf #[.agg (cs i).toArray, .pointer (some ⟨q1, 0, none⟩)] A fun r B => r = .returned (.bool false) ∧ H (i + 1) B)
    {w : World} (h0 : H 0 w) :
    Calls Try.prog 68 #[.slice sa n cap, .func (.func gf) #[] #[.pointer (some ⟨q1, 0, none⟩)]] w fun r w' => r = .returned (.bool false) ∧ H n w' := by
  have HI := Lib.hid (idxE_any hE hn hform hrow hstep h0 (cap := cap))
  clear hform hrow hstep h0
  go_enter Try.func68, Try.ntmps68
  go_wp2_with fail
  refine HI.out.mono ?_
  rintro e w1 ⟨rfl, h1⟩
  have H1 := Lib.hid h1
  clear h1
  go_wp2
  go_ret
  exact ⟨rfl, H1.out⟩
end
/-- The cells of one, written out. -/
def FormB (c : List Value) : Prop := ∃ (bn : ByteArray) (pa : Option Addr) (pn pc : Nat) (k : Nat) (nm : ByteArray) (fl : Bool) (bi : Nat) (a0 : Option Addr) (n0 c0 : Nat) (a1 : Option Addr) (n1 c1 : Nat) (a2 : Option Addr) (n2 c2 : Nat) (a3 : Option Addr) (n3 c3 : Nat), c = [.string bn, .slice pa pn pc, .int .i64 (k : Int), .string nm, .bool fl, .int .u64 (bi : Int), .slice a0 n0 c0, .slice a1 n1 c1, .slice a2 n2 c2, .slice a3 n3 c3]
section
variable {H : Nat → World → Prop} {sa : Option Addr} {n cap : Nat} {cs : Nat → List Value} {gf q1 : Nat}
set_option maxRecDepth 100000 in
theorem idxB_any (hE : Enters Try.prog gf) (hn : n ≤ 9223372036854775807) (hform : ∀ i, i < n → FormB (cs i))
    (hrow : ∀ i A, i < n → H i A → ∃ b off, sa = some ⟨b, off, none⟩ ∧ ∀ j u, (cs i)[j]? = some u → A.cell? ⟨b, off + i * 10 + j, none⟩ = some u)
    (hstep : ∀ i A, i < n → H i A → Calls Try.prog gf #[.agg (cs i).toArray, .pointer (some ⟨q1, 0, none⟩)] A fun r B => r = .returned (.bool false) ∧ H (i + 1) B)
    {w : World} (h0 : H 0 w) :
    Calls Try.prog 77 #[.slice sa n cap, .func (.func gf) #[] #[.pointer (some ⟨q1, 0, none⟩)]] w fun r w' => r = .returned (.int .i64 (-1)) ∧ H n w' := by
  have hE' := hE
  unfold Enters at hE'
  have HH := Lib.hid (And.intro hrow (And.intro hstep hform))
  have H0 := Lib.hid h0
  clear hrow hstep h0 hform
  go_enter Try.func77, Try.ntmps77
  go_wp2_with fail
  go_loopg [8] n (fun g iv wr => ∃ k : Nat, g = n - k ∧ k ≤ n ∧ iv = .int .i64 (k : Int) ∧ Hid (H k wr))
  case atStart => exact ⟨0, rfl, by omega, rfl, H0⟩
  case round =>
    obtain ⟨i, rfl, hk, rfl, HS⟩ := hrel
    have j0 : (0 : Int) ≤ (i : Int) := by omega
    by_cases hlt : i < n
    · have wkk : IntKind.i64.wrap ((i : Int) + 1) = (i : Int) + 1 := by rw [IntKind.wrap_i64]; omega
      have j1 : (i : Int) < (n : Int) := by omega
      obtain ⟨b, off, rfl, hc⟩ := HH.out.1 i wr hlt HS.out
      obtain ⟨bn, pa, pn, pc, k, nm, fl, bi, a0, n0, c0, a1, n1, c1, a2, n2, c2, a3, n3, c3, ec⟩ := HH.out.2.2 i hlt
      have HC := HH.out.2.1 i wr hlt HS.out
      rw [ec] at hc HC
      have HC := Lib.hid HC
      have p0 := hc 0 _ rfl
      have p1 := hc 1 _ rfl
      have p2 := hc 2 _ rfl
      have p3 := hc 3 _ rfl
      have p4 := hc 4 _ rfl
      have p5 := hc 5 _ rfl
      have p6 := hc 6 _ rfl
      have p7 := hc 7 _ rfl
      have p8 := hc 8 _ rfl
      have p9 := hc 9 _ rfl
      simp only [Nat.add_zero] at p0
      clear hc ec
      go_wp2_with (first
        | (go_at_fn gf; refine HC.out.mono ?_; rintro e w2 ⟨rfl, h2⟩; have H2 := Lib.hid h2; clear h2)
        | fail)
      go_roundg (n - (i + 1))
      case rel => exact ⟨i + 1, rfl, by omega, by simp, H2⟩
      case measure => omega
    · have j1 : ¬ (i : Int) < (n : Int) := by omega
      obtain rfl : i = n := by omega
      go_wp2
      go_ret
      exact ⟨rfl, HS.out⟩
set_option maxRecDepth 100000 in
theorem hasB_any (hE : Enters Try.prog gf) (hn : n ≤ 9223372036854775807) (hform : ∀ i, i < n → FormB (cs i))
    (hrow : ∀ i A, i < n → H i A → ∃ b off, sa = some ⟨b, off, none⟩ ∧ ∀ j u, (cs i)[j]? = some u → A.cell? ⟨b, off + i * 10 + j, none⟩ = some u)
    (hstep : ∀ i A, i < n → H i A → Calls Try.prog gf #[.agg (cs i).toArray, .pointer (some ⟨q1, 0, none⟩)] A fun r B => r = .returned (.bool false) ∧ H (i + 1) B)
    {w : World} (h0 : H 0 w) :
    Calls Try.prog 65 #[.slice sa n cap, .func (.func gf) #[] #[.pointer (some ⟨q1, 0, none⟩)]] w fun r w' => r = .returned (.bool false) ∧ H n w' := by
  have HI := Lib.hid (idxB_any hE hn hform hrow hstep h0 (cap := cap))
  clear hform hrow hstep h0
  go_enter Try.func65, Try.ntmps65
  go_wp2_with fail
  refine HI.out.mono ?_
  rintro e w1 ⟨rfl, h1⟩
  have H1 := Lib.hid h1
  clear h1
  go_wp2
  go_ret
  exact ⟨rfl, H1.out⟩
end
/-- The cells of one, written out. -/
def FormA (c : List Value) : Prop := ∃ (tk : Nat) (tn : ByteArray) (tf : Bool) (tb : Nat) (pa : Option Addr) (pn pc : Nat) (k : Nat) (nm : ByteArray) (fl : Bool) (bi : Nat) (a0 : Option Addr) (n0 c0 : Nat) (a1 : Option Addr) (n1 c1 : Nat) (a2 : Option Addr) (n2 c2 : Nat) (a3 : Option Addr) (n3 c3 : Nat), c = [.int .i64 (tk : Int), .string tn, .bool tf, .int .u64 (tb : Int), .slice pa pn pc, .int .i64 (k : Int), .string nm, .bool fl, .int .u64 (bi : Int), .slice a0 n0 c0, .slice a1 n1 c1, .slice a2 n2 c2, .slice a3 n3 c3]
section
variable {H : Nat → World → Prop} {sa : Option Addr} {n cap : Nat} {cs : Nat → List Value} {gf q1 : Nat}
set_option maxRecDepth 100000 in
theorem idxA_any (hE : Enters Try.prog gf) (hn : n ≤ 9223372036854775807) (hform : ∀ i, i < n → FormA (cs i))
    (hrow : ∀ i A, i < n → H i A → ∃ b off, sa = some ⟨b, off, none⟩ ∧ ∀ j u, (cs i)[j]? = some u → A.cell? ⟨b, off + i * 13 + j, none⟩ = some u)
    (hstep : ∀ i A, i < n → H i A → Calls Try.prog gf #[.agg (cs i).toArray, .pointer (some ⟨q1, 0, none⟩)] A fun r B => r = .returned (.bool false) ∧ H (i + 1) B)
    {w : World} (h0 : H 0 w) :
    Calls Try.prog 79 #[.slice sa n cap, .func (.func gf) #[] #[.pointer (some ⟨q1, 0, none⟩)]] w fun r w' => r = .returned (.int .i64 (-1)) ∧ H n w' := by
  have hE' := hE
  unfold Enters at hE'
  have HH := Lib.hid (And.intro hrow (And.intro hstep hform))
  have H0 := Lib.hid h0
  clear hrow hstep h0 hform
  go_enter Try.func79, Try.ntmps79
  go_wp2_with fail
  go_loopg [8] n (fun g iv wr => ∃ k : Nat, g = n - k ∧ k ≤ n ∧ iv = .int .i64 (k : Int) ∧ Hid (H k wr))
  case atStart => exact ⟨0, rfl, by omega, rfl, H0⟩
  case round =>
    obtain ⟨i, rfl, hk, rfl, HS⟩ := hrel
    have j0 : (0 : Int) ≤ (i : Int) := by omega
    by_cases hlt : i < n
    · have wkk : IntKind.i64.wrap ((i : Int) + 1) = (i : Int) + 1 := by rw [IntKind.wrap_i64]; omega
      have j1 : (i : Int) < (n : Int) := by omega
      obtain ⟨b, off, rfl, hc⟩ := HH.out.1 i wr hlt HS.out
      obtain ⟨tk, tn, tf, tb, pa, pn, pc, k, nm, fl, bi, a0, n0, c0, a1, n1, c1, a2, n2, c2, a3, n3, c3, ec⟩ := HH.out.2.2 i hlt
      have HC := HH.out.2.1 i wr hlt HS.out
      rw [ec] at hc HC
      have HC := Lib.hid HC
      have p0 := hc 0 _ rfl
      have p1 := hc 1 _ rfl
      have p2 := hc 2 _ rfl
      have p3 := hc 3 _ rfl
      have p4 := hc 4 _ rfl
      have p5 := hc 5 _ rfl
      have p6 := hc 6 _ rfl
      have p7 := hc 7 _ rfl
      have p8 := hc 8 _ rfl
      have p9 := hc 9 _ rfl
      have p10 := hc 10 _ rfl
      have p11 := hc 11 _ rfl
      have p12 := hc 12 _ rfl
      simp only [Nat.add_zero] at p0
      clear hc ec
      go_wp2_with (first
        | (go_at_fn gf; refine HC.out.mono ?_; rintro e w2 ⟨rfl, h2⟩; have H2 := Lib.hid h2; clear h2)
        | fail)
      go_roundg (n - (i + 1))
      case rel => exact ⟨i + 1, rfl, by omega, by simp, H2⟩
      case measure => omega
    · have j1 : ¬ (i : Int) < (n : Int) := by omega
      obtain rfl : i = n := by omega
      go_wp2
      go_ret
      exact ⟨rfl, HS.out⟩
set_option maxRecDepth 100000 in
theorem hasA_any (hE : Enters Try.prog gf) (hn : n ≤ 9223372036854775807) (hform : ∀ i, i < n → FormA (cs i))
    (hrow : ∀ i A, i < n → H i A → ∃ b off, sa = some ⟨b, off, none⟩ ∧ ∀ j u, (cs i)[j]? = some u → A.cell? ⟨b, off + i * 13 + j, none⟩ = some u)
    (hstep : ∀ i A, i < n → H i A → Calls Try.prog gf #[.agg (cs i).toArray, .pointer (some ⟨q1, 0, none⟩)] A fun r B => r = .returned (.bool false) ∧ H (i + 1) B)
    {w : World} (h0 : H 0 w) :
    Calls Try.prog 70 #[.slice sa n cap, .func (.func gf) #[] #[.pointer (some ⟨q1, 0, none⟩)]] w fun r w' => r = .returned (.bool false) ∧ H n w' := by
  have HI := Lib.hid (idxA_any hE hn hform hrow hstep h0 (cap := cap))
  clear hform hrow hstep h0
  go_enter Try.func70, Try.ntmps70
  go_wp2_with fail
  refine HI.out.mono ?_
  rintro e w1 ⟨rfl, h1⟩
  have H1 := Lib.hid h1
  clear h1
  go_wp2
  go_ret
  exact ⟨rfl, H1.out⟩
end
theorem EAt.formE {X : Nat → Prop} {w : World} {cs : List Value} {t : TE} (h : EAt X w cs t) : FormE cs := by
  obtain ⟨k, nm, fl, bi, a0, n0, c0, a1, n1, c1, a2, n2, c2, a3, n3, c3, rfl⟩ := h.form
  exact ⟨k, nm, fl, bi, a0, n0, c0, a1, n1, c1, a2, n2, c2, a3, n3, c3, rfl⟩
theorem BAt.formB {X : Nat → Prop} {w : World} {c : List Value} {t : TB} (h : BAt X w c t) : FormB c := by
  obtain ⟨pn, cs, rfl, h1, h2⟩ := h
  obtain ⟨pa, pc, rfl⟩ := RowC.shape h1
  obtain ⟨k, nm, fl, bi, a0, n0, c0, a1, n1, c1, a2, n2, c2, a3, n3, c3, rfl⟩ := h2.form
  exact ⟨_, _, _, _, _, _, _, _, _, _, _, _, _, _, _, _, _, _, _, _, rfl⟩
theorem AAt.formA {X : Nat → Prop} {w : World} {c : List Value} {t : TA} (h : AAt X w c t) : FormA c := by
  obtain ⟨pn, cs, rfl, h1, h2⟩ := h
  obtain ⟨pa, pc, rfl⟩ := RowC.shape h1
  obtain ⟨k, nm, fl, bi, a0, n0, c0, a1, n1, c1, a2, n2, c2, a3, n3, c3, rfl⟩ := h2.form
  exact ⟨_, _, _, _, _, _, _, _, _, _, _, _, _, _, _, _, _, _, _, _, _, _, _, rfl⟩
end Go.Proofs.Ythpenpgcacikaaa
