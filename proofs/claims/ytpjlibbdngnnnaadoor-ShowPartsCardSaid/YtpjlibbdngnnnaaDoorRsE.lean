/-
  A module's text (layer 9), in plain words: how long it may be; what it is of its parts. No conditions.
  The document's show (layer 9): a module. No conditions.
-/
import Derived.Test.YtpjlibbdngnnnaaDoorSwA
import Derived.Test.YtpjlibbdngnnnaaDoorRsA
import Derived.Test.YtpjlibbdngnnnaaDoorRsD
namespace Go.Proofs.YtpjlibbdngnnnaaDoor
set_option linter.unusedSimpArgs false
set_option linter.unusedVariables false
section
variable {L : List TokV}
theorem data_ar : ∀ (n : Nat) (acc : List (List UInt8 × Nat)) (s : PS), (dataF L n acc s).2.e = 0 → (∀ d ∈ acc, d.2 ≤ 24) → ∀ d ∈ (dataF L n acc s).1, d.2 ≤ 24
  | 0, acc, s, _, h => h
  | n + 1, acc, s, he, h => by
    unfold dataF at he ⊢
    by_cases hc : s.e = 0 ∧ kindP L s = 2
    · rw [if_pos hc] at he ⊢
      simp only at he ⊢
      refine data_ar n _ _ he (fun d hd => ?_)
      rcases List.mem_append.1 hd with q | q
      · exact h d q
      · rw [List.mem_singleton] at q
        rw [q]
        have hu := goes_ok (data_goes_ L n _ _) he
        obtain ⟨s1, hs1⟩ : ∃ s1, (if kindP L (tokenF L 2 s).2 = 3 then (if (L[(tokenF L 2 s).2.at_]?.getD (none_ 0)).flt = true ∨ 24 < (L[(tokenF L 2 s).2.at_]?.getD (none_ 0)).bits then faultF L 1 (tokenF L 2 s).2 else (tokenF L 2 s).2) else (tokenF L 2 s).2) = s1 := ⟨_, rfl⟩
        rw [hs1] at hu ⊢
        have hk : s1.e = 0 ∧ kindP L s1 = 3 := by
          unfold tokenF at hu
          by_cases q : s1.e = 0 ∧ kindP L s1 = 3
          · exact q
          · rw [if_neg q] at hu
            exact absurd hu (fault_bad (by decide))
        have hv : (tokenF L 3 s1).1 = L[s1.at_]?.getD (none_ 0) := by unfold tokenF; rw [if_pos hk]
        show (tokenF L 3 s1).1.bits ≤ 24
        rw [hv]
        by_cases k3 : kindP L (tokenF L 2 s).2 = 3
        · rw [if_pos k3] at hs1
          by_cases hb : (L[(tokenF L 2 s).2.at_]?.getD (none_ 0)).flt = true ∨ 24 < (L[(tokenF L 2 s).2.at_]?.getD (none_ 0)).bits
          · rw [if_pos hb] at hs1
            have := hk.1
            rw [← hs1] at this
            exact absurd this (fault_bad (by decide))
          · rw [if_neg hb] at hs1
            rw [← hs1]
            omega
        · rw [if_neg k3] at hs1
          rw [hs1] at k3
          exact absurd hk.2 k3
    · rw [if_neg hc]
      exact h
theorem mod_ar : ∀ (n : Nat) (m : TM) (s : PS), (modF L n m s).2.e = 0 → (∀ d ∈ m.cons, d.2 ≤ 24) → ∀ d ∈ (modF L n m s).1.cons, d.2 ≤ 24
  | 0, m, s, _, h => h
  | n + 1, m, s, he, h => by
    unfold modF at he ⊢
    split at he
    · rename_i hc
      rw [if_pos hc]
      split at he
      · rename_i hd
        rw [if_pos hd]
        refine mod_ar n _ _ he (fun d hx => ?_)
        rcases List.mem_append.1 hx with q | q
        · exact h d q
        · have h1 := goes_ok (mod_goes L n _ _) he
          have h2 := (need_ok h1).1
          exact data_ar _ _ _ h2 (fun d hd => by simp at hd) d q
      · rename_i hd
        rw [if_neg hd]
        exact mod_ar n _ _ he h
    · rename_i hc
      rw [if_neg hc]
      exact h
end
theorem parse_ar (s : List UInt8) : ∀ d ∈ (parseF s).1.cons, d.2 ≤ 1000000 := by
  unfold parseF
  split
  · intro d hd; simp at hd
  · show ∀ d ∈ (tokensF (lexF s).toks).1.cons, _
    unfold tokensF
    simp only
    split
    · intro d hd; simp at hd
    · rename_i hz
      have he : (modF (lexF s).toks (fuelP (lexF s).toks) ⟨[], []⟩ ⟨0, 0, 0⟩).2.e = 0 := Classical.not_not.1 hz
      intro d hd
      have := mod_ar _ _ _ he (fun d hd => by simp at hd) d hd
      omega
theorem dec_len (y : Nat) (hy : y ≤ 1000000) : (Lib.decDigits y).length ≤ 20 := by
  have h := digL_len 10 20 (by omega) y (by omega) (by omega)
  rw [digL10] at h
  exact h
def conT (d : List UInt8 × Nat) : List UInt8 := [32] ++ d.1 ++ [32] ++ Lib.decDigits d.2
/-- The constructors' text without its end. -/
def conR (cs : List (List UInt8 × Nat)) : List UInt8 := [100, 97, 116, 97] ++ (cs.map conT).flatten
theorem consT_nil : consT [] = [] := rfl
theorem consT_ne {cs : List (List UInt8 × Nat)} (h : cs ≠ []) : consT cs = conR cs ++ [59, 10] := by
  unfold consT
  rw [if_neg h]
  rfl
theorem conR_snoc (cs : List (List UInt8 × Nat)) (d : List UInt8 × Nat) : conR (cs ++ [d]) = conR cs ++ [32] ++ d.1 ++ [32] ++ Lib.decDigits d.2 := by
  unfold conR
  rw [List.map_append, List.flatten_append, List.map_singleton, List.flatten_singleton]
  simp [conT]
theorem conR_take {cs : List (List UInt8 × Nat)} {j : Nat} (h : j < cs.length) : conR (cs.take (j + 1)) = conR (cs.take j) ++ [32] ++ cs[j].1 ++ [32] ++ Lib.decDigits cs[j].2 := by
  rw [List.take_succ_eq_append_getElem h, conR_snoc]
theorem conR_len : ∀ cs : List (List UInt8 × Nat), (∀ d ∈ cs, d.1.length ≤ 5000) → (∀ d ∈ cs, d.2 ≤ 1000000) → (conR cs).length ≤ 4 + 5030 * cs.length
  | [], _, _ => by decide
  | d :: l, h1, h2 => by
    have e : conR (d :: l) = [100, 97, 116, 97] ++ (conT d ++ (l.map conT).flatten) := rfl
    have ih := conR_len l (fun x hx => h1 x (by simp [hx])) (fun x hx => h2 x (by simp [hx]))
    have i1 := h1 d (by simp)
    have i2 := dec_len d.2 (h2 d (by simp))
    have e2 : (conR l).length = 4 + ((l.map conT).flatten).length := by unfold conR; rw [List.length_append]; rfl
    have e3 : (conT d).length = 2 + d.1.length + (Lib.decDigits d.2).length := by unfold conT; simp; omega
    rw [e, List.length_append, List.length_append, e3, List.length_cons, List.length_cons, List.length_cons, List.length_cons, List.length_cons, List.length_nil]
    omega
theorem bindsT_app (pr : Bool → Nat → List UInt8) (a b : List TB) : bindsT pr (a ++ b) = bindsT pr a ++ bindsT pr b := by
  unfold bindsT
  simp
theorem bindsT_snoc (pr : Bool → Nat → List UInt8) (bs : List TB) (b : TB) : bindsT pr (bs ++ [b]) = bindsT pr bs ++ swB1 pr b ++ [59, 10] := by
  unfold bindsT
  simp
theorem bindsT_take (pr : Bool → Nat → List UInt8) {bs : List TB} {j : Nat} (h : j < bs.length) : bindsT pr (bs.take (j + 1)) = bindsT pr (bs.take j) ++ swB1 pr bs[j] ++ [59, 10] := by
  rw [List.take_succ_eq_append_getElem h, bindsT_snoc]
theorem bindsT_lenS (pr : Bool → Nat → List UInt8) : ∀ bs : List TB, (bindsT pr bs).length = lenS (swB pr bs)
  | [] => rfl
  | b :: l => by
    have ih := bindsT_lenS pr l
    have e : bindsT pr (b :: l) = (swB1 pr b ++ [59, 10]) ++ bindsT pr l := by unfold bindsT; simp
    have e2 : swB pr (b :: l) = swB1 pr b :: swB pr l := by rw [swB_map, swB_map]; rfl
    rw [e, e2, lenS_cons, List.length_append, List.length_append, ih]
    rfl
theorem bindsT_len (bs : List TB) : (bindsT prF bs).length ≤ zB bs := by
  rw [bindsT_lenS]
  exact swB_len prF prF_len bs
theorem lenS_takeB {bs : List TB} {j : Nat} (h : j < bs.length) : (bindsT prF (bs.take j)).length + (swB1 prF bs[j]).length + 2 ≤ zB bs := by
  have h1 : ∀ l : List TB, lenS (swB prF l) = (bindsT prF l).length := fun l => (bindsT_lenS prF l).symm
  have h2 := bindsT_len bs
  have h4 : (bindsT prF bs).length = (bindsT prF (bs.take (j + 1))).length + (bindsT prF (bs.drop (j + 1))).length := by
    rw [← List.length_append, ← bindsT_app, List.take_append_drop]
  rw [bindsT_take prF h] at h4
  simp only [List.length_append, List.length_cons, List.length_nil] at h4
  omega
end Go.Proofs.YtpjlibbdngnnnaaDoor

namespace Go.Proofs.YtpjlibbdngnnnaaDoor
set_option linter.unusedSimpArgs false
set_option linter.unusedVariables false
open Go.RowKit

/-- A module that can be shown. -/
structure SvM (m : TM) : Prop where
  sv : svB m.binds
  z : zB m.binds ≤ 50000000
  nm : ∀ d ∈ m.cons, d.1.length ≤ 5000
  ar : ∀ d ∈ m.cons, d.2 ≤ 1000000
  len : m.cons.length ≤ 100000
theorem SvM.conL {m : TM} (h : SvM m) : (conR m.cons).length ≤ 504000000 := by
  have := conR_len m.cons h.nm h.ar
  have := h.len
  omega
theorem SvM.conR_at {m : TM} (h : SvM m) {j : Nat} (hj : j < m.cons.length) : (conR (m.cons.take j)).length ≤ 504000000 ∧ m.cons[j].1.length ≤ 5000 ∧ (Lib.decDigits m.cons[j].2).length ≤ 20 := by
  have h1 := conR_len (m.cons.take j) (fun d hd => h.nm d (List.mem_of_mem_take hd)) (fun d hd => h.ar d (List.mem_of_mem_take hd))
  have h2 : (m.cons.take j).length ≤ m.cons.length := by rw [List.length_take]; omega
  have := h.len
  exact ⟨by omega, h.nm _ (List.getElem_mem hj), dec_len _ (h.ar _ (List.getElem_mem hj))⟩
section
variable {w : World} {ca ba : Option Addr} {nc cc nb bc : Nat} {m : TM}
set_option maxRecDepth 100000 in
set_option maxHeartbeats 4000000 in
/-- The document shows a module as it should. -/
theorem rmod_any (hm : ModV (fun _ => False) w ca nc cc ba nb bc m) (hs : SvM m) :
    Calls Tryd.prog 20 #[.agg #[.slice ca nc cc, .slice ba nb bc]] w fun r w' => r = .returned (.string ⟨(swM prF m).toArray⟩) ∧ Fr Nil w w' := by
  obtain ⟨T, hT⟩ : ∃ T, w.heap.size = T := ⟨_, rfl⟩
  obtain ⟨W1, hW1⟩ : ∃ W1, w.alloc (.cells #[.slice ca nc cc, .slice ba nb bc] 26) = W1 := ⟨_, rfl⟩
  have f1 : Fr Nil w W1 := by rw [← hW1]; (repeat (first | (with_reducible exact Fr.refl _ _) | (with_reducible assumption) | (with_reducible exact Fr.of_nil (by assumption)) | (with_reducible refine Fr.drew ?_) | (with_reducible refine Fr.drewN ?_ _) | (with_reducible refine Fr.alloc ?_ _) | (with_reducible refine Fr.set ?_ _ _ (by first | (intros; omega) | (simp; done) | (simp; omega))) | (with_reducible refine Fr.via ?_ (by assumption)) | (with_reducible refine Fr.comp ?_ (by assumption))))
  have b1 : Blk W1 T #[.slice ca nc cc, .slice ba nb bc] 26 := by rw [← hW1, ← hT]; exact Blk.new _ _ _
  have hm1 := hm.fr f1 (fun _ q => q.elim)
  have HK2 : Hid (∀ w', Fr Nil W1 w' → w'.cell? ⟨T, 0, none⟩ = some (.slice ca nc cc) ∧ w'.cell? ⟨T, 1, none⟩ = some (.slice ba nb bc)) := Lib.hid (fun w' f => by
    have b := f.blk b1 (fun q => q)
    have z0 := b.cell 0
    have z1 := b.cell 1
    simp at z0 z1
    exact ⟨z0, z1⟩)
  obtain ⟨z0, z1⟩ := HK2.out W1 (Fr.refl _ _)
  have zl := b1.lt
  obtain ⟨cs, hb1, hb2⟩ := hm1.2.2.1
  have hnb := hm1.2.2.2
  rw [hnb] at hb1
  have hnc := hm1.2.1
  have hnb9 := hb1.lenX
  have hnc9 : nc ≤ 100000 := by rw [← hnc]; exact hs.len
  have hform : ∀ j (h : j < m.binds.length), FormB (cs j) := fun j h => (hb2 j h).formB
  have hat : ∀ j (h : j < m.binds.length), ∀ w', Fr Nil W1 w' → Calls Tryd.prog 50 #[.agg (cs j).toArray] w' fun r w2 => r = .returned (.string ⟨(swB1 prF m.binds[j]).toArray⟩) ∧ Fr Nil w' w2 := fun j h w' f =>
    rbind_of ((hb2 j h).frN f) (rs_any _) (svB_mem hs.sv (List.getElem_mem h)) (by have := zB_mem (List.getElem_mem h); have := hs.z; omega)
  have H1 := Lib.hid (And.intro f1 (And.intro hm1 (And.intro hb1 (And.intro hform (And.intro hat (And.intro hnb (And.intro hnc hs)))))))
  clear b1 f1 hm1 hb1 hb2 hform hat hnb hnc hs hm
  obtain ⟨S0, hS0⟩ : ∃ S0, consT m.cons = S0 := ⟨_, rfl⟩
  have l0 : S0.length ≤ 504000002 := by
    rw [← hS0]
    by_cases h : m.cons = []
    · rw [h]; decide
    · rw [consT_ne h, List.length_append]
      have := H1.out.2.2.2.2.2.2.2.conL
      simp
      omega
  have HS0 := Lib.hid hS0
  have hloop : ∀ (wx : World), Fr Nil W1 wx → Hid True := fun _ _ => Lib.hid trivial
  clear hloop hS0
  go_enter Tryd.func20, Tryd.ntmps20
  have key : ∀ z : Nat, z = 0 → True := fun _ _ => trivial
  clear key
  by_cases hc0 : nc = 0
  · subst hc0
    have e0 : S0 = [] := by rw [← HS0.out, List.eq_nil_of_length_eq_zero H1.out.2.2.2.2.2.2.1]; rfl
    have HX := Lib.hid (Fr.refl Nil W1)
    go_wp2_with fail
    try rw [hT]
    try rw [hW1]
    clear hW1 hT z0 z1 zl
    obtain ⟨WX, hWX⟩ : ∃ W, W = W1 := ⟨_, rfl⟩
    have HFX : Hid (Fr Nil W1 WX) := Lib.hid (by rw [hWX]; exact Fr.refl _ _)
    clear HX
    rw [← hWX]
    clear hWX
    try rw [show (⟨#[]⟩ : ByteArray) = ⟨S0.toArray⟩ by rw [e0]]
    clear e0
    go_loopg [3, 5] nb (fun g sv iv wr => ∃ j : Nat, g = nb - j ∧ j ≤ nb ∧ sv = .string ⟨(S0 ++ bindsT prF (m.binds.take j)).toArray⟩ ∧ iv = .int .i64 (j : Int) ∧ Hid (Fr Nil W1 wr))
    case atStart => exact ⟨0, rfl, by omega, by rw [List.take_zero]; show _ = Value.string ⟨(S0 ++ []).toArray⟩; rw [List.append_nil], rfl, Lib.hid HFX.out⟩
    case round =>
      obtain ⟨j, rfl, hjn, rfl, rfl, HQ⟩ := hrel
      obtain ⟨Vr, hVr⟩ : ∃ V, V = wr := ⟨_, rfl⟩
      subst hVr
      obtain ⟨z0, z1⟩ := HK2.out Vr HQ.out
      have zl := World.block_lt_of_cell? _ _ z0
      have j0 : (0 : Int) ≤ (j : Int) := by omega
      by_cases hlt : j < nb
      · have hjl : j < m.binds.length := by rw [H1.out.2.2.2.2.2.1]; exact hlt
        have wk : IntKind.i64.wrap ((j : Int) + 1) = (j : Int) + 1 := by rw [IntKind.wrap_i64]; omega
        have j1 : (j : Int) < (nb : Int) := by omega
        obtain ⟨b2, off2, e2, _, hc⟩ := (H1.out.2.2.1.frN HQ.out).at hlt
        obtain ⟨xbn, xpa, xpn, xpc, xk, xnm, xfl, xbi, xa0, xn0, xc0, xa1, xn1, xc1, xa2, xn2, xc2, xa3, xn3, xc3, ec2⟩ := H1.out.2.2.2.1 j hjl
        have hat := H1.out.2.2.2.2.1 j hjl
        rw [ec2] at hc hat
        subst e2
        have x0 := hc 0 _ rfl
        have x1 := hc 1 _ rfl
        have x2 := hc 2 _ rfl
        have x3 := hc 3 _ rfl
        have x4 := hc 4 _ rfl
        have x5 := hc 5 _ rfl
        have x6 := hc 6 _ rfl
        have x7 := hc 7 _ rfl
        have x8 := hc 8 _ rfl
        have x9 := hc 9 _ rfl
        simp only [Nat.add_zero] at x0
        have hw := bindsT_take prF hjl
        have h1 := lenS_takeB hjl
        have h3 := H1.out.2.2.2.2.2.2.2.z
        obtain ⟨x, hx⟩ : ∃ x, swB1 prF m.binds[j] = x := ⟨_, rfl⟩
        rw [hx] at hw h1 hat
        obtain ⟨S, hS⟩ : ∃ x, S0 ++ bindsT prF (m.binds.take j) = x := ⟨_, rfl⟩
        have ls : S.length = S0.length + (bindsT prF (m.binds.take j)).length := by rw [← hS, List.length_append]
        obtain ⟨S2, hS2⟩ : ∃ y, S ++ x = y := ⟨_, rfl⟩
        have l2 : S2.length = S.length + x.length := by rw [← hS2, List.length_append]
        obtain ⟨S3, hS3⟩ : ∃ y, S0 ++ bindsT prF (m.binds.take (j + 1)) = y := ⟨_, rfl⟩
        have e3 : S3 = S2 ++ [59, 10] := by rw [← hS3, hw, ← hS2, ← hS]; simp
        rw [hS]
        have sa1 : ∀ w, (Op.stringOp .add ⟨S.toArray⟩ ⟨x.toArray⟩).run Tryd.prog w = .ok (.string ⟨S2.toArray⟩) w := fun w => by rw [← hS2]; exact sadd S x (by omega) w
        have sa2 : ∀ w, (Op.stringOp .add ⟨S2.toArray⟩ ⟨#[59, 10]⟩).run Tryd.prog w = .ok (.string ⟨S3.toArray⟩) w := fun w => by rw [e3]; exact sadd S2 [59, 10] (by simp; omega) w
        have HS := Lib.hid hS3
        have HA := Lib.hid hat
        clear hS3 hat hx hc ec2 hw h1 h3 hS ls hS2 l2 e3
        go_wp2_with fail
        refine (HA.out _ (by first | exact HQ.out | exact Fr.comp (S := Nil) HQ.out (by (repeat (first | (with_reducible exact Fr.refl _ _) | (with_reducible assumption) | (with_reducible exact Fr.of_nil (by assumption)) | (with_reducible refine Fr.drew ?_) | (with_reducible refine Fr.drewN ?_ _) | (with_reducible refine Fr.alloc ?_ _) | (with_reducible refine Fr.set ?_ _ _ (by first | (intros; omega) | (simp; done) | (simp; omega))) | (with_reducible refine Fr.via ?_ (by assumption)) | (with_reducible refine Fr.comp ?_ (by assumption))))))).mono ?_
        rintro r w2 ⟨rfl, f2⟩
        have HF : Hid (Fr Nil W1 w2) := Lib.hid (HQ.out.comp (Fr.comp (S := Nil) (by (repeat (first | (with_reducible exact Fr.refl _ _) | (with_reducible assumption) | (with_reducible exact Fr.of_nil (by assumption)) | (with_reducible refine Fr.drew ?_) | (with_reducible refine Fr.drewN ?_ _) | (with_reducible refine Fr.alloc ?_ _) | (with_reducible refine Fr.set ?_ _ _ (by first | (intros; omega) | (simp; done) | (simp; omega))) | (with_reducible refine Fr.via ?_ (by assumption)) | (with_reducible refine Fr.comp ?_ (by assumption))))) f2))
        clear f2
        go_wp2
        go_roundg (nb - (j + 1))
        case rel => exact ⟨j + 1, rfl, by omega, by rw [HS.out], rfl, Lib.hid HF.out⟩
        case measure => omega
      · have j1 : ¬ (j : Int) < (nb : Int) := by omega
        have e : S0 ++ bindsT prF (m.binds.take j) = swM prF m := by
          rw [List.take_of_length_le (by rw [H1.out.2.2.2.2.2.1]; omega), ← HS0.out]
          rfl
        rw [e]
        clear e
        go_wp2
        go_ret
        exact ⟨rfl, H1.out.1.comp HQ.out⟩
  · have c0 : (0 : Int) < (nc : Int) := by omega
    have c1 : 0 < nc := by omega
    have e0 : S0 = conR m.cons ++ [59, 10] := by
      rw [← HS0.out]
      exact consT_ne (fun z => hc0 (by rw [← H1.out.2.2.2.2.2.2.1, z]; rfl))
    have HE0 := Lib.hid e0
    clear e0
    go_wp2_with fail
    try rw [hT]
    try rw [hW1]
    clear hW1 hT z0 z1 zl
    go_loopg [3, 4] nc (fun g sv iv wr => ∃ j : Nat, g = nc - j ∧ j ≤ nc ∧ sv = .string ⟨(conR (m.cons.take j)).toArray⟩ ∧ iv = .int .i64 (j : Int) ∧ Hid (Fr Nil W1 wr))
    case atStart => exact ⟨0, rfl, by omega, by rw [List.take_zero]; rfl, rfl, Lib.hid (Fr.refl _ _)⟩
    case round =>
      obtain ⟨j, rfl, hjn, rfl, rfl, HQ⟩ := hrel
      obtain ⟨Vr, hVr⟩ : ∃ V, V = wr := ⟨_, rfl⟩
      subst hVr
      obtain ⟨z0, z1⟩ := HK2.out Vr HQ.out
      have zl := World.block_lt_of_cell? _ _ z0
      have j0 : (0 : Int) ≤ (j : Int) := by omega
      by_cases hlt : j < nc
      · have hjl : j < m.cons.length := by rw [H1.out.2.2.2.2.2.2.1]; exact hlt
        have wk : IntKind.i64.wrap ((j : Int) + 1) = (j : Int) + 1 := by rw [IntKind.wrap_i64]; omega
        have j1 : (j : Int) < (nc : Int) := by omega
        obtain ⟨b2, off2, e2, _, _, _⟩ := DeclsAt.cell H1.out.2.1.1 j hjl
        have hce : ∀ w', Fr Nil W1 w' → w'.cell? ⟨b2, off2 + j * 2, none⟩ = some (.string ⟨m.cons[j].1.toArray⟩) ∧ w'.cell? ⟨b2, off2 + j * 2 + 1, none⟩ = some (.int .i64 (m.cons[j].2 : Int)) := fun w' f => by
          obtain ⟨b3, off3, e3, _, p0, p1⟩ := DeclsAt.cell (RowC.fr H1.out.2.1.1 f (fun _ q => q)) j hjl
          rw [e2] at e3
          injection e3 with e3
          injection e3 with e3 e4
          subst e3 e4
          exact ⟨p0, p1⟩
        subst e2
        obtain ⟨q1, q2, q3⟩ := H1.out.2.2.2.2.2.2.2.conR_at hjl
        have har := H1.out.2.2.2.2.2.2.2.ar _ (List.getElem_mem hjl)
        have hst := conR_take hjl
        obtain ⟨x, hx⟩ : ∃ x, m.cons[j].1 = x := ⟨_, rfl⟩
        obtain ⟨ar, hara⟩ : ∃ x, m.cons[j].2 = x := ⟨_, rfl⟩
        obtain ⟨S, hS⟩ : ∃ x, conR (m.cons.take j) = x := ⟨_, rfl⟩
        obtain ⟨R, hR⟩ : ∃ x, conR (m.cons.take (j + 1)) = x := ⟨_, rfl⟩
        obtain ⟨d, hd⟩ : ∃ x, Lib.decDigits ar = x := ⟨_, rfl⟩
        rw [hx, hara, hS, hR, hd] at hst
        rw [hx] at q2
        rw [hara, hd] at q3
        rw [hara] at har
        rw [hS] at q1 ⊢
        simp only [hx, hara] at hce
        have hdg : ∀ w, Calls Tryd.prog 56 #[.int .u64 (ar : Int), .int .u64 10] w fun e w' => e = .returned (.string ⟨d.toArray⟩) ∧ Fr Nil w w' := fun w => by
          have h := rdigits10 ar w (by omega)
          rw [digL10, hd] at h
          exact h
        have wc : IntKind.u64.wrap (ar : Int) = (ar : Int) := by rw [IntKind.wrap_u64]; omega
        obtain ⟨S1, hS1⟩ : ∃ x, S ++ [32] = x := ⟨_, rfl⟩
        have l1 : S1.length = S.length + 1 := by rw [← hS1]; simp
        have sa1 : ∀ w, (Op.stringOp .add ⟨S.toArray⟩ ⟨#[32]⟩).run Tryd.prog w = .ok (.string ⟨S1.toArray⟩) w := fun w => by rw [← hS1]; exact sadd S [32] (by simp; omega) w
        obtain ⟨S2, hS2⟩ : ∃ y, S1 ++ x = y := ⟨_, rfl⟩
        have l2 : S2.length = S1.length + x.length := by rw [← hS2, List.length_append]
        have sa2 : ∀ w, (Op.stringOp .add ⟨S1.toArray⟩ ⟨x.toArray⟩).run Tryd.prog w = .ok (.string ⟨S2.toArray⟩) w := fun w => by rw [← hS2]; exact sadd S1 x (by omega) w
        obtain ⟨S3, hS3⟩ : ∃ y, S2 ++ [32] = y := ⟨_, rfl⟩
        have l3 : S3.length = S2.length + 1 := by rw [← hS3]; simp
        have sa3 : ∀ w, (Op.stringOp .add ⟨S2.toArray⟩ ⟨#[32]⟩).run Tryd.prog w = .ok (.string ⟨S3.toArray⟩) w := fun w => by rw [← hS3]; exact sadd S2 [32] (by simp; omega) w
        have e3 : R = S3 ++ d := by rw [hst, ← hS3, ← hS2, ← hS1]
        have sa4 : ∀ w, (Op.stringOp .add ⟨S3.toArray⟩ ⟨d.toArray⟩).run Tryd.prog w = .ok (.string ⟨R.toArray⟩) w := fun w => by rw [e3]; exact sadd S3 d (by omega) w
        have HRR := Lib.hid hR
        have HDG := Lib.hid hdg
        have HK3 : Hid (∀ w', Fr Nil W1 w' → (w'.cell? ⟨T, 0, none⟩ = some (.slice (some ⟨b2, off2, none⟩) nc cc) ∧ w'.cell? ⟨T, 1, none⟩ = some (.slice ba nb bc)) ∧ w'.cell? ⟨b2, off2 + j * 2, none⟩ = some (.string ⟨x.toArray⟩) ∧ w'.cell? ⟨b2, off2 + j * 2 + 1, none⟩ = some (.int .i64 (ar : Int))) := Lib.hid (fun w' f => ⟨HK2.out w' f, hce w' f⟩)
        have hcv := hce Vr HQ.out
        have dl := World.block_lt_of_cell? _ _ hcv.1
        clear hR hdg hce hst q1 q2 q3 hx hara hS hd hS1 l1 hS2 l2 hS3 l3 e3
        obtain ⟨y0, y1⟩ := hcv
        go_upto_region 7 with fail
        have hS0 := HK3.out Vr HQ.out
        go_region_held3 (fun w' => (w'.cell? ⟨T, 0, none⟩ = some (.slice (some ⟨b2, off2, none⟩) nc cc) ∧ w'.cell? ⟨T, 1, none⟩ = some (.slice ba nb bc)) ∧ w'.cell? ⟨b2, off2 + j * 2, none⟩ = some (.string ⟨x.toArray⟩) ∧ w'.cell? ⟨b2, off2 + j * 2 + 1, none⟩ = some (.int .i64 (ar : Int))) (with_reducible refine HK3.out _ ?_; (first | exact HQ.out | exact HQ.out.comp (by first | assumption | (repeat (first | (with_reducible exact Fr.refl _ _) | (with_reducible assumption) | (with_reducible exact Fr.of_nil (by assumption)) | (with_reducible refine Fr.drew ?_) | (with_reducible refine Fr.drewN ?_ _) | (with_reducible refine Fr.alloc ?_ _) | (with_reducible refine Fr.set ?_ _ _ (by first | (intros; omega) | (simp; done) | (simp; omega))) | (with_reducible refine Fr.via ?_ (by assumption)) | (with_reducible refine Fr.comp ?_ (by assumption))))))) (first
          | (go_at_call 56; refine (HDG.out _).mono ?_; rintro r w2 ⟨rfl, f2⟩; have g2 : Fr Nil Vr w2 := Fr.comp (S := Nil) (by first | assumption | (repeat (first | (with_reducible exact Fr.refl _ _) | (with_reducible assumption) | (with_reducible exact Fr.of_nil (by assumption)) | (with_reducible refine Fr.drew ?_) | (with_reducible refine Fr.drewN ?_ _) | (with_reducible refine Fr.alloc ?_ _) | (with_reducible refine Fr.set ?_ _ _ (by first | (intros; omega) | (simp; done) | (simp; omega))) | (with_reducible refine Fr.via ?_ (by assumption)) | (with_reducible refine Fr.comp ?_ (by assumption))))) f2; clear f2))
        all_goals
          go_wp2
          go_roundg (nc - (j + 1))
          case rel => exact ⟨j + 1, rfl, by omega, by rw [HRR.out], rfl, Lib.hid (HQ.out.comp (by first | assumption | (repeat (first | (with_reducible exact Fr.refl _ _) | (with_reducible assumption) | (with_reducible exact Fr.of_nil (by assumption)) | (with_reducible refine Fr.drew ?_) | (with_reducible refine Fr.drewN ?_ _) | (with_reducible refine Fr.alloc ?_ _) | (with_reducible refine Fr.set ?_ _ _ (by first | (intros; omega) | (simp; done) | (simp; omega))) | (with_reducible refine Fr.via ?_ (by assumption)) | (with_reducible refine Fr.comp ?_ (by assumption))))))⟩
          case measure => omega
      · have j1 : ¬ (j : Int) < (nc : Int) := by omega
        have ej : m.cons.take j = m.cons := List.take_of_length_le (by rw [H1.out.2.2.2.2.2.2.1]; omega)
        rw [ej]
        have lc := H1.out.2.2.2.2.2.2.2.conL
        have sa1 : ∀ w, (Op.stringOp .add ⟨(conR m.cons).toArray⟩ ⟨#[59, 10]⟩).run Tryd.prog w = .ok (.string ⟨S0.toArray⟩) w := fun w => by rw [HE0.out]; exact sadd _ [59, 10] (by simp; omega) w
        clear ej lc
        go_wp2_with fail
        obtain ⟨WX, hWX⟩ : ∃ W, W = Vr := ⟨_, rfl⟩
        have HFX : Hid (Fr Nil W1 WX) := Lib.hid (by rw [hWX]; exact HQ.out)
        clear HQ z0 z1 zl
        subst hWX
        go_loopg [3, 5] nb (fun g sv iv wr => ∃ j : Nat, g = nb - j ∧ j ≤ nb ∧ sv = .string ⟨(S0 ++ bindsT prF (m.binds.take j)).toArray⟩ ∧ iv = .int .i64 (j : Int) ∧ Hid (Fr Nil W1 wr))
        case atStart => exact ⟨0, rfl, by omega, by rw [List.take_zero]; show _ = Value.string ⟨(S0 ++ []).toArray⟩; rw [List.append_nil], rfl, Lib.hid HFX.out⟩
        case round =>
          obtain ⟨j, rfl, hjn, rfl, rfl, HQ⟩ := hrel
          obtain ⟨Vr, hVr⟩ : ∃ V, V = wr := ⟨_, rfl⟩
          subst hVr
          obtain ⟨z0, z1⟩ := HK2.out Vr HQ.out
          have zl := World.block_lt_of_cell? _ _ z0
          have j0 : (0 : Int) ≤ (j : Int) := by omega
          by_cases hlt : j < nb
          · have hjl : j < m.binds.length := by rw [H1.out.2.2.2.2.2.1]; exact hlt
            have wk : IntKind.i64.wrap ((j : Int) + 1) = (j : Int) + 1 := by rw [IntKind.wrap_i64]; omega
            have j1 : (j : Int) < (nb : Int) := by omega
            obtain ⟨b2, off2, e2, _, hc⟩ := (H1.out.2.2.1.frN HQ.out).at hlt
            obtain ⟨xbn, xpa, xpn, xpc, xk, xnm, xfl, xbi, xa0, xn0, xc0, xa1, xn1, xc1, xa2, xn2, xc2, xa3, xn3, xc3, ec2⟩ := H1.out.2.2.2.1 j hjl
            have hat := H1.out.2.2.2.2.1 j hjl
            rw [ec2] at hc hat
            subst e2
            have x0 := hc 0 _ rfl
            have x1 := hc 1 _ rfl
            have x2 := hc 2 _ rfl
            have x3 := hc 3 _ rfl
            have x4 := hc 4 _ rfl
            have x5 := hc 5 _ rfl
            have x6 := hc 6 _ rfl
            have x7 := hc 7 _ rfl
            have x8 := hc 8 _ rfl
            have x9 := hc 9 _ rfl
            simp only [Nat.add_zero] at x0
            have hw := bindsT_take prF hjl
            have h1 := lenS_takeB hjl
            have h3 := H1.out.2.2.2.2.2.2.2.z
            obtain ⟨x, hx⟩ : ∃ x, swB1 prF m.binds[j] = x := ⟨_, rfl⟩
            rw [hx] at hw h1 hat
            obtain ⟨S, hS⟩ : ∃ x, S0 ++ bindsT prF (m.binds.take j) = x := ⟨_, rfl⟩
            have ls : S.length = S0.length + (bindsT prF (m.binds.take j)).length := by rw [← hS, List.length_append]
            obtain ⟨S2, hS2⟩ : ∃ y, S ++ x = y := ⟨_, rfl⟩
            have l2 : S2.length = S.length + x.length := by rw [← hS2, List.length_append]
            obtain ⟨S3, hS3⟩ : ∃ y, S0 ++ bindsT prF (m.binds.take (j + 1)) = y := ⟨_, rfl⟩
            have e3 : S3 = S2 ++ [59, 10] := by rw [← hS3, hw, ← hS2, ← hS]; simp
            rw [hS]
            have sa1 : ∀ w, (Op.stringOp .add ⟨S.toArray⟩ ⟨x.toArray⟩).run Tryd.prog w = .ok (.string ⟨S2.toArray⟩) w := fun w => by rw [← hS2]; exact sadd S x (by omega) w
            have sa2 : ∀ w, (Op.stringOp .add ⟨S2.toArray⟩ ⟨#[59, 10]⟩).run Tryd.prog w = .ok (.string ⟨S3.toArray⟩) w := fun w => by rw [e3]; exact sadd S2 [59, 10] (by simp; omega) w
            have HS := Lib.hid hS3
            have HA := Lib.hid hat
            clear hS3 hat hx hc ec2 hw h1 h3 hS ls hS2 l2 e3
            go_wp2_with fail
            refine (HA.out _ (by first | exact HQ.out | exact Fr.comp (S := Nil) HQ.out (by (repeat (first | (with_reducible exact Fr.refl _ _) | (with_reducible assumption) | (with_reducible exact Fr.of_nil (by assumption)) | (with_reducible refine Fr.drew ?_) | (with_reducible refine Fr.drewN ?_ _) | (with_reducible refine Fr.alloc ?_ _) | (with_reducible refine Fr.set ?_ _ _ (by first | (intros; omega) | (simp; done) | (simp; omega))) | (with_reducible refine Fr.via ?_ (by assumption)) | (with_reducible refine Fr.comp ?_ (by assumption))))))).mono ?_
            rintro r w2 ⟨rfl, f2⟩
            have HF : Hid (Fr Nil W1 w2) := Lib.hid (HQ.out.comp (Fr.comp (S := Nil) (by (repeat (first | (with_reducible exact Fr.refl _ _) | (with_reducible assumption) | (with_reducible exact Fr.of_nil (by assumption)) | (with_reducible refine Fr.drew ?_) | (with_reducible refine Fr.drewN ?_ _) | (with_reducible refine Fr.alloc ?_ _) | (with_reducible refine Fr.set ?_ _ _ (by first | (intros; omega) | (simp; done) | (simp; omega))) | (with_reducible refine Fr.via ?_ (by assumption)) | (with_reducible refine Fr.comp ?_ (by assumption))))) f2))
            clear f2
            go_wp2
            go_roundg (nb - (j + 1))
            case rel => exact ⟨j + 1, rfl, by omega, by rw [HS.out], rfl, Lib.hid HF.out⟩
            case measure => omega
          · have j1 : ¬ (j : Int) < (nb : Int) := by omega
            have e : S0 ++ bindsT prF (m.binds.take j) = swM prF m := by
              rw [List.take_of_length_le (by rw [H1.out.2.2.2.2.2.1]; omega), ← HS0.out]
              rfl
            rw [e]
            clear e
            go_wp2
            go_ret
            exact ⟨rfl, H1.out.1.comp HQ.out⟩
end
end Go.Proofs.YtpjlibbdngnnnaaDoor
