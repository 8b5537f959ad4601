/-
  The program's show (layer 9): words joined; numbers. Conditions: the tables that Go's library reads.
  The program's show (layer 9): atoms, given the text of what lies within. No conditions.
  The program's show (layer 9): the kids' atoms, given the texts of what lies within. Conditions: the tables that Go's library reads.
-/
import Derived.Test.YtpjlibbdngnnnaaDoorRsA
import Derived.Test.YtpjlibbdngnnnaaDoorPrR
namespace Go.Proofs.YtpjlibbdngnnnaaDoor
set_option linter.unusedSimpArgs false
set_option linter.unusedVariables false
open Go.RowKit

set_option maxRecDepth 100000 in
theorem pjoin_any {w : World} {a : Option Addr} {n c : Nat} {l : List (List UInt8)} (hr : RowS (fun _ => False) w (.slice a n c) l) (hn : l.length = n) (hl : lenS l ≤ 100000000000) :
    Calls Tryd.prog 77 #[.slice a n c] w fun r w' => r = .returned (.string ⟨(joinS l).toArray⟩) ∧ Fr Nil w w' := by
  have hlen := joinS_le l
  rcases Nat.eq_zero_or_pos n with h0 | h0
  · subst h0
    obtain rfl : l = [] := List.eq_nil_of_length_eq_zero hn
    clear hr hlen hl
    go_enter Tryd.func77, Tryd.ntmps77
    go_wp2_with fail
    refine (Tryd.strings_Join_none _ _ _ _).mono ?_
    rintro r w2 ⟨rfl, rfl⟩
    go_wp2
    go_ret
    exact ⟨rfl, Fr.refl _ _⟩
  · obtain ⟨b, off, rfl, _, hc0⟩ := RowS.cell hr 0 (by omega)
    have hcells : ∀ (j : Nat) x, (l.map (fun x => (⟨x.toArray⟩ : ByteArray)))[j]? = some x → w.cell? ⟨b, off + j, none⟩ = some (.string x) := fun j x hx => by
      obtain ⟨hj, e⟩ := List.getElem?_eq_some_iff.1 hx
      have hj' : j < l.length := by simpa using hj
      obtain ⟨b', off', e', _, hc⟩ := RowS.cell hr j hj'
      cases e'
      rw [← e, List.getElem_map]
      exact hc
    have hcap : n ≤ c := by
      obtain ⟨_, _, e9, h9, _, _⟩ := hr
      cases e9
      exact hn ▸ h9
    have hll : n ≤ 100000000000 := by
      have h1 : ∀ l : List (List UInt8), l.length ≤ lenS l := fun l => by
        induction l with
        | nil => exact Nat.le_refl _
        | cons x l ih => rw [lenS_cons, List.length_cons]; omega
      have := h1 l
      omega
    have hmap : (l.map (fun x => (⟨x.toArray⟩ : ByteArray))).map (·.data.toList) = l := by
      rw [List.map_map]
      conv => rhs; rw [← List.map_id l]
      exact List.map_congr_left (fun x _ => by simp)
    have h := Tryd.strings_Join b off c (l.map (fun x => (⟨x.toArray⟩ : ByteArray))) ⟨#[32]⟩ w hcells (World.block_lt_of_cell? _ _ hc0) (by rw [List.length_map]; omega) (by rw [List.length_map]; omega) (by rw [hmap]; show (joinS l).length ≤ _; omega)
    rw [hmap, List.length_map, hn] at h
    have HJ := Lib.hid h
    clear h hmap hcells hc0 hr hlen
    go_enter Tryd.func77, Tryd.ntmps77
    go_wp2_with fail
    refine HJ.out.mono ?_
    rintro r w2 ⟨rfl, bw⟩
    have HF := Lib.hid (Fr.ofBelow bw)
    clear bw
    go_wp2
    go_ret
    exact ⟨rfl, HF.out⟩
theorem prF_cons (fl : Bool) (b : Nat) : ∃ c r, prF fl b = c :: r := by
  have hd : ∀ n, Lib.decDigits n ≠ [] := fun n => by
    rw [Lib.decDigits]
    split <;> simp
  have h : prF fl b ≠ [] := by
    cases fl with
    | true => unfold prF printF; simp
    | false =>
      rw [prF_int]
      unfold Lib.itoa
      split
      · simp
      · exact hd _
  cases hp : prF fl b with
  | nil => exact absurd hp h
  | cons c r => exact ⟨c, r, rfl⟩
theorem print_any (fl : Bool) (b : Nat) (hb : b < 18446744073709551616) (w : World) (hT : Tabs w) :
    Calls Tryd.prog 85 #[.agg #[.bool fl, .int .u64 (b : Int)]] w fun r w' => r = .returned (.string ⟨(prF fl b).toArray⟩) ∧ Fr Nil w w' := by
  cases fl with
  | true => rw [prF_flt hb]; exact print_flt b w hb hT
  | false => rw [prF_int]; exact print_int (b : Int) w hT
set_option maxRecDepth 100000 in
theorem pnum_any (fl : Bool) (b : Nat) (hb : b < 18446744073709551616) (w : World) (hT : Tabs w) :
    Calls Tryd.prog 53 #[.agg #[.bool fl, .int .u64 (b : Int)]] w fun r w' => r = .returned (.string ⟨(numT (prF fl b)).toArray⟩) ∧ Fr Nil w w' := by
  have hlen := prF_len fl b
  have hp : ∀ w', Fr Nil w w' → Calls Tryd.prog 85 #[.agg #[.bool fl, .int .u64 (b : Int)]] w' fun r w2 => r = .returned (.string ⟨(prF fl b).toArray⟩) ∧ Fr Nil w' w2 := fun w' f => print_any fl b hb w' (hT.fr f)
  obtain ⟨c, r, hc⟩ := prF_cons fl b
  rw [hc] at hp hlen ⊢
  have HP := Lib.hid hp
  have hix : ∀ h, (⟨(c :: r).toArray⟩ : ByteArray)[0]'h = c := fun _ => rfl
  clear hp hc hb hT
  by_cases h45 : c = 45
  · subst h45
    have e : numT (45 :: r) = 35 :: 45 :: r := if_pos rfl
    rw [e]
    have sa : ∀ w, (Op.stringOp .add ⟨#[35]⟩ ⟨((45 : UInt8) :: r).toArray⟩).run Tryd.prog w = .ok (.string ⟨((35 : UInt8) :: 45 :: r).toArray⟩) w := fun w => sadd [35] (45 :: r) (by simp at hlen ⊢; omega) w
    clear e hlen
    go_enter Tryd.func53, Tryd.ntmps53
    go_wp2_with fail
    refine (HP.out _ (by (repeat (first | (with_reducible exact Fr.refl _ _) | (with_reducible assumption) | (with_reducible exact Fr.of_nil (by assumption)) | (with_reducible refine Fr.drew ?_) | (with_reducible refine Fr.drewN ?_ _) | (with_reducible refine Fr.alloc ?_ _) | (with_reducible refine Fr.set ?_ _ _ (by first | (intros; omega) | (simp; done) | (simp; omega))) | (with_reducible refine Fr.via ?_ (by assumption)) | (with_reducible refine Fr.comp ?_ (by assumption)))))).mono ?_
    rintro x w2 ⟨rfl, f2⟩
    have HF : Hid (Fr Nil w w2) := Lib.hid (Fr.comp (S := Nil) (by (repeat (first | (with_reducible exact Fr.refl _ _) | (with_reducible assumption) | (with_reducible exact Fr.of_nil (by assumption)) | (with_reducible refine Fr.drew ?_) | (with_reducible refine Fr.drewN ?_ _) | (with_reducible refine Fr.alloc ?_ _) | (with_reducible refine Fr.set ?_ _ _ (by first | (intros; omega) | (simp; done) | (simp; omega))) | (with_reducible refine Fr.via ?_ (by assumption)) | (with_reducible refine Fr.comp ?_ (by assumption))))) f2)
    clear f2
    go_wp2
    go_ret
    exact ⟨rfl, HF.out⟩
  · have e : numT (c :: r) = c :: r := if_neg (fun z => h45 (by simpa using z))
    rw [e]
    have hc2 : ¬ c.toNat = 45 := fun z => h45 (UInt8.toNat_inj.1 z)
    have d1 : ((c.toNat : Int) == 45) = false := by rw [beq_eq_false_iff_ne]; omega
    have d2 : ¬ (c.toNat : Int) = 45 := by omega
    clear e hlen h45 hc2
    go_enter Tryd.func53, Tryd.ntmps53
    go_wp2_with fail
    refine (HP.out _ (by (repeat (first | (with_reducible exact Fr.refl _ _) | (with_reducible assumption) | (with_reducible exact Fr.of_nil (by assumption)) | (with_reducible refine Fr.drew ?_) | (with_reducible refine Fr.drewN ?_ _) | (with_reducible refine Fr.alloc ?_ _) | (with_reducible refine Fr.set ?_ _ _ (by first | (intros; omega) | (simp; done) | (simp; omega))) | (with_reducible refine Fr.via ?_ (by assumption)) | (with_reducible refine Fr.comp ?_ (by assumption)))))).mono ?_
    rintro x w2 ⟨rfl, f2⟩
    have HF : Hid (Fr Nil w w2) := Lib.hid (Fr.comp (S := Nil) (by (repeat (first | (with_reducible exact Fr.refl _ _) | (with_reducible assumption) | (with_reducible exact Fr.of_nil (by assumption)) | (with_reducible refine Fr.drew ?_) | (with_reducible refine Fr.drewN ?_ _) | (with_reducible refine Fr.alloc ?_ _) | (with_reducible refine Fr.set ?_ _ _ (by first | (intros; omega) | (simp; done) | (simp; omega))) | (with_reducible refine Fr.via ?_ (by assumption)) | (with_reducible refine Fr.comp ?_ (by assumption))))) f2)
    clear f2
    go_wp2
    go_ret
    exact ⟨rfl, HF.out⟩
end Go.Proofs.YtpjlibbdngnnnaaDoor

namespace Go.Proofs.YtpjlibbdngnnnaaDoor
set_option linter.unusedSimpArgs false
set_option linter.unusedVariables false
open Go.RowKit

set_option maxRecDepth 100000 in
/-- An expression's text as an atom, given its text. -/
theorem patom_any {w : World} {cs : List Value} {e : TE} {t : List UInt8} (h : EAt (fun _ => False) w cs e) (hl : t.length ≤ 100000000000)
    (hE : ∀ w', Fr Nil w w' → Calls Tryd.prog 17 #[.agg cs.toArray] w' fun r w2 => r = .returned (.string ⟨t.toArray⟩) ∧ Fr Nil w' w2) :
    Calls Tryd.prog 113 #[.agg cs.toArray] w fun r w' => r = .returned (.string ⟨(atomF e t).toArray⟩) ∧ Fr Nil w w' := by
  obtain ⟨k, nm, fl, bi, ps, ks, bs, al⟩ := e
  obtain ⟨a0, c0, a1, c1, a2, c2, a3, c3, kc, bc, ac, rfl, _, hk, _, _, _, _, _⟩ := h.opened
  obtain ⟨nk, hnk⟩ : ∃ nk, ks.length = nk := ⟨_, rfl⟩
  obtain ⟨nb, hnb⟩ : ∃ nb, bs.length = nb := ⟨_, rfl⟩
  obtain ⟨na, hna⟩ : ∃ na, al.length = na := ⟨_, rfl⟩
  obtain ⟨np, hnp⟩ : ∃ np, ps.length = np := ⟨_, rfl⟩
  have hk9 : nk ≤ 9223372036854775807 := by rw [← hnk]; exact hk.lenX
  rw [hnk, hnb, hna, hnp] at hE
  rw [hnk, hnb, hna, hnp]
  have HE := Lib.hid hE
  have he : ks.isEmpty = decide (nk = 0) := by
    cases ks with
    | nil => rw [← hnk]; rfl
    | cons x l => rw [← hnk]; simp
  clear hE hnb hna hnp h hk
  have sa1 : ∀ w, (Op.stringOp .add ⟨#[40]⟩ ⟨t.toArray⟩).run Tryd.prog w = .ok (.string ⟨((40 : UInt8) :: t).toArray⟩) w := fun w => sadd [40] t (by simp; omega) w
  obtain ⟨S1, hS1⟩ : ∃ S1, (40 : UInt8) :: t = S1 := ⟨_, rfl⟩
  rw [hS1] at sa1
  have l1 : S1.length = t.length + 1 := by rw [← hS1]; simp
  obtain ⟨S2, hS2⟩ : ∃ S2, parF t = S2 := ⟨_, rfl⟩
  have sa2 : ∀ w, (Op.stringOp .add ⟨S1.toArray⟩ ⟨#[41]⟩).run Tryd.prog w = .ok (.string ⟨S2.toArray⟩) w := fun w => by
    have e : S2 = S1 ++ [41] := by rw [← hS2, ← hS1]; rfl
    rw [e]
    exact sadd S1 [41] (by simp; omega) w
  have HA : Hid (atomF (.mk k nm fl bi ps ks bs al) t = if decide (k = 1) || decide (k = 3) || (decide (nk = 0) && (decide (k = 2) || decide (k = 5))) then t else S2) := Lib.hid (by
    show (if (decide (k = 1) || decide (k = 3) || (ks.isEmpty && (decide (k = 2) || decide (k = 5)))) = true then t else parF t) = _
    rw [he, hS2])
  clear hS1 l1 hS2 he hl
  have n0 : (0 : Int) ≤ (nk : Int) := by omega
  obtain ⟨k', hk'⟩ : ∃ k' : Int, (k : Int) = k' := ⟨_, rfl⟩
  clear hk'
  by_cases k1 : k = 1
  · subst k1
    go_enter Tryd.func113, Tryd.ntmps113
    go_wp2_with fail
    refine (HE.out _ (by (repeat (first | (with_reducible exact Fr.refl _ _) | (with_reducible assumption) | (with_reducible exact Fr.of_nil (by assumption)) | (with_reducible refine Fr.drew ?_) | (with_reducible refine Fr.drewN ?_ _) | (with_reducible refine Fr.alloc ?_ _) | (with_reducible refine Fr.set ?_ _ _ (by first | (intros; omega) | (simp; done) | (simp; omega))) | (with_reducible refine Fr.via ?_ (by assumption)) | (with_reducible refine Fr.comp ?_ (by assumption)))))).mono ?_
    rintro e w2 ⟨rfl, f2⟩
    have HF : Hid (Fr Nil w w2) := Lib.hid (Fr.comp (S := Nil) (by (repeat (first | (with_reducible exact Fr.refl _ _) | (with_reducible assumption) | (with_reducible exact Fr.of_nil (by assumption)) | (with_reducible refine Fr.drew ?_) | (with_reducible refine Fr.drewN ?_ _) | (with_reducible refine Fr.alloc ?_ _) | (with_reducible refine Fr.set ?_ _ _ (by first | (intros; omega) | (simp; done) | (simp; omega))) | (with_reducible refine Fr.via ?_ (by assumption)) | (with_reducible refine Fr.comp ?_ (by assumption))))) f2)
    clear f2
    go_wp2
    go_ret
    exact ⟨by rw [HA.out]; rfl, HF.out⟩
  by_cases k3 : k = 3
  · subst k3
    go_enter Tryd.func113, Tryd.ntmps113
    go_wp2_with fail
    refine (HE.out _ (by (repeat (first | (with_reducible exact Fr.refl _ _) | (with_reducible assumption) | (with_reducible exact Fr.of_nil (by assumption)) | (with_reducible refine Fr.drew ?_) | (with_reducible refine Fr.drewN ?_ _) | (with_reducible refine Fr.alloc ?_ _) | (with_reducible refine Fr.set ?_ _ _ (by first | (intros; omega) | (simp; done) | (simp; omega))) | (with_reducible refine Fr.via ?_ (by assumption)) | (with_reducible refine Fr.comp ?_ (by assumption)))))).mono ?_
    rintro e w2 ⟨rfl, f2⟩
    have HF : Hid (Fr Nil w w2) := Lib.hid (Fr.comp (S := Nil) (by (repeat (first | (with_reducible exact Fr.refl _ _) | (with_reducible assumption) | (with_reducible exact Fr.of_nil (by assumption)) | (with_reducible refine Fr.drew ?_) | (with_reducible refine Fr.drewN ?_ _) | (with_reducible refine Fr.alloc ?_ _) | (with_reducible refine Fr.set ?_ _ _ (by first | (intros; omega) | (simp; done) | (simp; omega))) | (with_reducible refine Fr.via ?_ (by assumption)) | (with_reducible refine Fr.comp ?_ (by assumption))))) f2)
    clear f2
    go_wp2
    go_ret
    exact ⟨by rw [HA.out]; rfl, HF.out⟩
  by_cases k2 : k = 2
  · subst k2
    by_cases z : nk = 0
    · subst z
      go_enter Tryd.func113, Tryd.ntmps113
      go_wp2_with fail
      refine (HE.out _ (by (repeat (first | (with_reducible exact Fr.refl _ _) | (with_reducible assumption) | (with_reducible exact Fr.of_nil (by assumption)) | (with_reducible refine Fr.drew ?_) | (with_reducible refine Fr.drewN ?_ _) | (with_reducible refine Fr.alloc ?_ _) | (with_reducible refine Fr.set ?_ _ _ (by first | (intros; omega) | (simp; done) | (simp; omega))) | (with_reducible refine Fr.via ?_ (by assumption)) | (with_reducible refine Fr.comp ?_ (by assumption)))))).mono ?_
      rintro e w2 ⟨rfl, f2⟩
      have HF : Hid (Fr Nil w w2) := Lib.hid (Fr.comp (S := Nil) (by (repeat (first | (with_reducible exact Fr.refl _ _) | (with_reducible assumption) | (with_reducible exact Fr.of_nil (by assumption)) | (with_reducible refine Fr.drew ?_) | (with_reducible refine Fr.drewN ?_ _) | (with_reducible refine Fr.alloc ?_ _) | (with_reducible refine Fr.set ?_ _ _ (by first | (intros; omega) | (simp; done) | (simp; omega))) | (with_reducible refine Fr.via ?_ (by assumption)) | (with_reducible refine Fr.comp ?_ (by assumption))))) f2)
      clear f2
      go_wp2
      go_ret
      exact ⟨by rw [HA.out]; rfl, HF.out⟩
    · have d0 : ((nk : Int) == 0) = false := by rw [beq_eq_false_iff_ne]; omega
      have z0 : ¬ (nk : Int) = 0 := by omega
      go_enter Tryd.func113, Tryd.ntmps113
      go_wp2_with fail
      refine (HE.out _ (by (repeat (first | (with_reducible exact Fr.refl _ _) | (with_reducible assumption) | (with_reducible exact Fr.of_nil (by assumption)) | (with_reducible refine Fr.drew ?_) | (with_reducible refine Fr.drewN ?_ _) | (with_reducible refine Fr.alloc ?_ _) | (with_reducible refine Fr.set ?_ _ _ (by first | (intros; omega) | (simp; done) | (simp; omega))) | (with_reducible refine Fr.via ?_ (by assumption)) | (with_reducible refine Fr.comp ?_ (by assumption)))))).mono ?_
      rintro e w2 ⟨rfl, f2⟩
      have HF : Hid (Fr Nil w w2) := Lib.hid (Fr.comp (S := Nil) (by (repeat (first | (with_reducible exact Fr.refl _ _) | (with_reducible assumption) | (with_reducible exact Fr.of_nil (by assumption)) | (with_reducible refine Fr.drew ?_) | (with_reducible refine Fr.drewN ?_ _) | (with_reducible refine Fr.alloc ?_ _) | (with_reducible refine Fr.set ?_ _ _ (by first | (intros; omega) | (simp; done) | (simp; omega))) | (with_reducible refine Fr.via ?_ (by assumption)) | (with_reducible refine Fr.comp ?_ (by assumption))))) f2)
      clear f2
      go_wp2
      go_ret
      exact ⟨by rw [HA.out]; rw [show decide (nk = 0) = false from decide_eq_false z]; rfl, HF.out⟩
  by_cases k5 : k = 5
  · subst k5
    by_cases z : nk = 0
    · subst z
      go_enter Tryd.func113, Tryd.ntmps113
      go_wp2_with fail
      refine (HE.out _ (by (repeat (first | (with_reducible exact Fr.refl _ _) | (with_reducible assumption) | (with_reducible exact Fr.of_nil (by assumption)) | (with_reducible refine Fr.drew ?_) | (with_reducible refine Fr.drewN ?_ _) | (with_reducible refine Fr.alloc ?_ _) | (with_reducible refine Fr.set ?_ _ _ (by first | (intros; omega) | (simp; done) | (simp; omega))) | (with_reducible refine Fr.via ?_ (by assumption)) | (with_reducible refine Fr.comp ?_ (by assumption)))))).mono ?_
      rintro e w2 ⟨rfl, f2⟩
      have HF : Hid (Fr Nil w w2) := Lib.hid (Fr.comp (S := Nil) (by (repeat (first | (with_reducible exact Fr.refl _ _) | (with_reducible assumption) | (with_reducible exact Fr.of_nil (by assumption)) | (with_reducible refine Fr.drew ?_) | (with_reducible refine Fr.drewN ?_ _) | (with_reducible refine Fr.alloc ?_ _) | (with_reducible refine Fr.set ?_ _ _ (by first | (intros; omega) | (simp; done) | (simp; omega))) | (with_reducible refine Fr.via ?_ (by assumption)) | (with_reducible refine Fr.comp ?_ (by assumption))))) f2)
      clear f2
      go_wp2
      go_ret
      exact ⟨by rw [HA.out]; rfl, HF.out⟩
    · have d0 : ((nk : Int) == 0) = false := by rw [beq_eq_false_iff_ne]; omega
      have z0 : ¬ (nk : Int) = 0 := by omega
      go_enter Tryd.func113, Tryd.ntmps113
      go_wp2_with fail
      refine (HE.out _ (by (repeat (first | (with_reducible exact Fr.refl _ _) | (with_reducible assumption) | (with_reducible exact Fr.of_nil (by assumption)) | (with_reducible refine Fr.drew ?_) | (with_reducible refine Fr.drewN ?_ _) | (with_reducible refine Fr.alloc ?_ _) | (with_reducible refine Fr.set ?_ _ _ (by first | (intros; omega) | (simp; done) | (simp; omega))) | (with_reducible refine Fr.via ?_ (by assumption)) | (with_reducible refine Fr.comp ?_ (by assumption)))))).mono ?_
      rintro e w2 ⟨rfl, f2⟩
      have HF : Hid (Fr Nil w w2) := Lib.hid (Fr.comp (S := Nil) (by (repeat (first | (with_reducible exact Fr.refl _ _) | (with_reducible assumption) | (with_reducible exact Fr.of_nil (by assumption)) | (with_reducible refine Fr.drew ?_) | (with_reducible refine Fr.drewN ?_ _) | (with_reducible refine Fr.alloc ?_ _) | (with_reducible refine Fr.set ?_ _ _ (by first | (intros; omega) | (simp; done) | (simp; omega))) | (with_reducible refine Fr.via ?_ (by assumption)) | (with_reducible refine Fr.comp ?_ (by assumption))))) f2)
      clear f2
      go_wp2
      go_ret
      exact ⟨by rw [HA.out]; rw [show decide (nk = 0) = false from decide_eq_false z]; rfl, HF.out⟩
  have d1 : ((k : Int) == 1) = false := by rw [beq_eq_false_iff_ne]; omega
  have d2 : ((k : Int) == 2) = false := by rw [beq_eq_false_iff_ne]; omega
  have d3 : ((k : Int) == 3) = false := by rw [beq_eq_false_iff_ne]; omega
  have d5 : ((k : Int) == 5) = false := by rw [beq_eq_false_iff_ne]; omega
  have y1 : ¬ (k : Int) = 1 := by omega
  have y2 : ¬ (k : Int) = 2 := by omega
  have y3 : ¬ (k : Int) = 3 := by omega
  have y5 : ¬ (k : Int) = 5 := by omega
  by_cases z : nk = 0
  · subst z
    go_enter Tryd.func113, Tryd.ntmps113
    go_wp2_with fail
    refine (HE.out _ (by (repeat (first | (with_reducible exact Fr.refl _ _) | (with_reducible assumption) | (with_reducible exact Fr.of_nil (by assumption)) | (with_reducible refine Fr.drew ?_) | (with_reducible refine Fr.drewN ?_ _) | (with_reducible refine Fr.alloc ?_ _) | (with_reducible refine Fr.set ?_ _ _ (by first | (intros; omega) | (simp; done) | (simp; omega))) | (with_reducible refine Fr.via ?_ (by assumption)) | (with_reducible refine Fr.comp ?_ (by assumption)))))).mono ?_
    rintro e w2 ⟨rfl, f2⟩
    have HF : Hid (Fr Nil w w2) := Lib.hid (Fr.comp (S := Nil) (by (repeat (first | (with_reducible exact Fr.refl _ _) | (with_reducible assumption) | (with_reducible exact Fr.of_nil (by assumption)) | (with_reducible refine Fr.drew ?_) | (with_reducible refine Fr.drewN ?_ _) | (with_reducible refine Fr.alloc ?_ _) | (with_reducible refine Fr.set ?_ _ _ (by first | (intros; omega) | (simp; done) | (simp; omega))) | (with_reducible refine Fr.via ?_ (by assumption)) | (with_reducible refine Fr.comp ?_ (by assumption))))) f2)
    clear f2
    go_wp2
    go_ret
    exact ⟨by rw [HA.out]; simp [k1, k2, k3, k5], HF.out⟩
  · have d0 : ((nk : Int) == 0) = false := by rw [beq_eq_false_iff_ne]; omega
    have z0 : ¬ (nk : Int) = 0 := by omega
    go_enter Tryd.func113, Tryd.ntmps113
    go_wp2_with fail
    refine (HE.out _ (by (repeat (first | (with_reducible exact Fr.refl _ _) | (with_reducible assumption) | (with_reducible exact Fr.of_nil (by assumption)) | (with_reducible refine Fr.drew ?_) | (with_reducible refine Fr.drewN ?_ _) | (with_reducible refine Fr.alloc ?_ _) | (with_reducible refine Fr.set ?_ _ _ (by first | (intros; omega) | (simp; done) | (simp; omega))) | (with_reducible refine Fr.via ?_ (by assumption)) | (with_reducible refine Fr.comp ?_ (by assumption)))))).mono ?_
    rintro e w2 ⟨rfl, f2⟩
    have HF : Hid (Fr Nil w w2) := Lib.hid (Fr.comp (S := Nil) (by (repeat (first | (with_reducible exact Fr.refl _ _) | (with_reducible assumption) | (with_reducible exact Fr.of_nil (by assumption)) | (with_reducible refine Fr.drew ?_) | (with_reducible refine Fr.drewN ?_ _) | (with_reducible refine Fr.alloc ?_ _) | (with_reducible refine Fr.set ?_ _ _ (by first | (intros; omega) | (simp; done) | (simp; omega))) | (with_reducible refine Fr.via ?_ (by assumption)) | (with_reducible refine Fr.comp ?_ (by assumption))))) f2)
    clear f2
    go_wp2
    go_ret
    exact ⟨by rw [HA.out]; simp [k1, k2, k3, k5], HF.out⟩
end Go.Proofs.YtpjlibbdngnnnaaDoor

namespace Go.Proofs.YtpjlibbdngnnnaaDoor
set_option linter.unusedSimpArgs false
set_option linter.unusedVariables false
open Go.RowKit

theorem src_one {w : World} {b : Nat} {v : Value} {t : TypeId} (h : Blk w b #[v] t) : Src w (some ⟨b, 0, none⟩) 1 1 [v] :=
  .inr ⟨_, rfl, rfl, fun j u hj => by rw [add_head, h.cell]; simpa using hj⟩
/-- The program shows it as it should. -/
def PsOk (e : TE) : Prop := ∀ (w : World) (cs : List Value), EAt (fun _ => False) w cs e → svE e → zE e ≤ 50000000 → Tabs w → Calls Tryd.prog 17 #[.agg cs.toArray] w fun r w' => r = .returned (.string ⟨(swE prF e).toArray⟩) ∧ Fr Nil w w'
set_option maxRecDepth 100000 in
set_option maxHeartbeats 4000000 in
theorem psatoms_any {w : World} {cs : List Value} {k : Nat} {nm : List UInt8} {fl : Bool} {bi : Nat} {ps : List (List UInt8)} {ks : List TE} {bs : List TB} {al : List TA} (h : EAt (fun _ => False) w cs (.mk k nm fl bi ps ks bs al)) (hE : ∀ e ∈ ks, PsOk e) (hs : svK ks) (hz : zK ks ≤ 50000000) (hT : Tabs w) :
    Calls Tryd.prog 78 #[.agg cs.toArray] w fun r w' => ∃ v, r = .returned v ∧ w'.ownsRow w.heap.size 9 1 v ks.length (strC (swK prF ks)) ∧ Fr Nil w w' := by
  obtain ⟨i0, hi, hz0, hz1, hz2⟩ := info_parts infoS
  obtain ⟨a0, c0, a1, c1, a2, c2, a3, c3, kc, bc, ac, rfl, _, hk, hk2, _, _, _, _⟩ := h.opened
  obtain ⟨nk, hnk⟩ : ∃ nk, ks.length = nk := ⟨_, rfl⟩
  obtain ⟨nb, hnb⟩ : ∃ nb, bs.length = nb := ⟨_, rfl⟩
  obtain ⟨na, hna⟩ : ∃ na, al.length = na := ⟨_, rfl⟩
  obtain ⟨np, hnp⟩ : ∃ np, ps.length = np := ⟨_, rfl⟩
  rw [hnk] at hk
  have hk9 : nk ≤ 9223372036854775807 := hk.lenX
  have hzn : nk ≤ 50000000 := by
    have h1 : ∀ l : List TE, l.length ≤ zK l := fun l => by
      induction l with
      | nil => exact Nat.zero_le _
      | cons x l ih => unfold zK; rw [List.length_cons]; omega
    have := h1 ks
    omega
  rw [hnk, hnb, hna, hnp]
  have hzl := swK_len prF prF_len ks
  obtain ⟨T, hTs⟩ : ∃ T, w.heap.size = T := ⟨_, rfl⟩
  rw [hTs]
  have HR := Lib.hid (And.intro hk (And.intro hk2 (And.intro hnk (And.intro hE (And.intro hs (And.intro hz (And.intro hzl hT)))))))
  have HTS := Lib.hid hTs
  clear hk hk2 hnk hE hs hz hzl hT h hnb hna hnp hTs
  go_enter Tryd.func78, Tryd.ntmps78
  go_wp2_with fail
  go_loopg [3, 10] nk (fun g v iv wr => ∃ j : Nat, g = nk - j ∧ j ≤ nk ∧ iv = .int .i64 (j : Int) ∧ Hid (wr.ownsRow T 9 1 v j (strC ((swK prF ks).take j)) ∧ Fr Nil w wr))
  case atStart => exact ⟨0, rfl, by omega, rfl, Lib.hid ⟨World.ownsRow_nil _ _ _ _, by (repeat (first | (with_reducible exact Fr.refl _ _) | (with_reducible assumption) | (with_reducible exact Fr.of_nil (by assumption)) | (with_reducible refine Fr.drew ?_) | (with_reducible refine Fr.drewN ?_ _) | (with_reducible refine Fr.alloc ?_ _) | (with_reducible refine Fr.set ?_ _ _ (by first | (intros; omega) | (simp; done) | (simp; omega))) | (with_reducible refine Fr.via ?_ (by assumption)) | (with_reducible refine Fr.comp ?_ (by assumption))))⟩⟩
  case round =>
    obtain ⟨j, rfl, hjn, rfl, HQ⟩ := hrel
    obtain ⟨Vr, hVr⟩ : ∃ V, V = wr := ⟨_, rfl⟩
    subst hVr
    obtain ⟨va, vc, rfl⟩ := owns_shape HQ.out.1
    have hTS1 : T ≤ w.heap.size := Nat.le_of_eq HTS.out.symm
    have hTS2 : w.heap.size ≤ T := Nat.le_of_eq HTS.out
    have hsz := HQ.out.2.size
    have j0 : (0 : Int) ≤ (j : Int) := by omega
    by_cases hlt : j < nk
    · have hjl : j < ks.length := by rw [HR.out.2.2.1]; exact hlt
      have hjs : j < (swK prF ks).length := by rw [swK_length]; exact hjl
      have wk : IntKind.i64.wrap ((j : Int) + 1) = (j : Int) + 1 := by rw [IntKind.wrap_i64]; omega
      have j1 : (j : Int) < (nk : Int) := by omega
      have hEj := (HR.out.2.1 j hjl).frN HQ.out.2
      obtain ⟨b, off, rfl, _, hc⟩ := (HR.out.1.frN HQ.out.2).at hlt
      obtain ⟨kA, nA, fA, bA, a0A, n0A, c0A, a1A, n1A, c1A, a2A, n2A, c2A, a3A, n3A, c3A, ec⟩ := hEj.formE
      rw [ec] at hc hEj
      have x0 := hc 0 _ rfl
      have x1 := hc 1 _ rfl
      have x2 := hc 2 _ rfl
      have x3 := hc 3 _ rfl
      have x4 := hc 4 _ rfl
      have x5 := hc 5 _ rfl
      have x6 := hc 6 _ rfl
      have x7 := hc 7 _ rfl
      simp only [Nat.add_zero] at x0
      have xl := World.block_lt_of_cell? _ _ x0
      have hm : ks[j] ∈ ks := List.getElem_mem hjl
      have hz1 := zK_mem hm
      have hz2 := HR.out.2.2.2.2.2.1
      have hrec := HR.out.2.2.2.1 _ hm
      have hsv := svK_mem HR.out.2.2.2.2.1 hm
      have hTV := HR.out.2.2.2.2.2.2.2.fr HQ.out.2
      have hst : (swK prF ks).take (j + 1) = (swK prF ks).take j ++ [atomF ks[j] (swE prF ks[j])] := by
        rw [List.take_succ_eq_append_getElem hjs, swK_at hjl hjs]
      obtain ⟨e, he⟩ : ∃ e, ks[j] = e := ⟨_, rfl⟩
      rw [he] at hEj hrec hsv hz1 hst
      have hat : ∀ w', Fr Nil Vr w' → Calls Tryd.prog 113 #[.agg #[.int .i64 kA, .string nA, .bool fA, .int .u64 bA, .slice a0A n0A c0A, .slice a1A n1A c1A, .slice a2A n2A c2A, .slice a3A n3A c3A]] w' fun r w2 => r = .returned (.string ⟨(atomF e (swE prF e)).toArray⟩) ∧ Fr Nil w' w2 := fun w' f =>
        patom_any (hEj.frN f) (by have := swE_le (e := e) (by omega); omega) (fun w2 f2 => hrec w2 _ ((hEj.frN f).frN f2) hsv (by omega) (hTV.fr (f.comp f2)))
      obtain ⟨x, hx⟩ : ∃ x, atomF e (swE prF e) = x := ⟨_, rfl⟩
      rw [hx] at hst
      simp only [hx] at hat
      have HA := Lib.hid hat
      have HST := Lib.hid hst
      clear hat hst hx he hrec hsv hTV hEj hc hm hz1 hz2 ec
      go_wp2_with fail
      refine (HA.out _ (by (repeat (first | (with_reducible exact Fr.refl _ _) | (with_reducible assumption) | (with_reducible exact Fr.of_nil (by assumption)) | (with_reducible refine Fr.drew ?_) | (with_reducible refine Fr.drewN ?_ _) | (with_reducible refine Fr.alloc ?_ _) | (with_reducible refine Fr.set ?_ _ _ (by first | (intros; omega) | (simp; done) | (simp; omega))) | (with_reducible refine Fr.via ?_ (by assumption)) | (with_reducible refine Fr.comp ?_ (by assumption)))))).mono ?_
      rintro r w2 ⟨rfl, f2⟩
      have g2 : Fr Nil Vr w2 := Fr.comp (S := Nil) (by (repeat (first | (with_reducible exact Fr.refl _ _) | (with_reducible assumption) | (with_reducible exact Fr.of_nil (by assumption)) | (with_reducible refine Fr.drew ?_) | (with_reducible refine Fr.drewN ?_ _) | (with_reducible refine Fr.alloc ?_ _) | (with_reducible refine Fr.set ?_ _ _ (by first | (intros; omega) | (simp; done) | (simp; omega))) | (with_reducible refine Fr.via ?_ (by assumption)) | (with_reducible refine Fr.comp ?_ (by assumption))))) f2
      have ho2 := owns_fr HQ.out.1 g2
      have H2 := Lib.hid (And.intro g2 ho2)
      have hs2 := g2.size
      clear f2 g2 ho2
      have hTw : T ≤ w2.heap.size := by omega
      go_wp2_with (at_builtin; refine wpList_push rfl (.tmp 14) (.tmp 17) 33 rfl T 9 i0 (.string ⟨#[]⟩) 1 16 Tryd.underlying33 hi hz0 hz1 hz2 rfl (by decide) (.slice va j vc) j (strC ((swK prF ks).take j)) rfl H2.out.2 [.string ⟨x.toArray⟩] rfl rfl (by simp [Value.oneCell']) (by unfold maxLen; omega) (by omega) hTw ?_; intro v' w9 hown9 k8 _; have HO := Lib.hid (And.intro hown9 k8); obtain ⟨ya, yc, rfl⟩ := owns_shape hown9; clear hown9 k8)
      have k9 : Fr Nil w w9 := (HQ.out.2.comp H2.out.1).trans HO.out.2 (fun q hq e => by have := (HQ.out.1.lt q e).1; omega)
      go_wp2
      go_roundg (nk - (j + 1))
      case rel => exact ⟨j + 1, rfl, by omega, rfl, Lib.hid ⟨by rw [HST.out, strC_snoc]; exact HO.out.1, k9⟩⟩
      case measure => omega
    · have j1 : ¬ (j : Int) < (nk : Int) := by omega
      have ejn : j = nk := by omega
      have ho := HQ.out.1
      rw [List.take_of_length_le (by rw [swK_length, HR.out.2.2.1]; omega), ejn] at ho
      subst ejn
      have HO := Lib.hid ho
      clear ho
      go_wp2
      go_ret
      exact ⟨_, rfl, HO.out, HQ.out.2⟩
end Go.Proofs.YtpjlibbdngnnnaaDoor
