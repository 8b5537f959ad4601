/-
  Contracts of package num: Parse. No conditions but that the library's error has a value.
-/
import Derived.Test.YtlnmicddobgppaaGreatDoorNumParse2
import Derived.Test.YtlnmicddobgppaaGreatDoorNumInt
namespace Go.Proofs.YtlnmicddobgppaaGreatDoor
set_option linter.unusedSimpArgs false
set_option linter.unusedVariables false
open Go.RowKit

theorem all_hex (l : List UInt8) : l.all (hexS.data.toList.contains ·) = l.all (fun c => decide (dgt c ≤ 15)) := by
  congr 1; funext c; exact hex_mem c
theorem all_dec (l : List UInt8) : l.all (decS.data.toList.contains ·) = decB l := by
  unfold decB; congr 1; funext c; exact dec_mem c
theorem ascii_hex : ∀ (j : Nat) b, hexS.data.toList[j]? = some b → b.toNat < 128 := by
  intro j b h
  have hm := List.mem_of_getElem? h
  have key : ∀ c ∈ hexS.data.toList, c.toNat < 128 := by decide
  exact key b hm
theorem ascii_dec : ∀ (j : Nat) b, decS.data.toList[j]? = some b → b.toNat < 128 := by
  intro j b h
  have hm := List.mem_of_getElem? h
  have key : ∀ c ∈ decS.data.toList, c.toNat < 128 := by decide
  exact key b hm
set_option maxRecDepth 100000 in
theorem parse_F (s : ByteArray) (w : World) (hs : s.size ≤ 140737488355328) (ht : s.data.toList.take 2 = [48, 102]) :
    Calls Tryz.prog 89 #[.string s] w fun e w' => e = .returned (bitsV (s.data.toList.drop 2)) ∧ Fr Nil w w' := by
  have hq : s.data.toList.length = s.size := by simp
  have hpre : Lib.hasPrefix s.data.toList [48, 102] = true := by
    unfold Lib.hasPrefix
    rw [List.isPrefixOf_iff_prefix, List.prefix_iff_eq_take]
    exact ht.symm
  have htr : Lib.trimPrefix s.data.toList [48, 102] = s.data.toList.drop 2 := by
    unfold Lib.trimPrefix
    rw [hpre]; rfl
  obtain ⟨R, hR⟩ : ∃ R, s.data.toList.drop 2 = R := ⟨_, rfl⟩
  have hRl : R.length ≤ 140737488355328 := by rw [← hR, List.length_drop]; omega
  rw [hR] at htr
  rw [hR]
  obtain ⟨r, hr⟩ : ∃ r : ByteArray, r = ⟨R.toArray⟩ := ⟨_, rfl⟩
  have hrl : r.data.toList = R := by rw [hr]
  have hrs : r.size = R.length := by rw [hr]; simp [ByteArray.size]
  have HP := Lib.hid hpre
  have HT : Hid ((⟨(Lib.trimPrefix s.data.toList [48, 102]).toArray⟩ : ByteArray) = r) := Lib.hid (by rw [htr, hr])
  have HRL := Lib.hid hrl
  clear hpre htr hR ht hq hr hrl
  by_cases h16 : r.size = 16
  · have c1 : ((r.size : Int) == 16) = true := by simp; omega
    have c2 : ((r.size : Int) != 16) = false := by simp; omega
    obtain ⟨b, hb⟩ : ∃ b, R.all (fun c => decide (dgt c ≤ 15)) = b := ⟨_, rfl⟩
    have HB : Hid ((!decide (r.size = 0) && r.data.toList.all (hexS.data.toList.contains ·)) = b) := Lib.hid (by rw [HRL.out, all_hex, hb, h16]; rfl)
    have HX : Hid (hexB R = b) := Lib.hid (by unfold hexB; rw [hb, ← hrs, h16]; simp)
    have HA : Hid (b = true → ∀ c ∈ r.data.toList, dgt c ≤ 15) := Lib.hid (by
      intro hbt c hc
      rw [HRL.out] at hc
      rw [hbt] at hb
      simpa using List.all_eq_true.1 hb c hc)
    have H16 := Lib.hid h16
    have HRS := Lib.hid hrs
    clear hb h16 hrs
    cases b
    · go_enter Tryz.func89, Tryz.ntmps89
      go_wp2_with fail
      refine (Tryz.strings_CutPrefixB s ⟨#[48, 102]⟩ _).mono ?_
      rw [show (⟨#[48, 102]⟩ : ByteArray).data.toList = [48, 102] from rfl, HT.out, HP.out]
      rintro e w1 ⟨rfl, rfl⟩
      go_wp2_with fail
      refine (digits_any r hexS _ (by have := H16.out; omega) (by decide) ascii_hex).mono ?_
      rw [HB.out]
      rintro e w2 ⟨rfl, f2⟩
      obtain ⟨_, _, _⟩ := f2.at (w.heap.size) (by first | assumption | omega | (simp; done) | (simp; omega))
      go_wp2
      refine bodyPost_ret (v := .tuple #[.agg #[.bool false, .int .u64 0], .int .i64 3]) (by simp [results, Tryz.results89, go_sem, *]) rfl ⟨bitsV_bad HX.out, ?_⟩
      (repeat (first | (with_reducible exact Fr.refl _ _) | (with_reducible assumption) | (with_reducible exact Fr.of_nil (by assumption)) | (with_reducible refine Fr.drew ?_) | (with_reducible refine Fr.drewN ?_ _) | (with_reducible refine Fr.alloc ?_ _) | (with_reducible refine Fr.set ?_ _ _ (by first | (intros; omega) | (simp; done) | (simp; omega))) | (with_reducible refine Fr.via ?_ (by assumption)) | (with_reducible refine Fr.comp ?_ (by assumption))))
    · go_enter Tryz.func89, Tryz.ntmps89
      go_wp2_with fail
      refine (Tryz.strings_CutPrefixB s ⟨#[48, 102]⟩ _).mono ?_
      rw [show (⟨#[48, 102]⟩ : ByteArray).data.toList = [48, 102] from rfl, HT.out, HP.out]
      rintro e w1 ⟨rfl, rfl⟩
      go_wp2_with fail
      refine (digits_any r hexS _ (by have := H16.out; omega) (by decide) ascii_hex).mono ?_
      rw [HB.out]
      rintro e w2 ⟨rfl, f2⟩
      obtain ⟨_, _, _⟩ := f2.at (w.heap.size) (by first | assumption | omega | (simp; done) | (simp; omega))
      go_wp2_with fail
      refine (parse16_any r _ H16.out (HA.out trivial)).mono ?_
      rw [HRL.out]
      rintro e w3 ⟨rfl, f3⟩
      obtain ⟨_, _, _⟩ := f3.at (w.heap.size) (by first | assumption | omega | (simp; done) | (simp; omega))
      go_wp2
      refine bodyPost_ret (v := .tuple #[.agg #[.bool true, .int .u64 (numB 16 R)], .int .i64 0]) (by simp [results, Tryz.results89, go_sem, *]) rfl ⟨bitsV_ok HX.out, ?_⟩
      (repeat (first | (with_reducible exact Fr.refl _ _) | (with_reducible assumption) | (with_reducible exact Fr.of_nil (by assumption)) | (with_reducible refine Fr.drew ?_) | (with_reducible refine Fr.drewN ?_ _) | (with_reducible refine Fr.alloc ?_ _) | (with_reducible refine Fr.set ?_ _ _ (by first | (intros; omega) | (simp; done) | (simp; omega))) | (with_reducible refine Fr.via ?_ (by assumption)) | (with_reducible refine Fr.comp ?_ (by assumption))))
  · have c1 : ((r.size : Int) == 16) = false := by simp; omega
    have c2 : ((r.size : Int) != 16) = true := by simp; omega
    have HX : Hid (hexB R = false) := Lib.hid (by unfold hexB; rw [← hrs]; simp; intro _; exact h16)
    clear h16 hrs
    go_enter Tryz.func89, Tryz.ntmps89
    go_wp2_with fail
    refine (Tryz.strings_CutPrefixB s ⟨#[48, 102]⟩ _).mono ?_
    rw [show (⟨#[48, 102]⟩ : ByteArray).data.toList = [48, 102] from rfl, HT.out, HP.out]
    rintro e w1 ⟨rfl, rfl⟩
    go_wp2
    refine bodyPost_ret (v := .tuple #[.agg #[.bool false, .int .u64 0], .int .i64 3]) (by simp [results, Tryz.results89, go_sem, *]) rfl ⟨bitsV_bad HX.out, ?_⟩
    (repeat (first | (with_reducible exact Fr.refl _ _) | (with_reducible assumption) | (with_reducible exact Fr.of_nil (by assumption)) | (with_reducible refine Fr.drew ?_) | (with_reducible refine Fr.drewN ?_ _) | (with_reducible refine Fr.alloc ?_ _) | (with_reducible refine Fr.set ?_ _ _ (by first | (intros; omega) | (simp; done) | (simp; omega))) | (with_reducible refine Fr.via ?_ (by assumption)) | (with_reducible refine Fr.comp ?_ (by assumption))))
set_option maxRecDepth 100000 in
set_option maxHeartbeats 1000000 in
theorem parse_N (s : ByteArray) (m : Bool) (D : List UInt8) (w : World) (hs : s.size ≤ 140737488355328) (hE : ErrV w) (ht : s.data.toList.take 2 ≠ [48, 102])
    (hm : (m = true ∧ s.data.toList = 45 :: D) ∨ (m = false ∧ s.data.toList = D ∧ D.head? ≠ some 45)) :
    Calls Tryz.prog 89 #[.string s] w fun e w' => e = .returned (parseV m D s.data.toList) ∧ Fr Nil w w' := by
  have hq : s.data.toList.length = s.size := by simp
  have hpre : Lib.hasPrefix s.data.toList [48, 102] = false := by
    cases h : Lib.hasPrefix s.data.toList [48, 102] with
    | false => rfl
    | true =>
      unfold Lib.hasPrefix at h
      rw [List.isPrefixOf_iff_prefix, List.prefix_iff_eq_take] at h
      exact absurd h.symm ht
  have htr2 : Lib.trimPrefix s.data.toList [45] = D := by
    unfold Lib.trimPrefix Lib.hasPrefix
    rcases hm with ⟨_, h⟩ | ⟨_, h, hn⟩
    · rw [h]; simp
    · rw [h]
      cases D with
      | nil => rfl
      | cons c D =>
        have : ¬ c = 45 := by intro q; subst q; simp at hn
        simp [List.isPrefixOf]
        intro q; exact absurd q.symm this
  have hDl : D.length ≤ 140737488355328 := by
    rcases hm with ⟨_, h⟩ | ⟨_, h, _⟩
    · rw [h] at hq; simp at hq; omega
    · rw [h] at hq; omega
  have hval : decB D = true → D ≠ [] → _ := fun a b => parseI_val s.data.toList D m (fun h => by rcases hm with ⟨_, q⟩ | ⟨q, _⟩; exact q; rw [h] at q; cases q) (fun h => by rcases hm with ⟨q, _⟩ | ⟨_, q, _⟩; rw [h] at q; cases q; exact q) a b
  obtain ⟨d, hd⟩ : ∃ d : ByteArray, d = ⟨D.toArray⟩ := ⟨_, rfl⟩
  have hdl : d.data.toList = D := by rw [hd]
  have hds : d.size = D.length := by rw [hd]; simp [ByteArray.size]
  have HP := Lib.hid hpre
  have HT : Hid ((⟨(Lib.trimPrefix s.data.toList [48, 102]).toArray⟩ : ByteArray) = s) := Lib.hid (by unfold Lib.trimPrefix; rw [hpre]; rfl)
  have HT2 : Hid ((⟨(Lib.trimPrefix s.data.toList [45]).toArray⟩ : ByteArray) = d) := Lib.hid (by rw [htr2, hd])
  have HDL := Lib.hid hdl
  have HDS : Hid (d.size ≤ 140737488355328) := Lib.hid (by omega)
  have HVal := Lib.hid hval
  have hde := size_zero_iff d
  rw [Lib.toList_data, hdl] at hde
  obtain ⟨b, hb⟩ : ∃ b, (!decide (d.size = 0) && decB D) = b := ⟨_, rfl⟩
  have HB : Hid ((!decide (d.size = 0) && d.data.toList.all (decS.data.toList.contains ·)) = b) := Lib.hid (by rw [hdl, all_dec, hb])
  have HBb := Lib.hid hb
  have HDE := Lib.hid hde
  have HQ := Lib.hid hq
  clear hpre htr2 hval hd hdl hb hde hm ht hq
  cases b
  · have HX : Hid (formB D s.data.toList = false) := Lib.hid (by
      unfold formB
      rw [HDE.out, Bool.and_comm (decB D), HBb.out]
      rfl)
    clear hds
    go_enter Tryz.func89, Tryz.ntmps89
    go_wp2_with fail
    refine (Tryz.strings_CutPrefixB s ⟨#[48, 102]⟩ _).mono ?_
    rw [show (⟨#[48, 102]⟩ : ByteArray).data.toList = [48, 102] from rfl, HT.out, HP.out]
    rintro e w1 ⟨rfl, rfl⟩
    go_wp2_with fail
    refine (Tryz.strings_TrimPrefixB s ⟨#[45]⟩ _).mono ?_
    rw [show (⟨#[45]⟩ : ByteArray).data.toList = [45] from rfl, HT2.out]
    rintro e w1 ⟨rfl, rfl⟩
    go_wp2_with fail
    refine (digits_any d decS _ (by have := HDS.out; omega) (by decide) ascii_dec).mono ?_
    rw [HB.out]
    rintro e w2 ⟨rfl, f2⟩
    obtain ⟨_, _, _⟩ := f2.at (w.heap.size) (by first | assumption | omega | (simp; done) | (simp; omega))
    go_wp2
    refine bodyPost_ret (v := .tuple #[.agg #[.bool false, .int .u64 0], .int .i64 3]) (by simp [results, Tryz.results89, go_sem, *]) rfl ⟨parseV_form HX.out, ?_⟩
    (repeat (first | (with_reducible exact Fr.refl _ _) | (with_reducible assumption) | (with_reducible exact Fr.of_nil (by assumption)) | (with_reducible refine Fr.drew ?_) | (with_reducible refine Fr.drewN ?_ _) | (with_reducible refine Fr.alloc ?_ _) | (with_reducible refine Fr.set ?_ _ _ (by first | (intros; omega) | (simp; done) | (simp; omega))) | (with_reducible refine Fr.via ?_ (by assumption)) | (with_reducible refine Fr.comp ?_ (by assumption))))
  · have hd0 : 0 < d.size := by
      have h : (!decide (d.size = 0) && decB D) = true := HBb.out
      rw [Bool.and_eq_true, Bool.not_eq_true', decide_eq_false_iff_not] at h
      omega
    have hne : D ≠ [] := by
      intro q
      have h0 : D.length = 0 := by rw [q]; rfl
      omega
    have hdec : decB D = true := by
      have h : (!decide (d.size = 0) && decB D) = true := HBb.out
      rw [Bool.and_eq_true] at h
      exact h.2
    have hh : D.head? = some d[0] := by rw [← HDL.out, List.head?_eq_getElem?]; exact byte_at d 0 hd0
    have HE2 : Hid (∀ q1 q2 : Bool, ((d[0].toNat : Int) == 48) = q1 → (s.toList == [48]) = q2 → formB D s.data.toList = !(q1 && !q2)) := Lib.hid (by
      intro q1 q2 h1 h2
      unfold formB
      rw [hdec, hh]
      have e4 : D.isEmpty = false := by cases D with
        | nil => exact absurd rfl hne
        | cons c l => rfl
      simp only [← Lib.toList_data, e4, h2]
      have h3 : (some d[0] == some (48 : UInt8)) = q1 := by
        rw [← h1, Bool.eq_iff_iff]
        simp
        constructor
        · intro h; rw [h]; rfl
        · intro h; exact UInt8.toNat_inj.1 (by have q : (48 : UInt8).toNat = 48 := rfl; omega)
      rw [h3]
      simp)
    have hval := HVal.out hdec hne
    obtain ⟨N, hN⟩ : ∃ N, numB 10 D = N := ⟨_, rfl⟩
    rw [hN] at hval
    have HV := Lib.hid hval
    have HN := Lib.hid hN
    obtain ⟨q1, hq1⟩ : ∃ q, ((d[0].toNat : Int) == 48) = q := ⟨_, rfl⟩
    obtain ⟨q2, hq2⟩ : ∃ q, (s.toList == [48]) = q := ⟨_, rfl⟩
    have hq2' : (s.toList != [48]) = !q2 := by rw [← hq2]; rfl
    have HFm := Lib.hid (HE2.out q1 q2 hq1 hq2)
    have HS1 : Hid (s.size ≤ 281474976710656) := Lib.hid (by omega)
    have HErr := Lib.hid hE
    clear HE2 hh hval hN hne hdec HVal hds hE
    by_cases hb : (q1 && !q2) = true
    · obtain ⟨rfl, rfl⟩ : q1 = true ∧ q2 = false := by simpa using hb
      have HFm' : Hid (formB D s.data.toList = false) := HFm
      clear HFm hb
      go_enter Tryz.func89, Tryz.ntmps89
      go_wp2_with fail
      refine (Tryz.strings_CutPrefixB s ⟨#[48, 102]⟩ _).mono ?_
      rw [show (⟨#[48, 102]⟩ : ByteArray).data.toList = [48, 102] from rfl, HT.out, HP.out]
      rintro e w1 ⟨rfl, rfl⟩
      go_wp2_with fail
      refine (Tryz.strings_TrimPrefixB s ⟨#[45]⟩ _).mono ?_
      rw [show (⟨#[45]⟩ : ByteArray).data.toList = [45] from rfl, HT2.out]
      rintro e w1 ⟨rfl, rfl⟩
      go_wp2_with fail
      refine (digits_any d decS _ (by have := HDS.out; omega) (by decide) ascii_dec).mono ?_
      rw [HB.out]
      rintro e w2 ⟨rfl, f2⟩
      obtain ⟨_, _, _⟩ := f2.at (w.heap.size) (by first | assumption | omega | (simp; done) | (simp; omega))
      go_wp2
      refine bodyPost_ret (v := .tuple #[.agg #[.bool false, .int .u64 0], .int .i64 3]) (by simp [results, Tryz.results89, go_sem, *]) rfl ⟨parseV_form HFm'.out, ?_⟩
      (repeat (first | (with_reducible exact Fr.refl _ _) | (with_reducible assumption) | (with_reducible exact Fr.of_nil (by assumption)) | (with_reducible refine Fr.drew ?_) | (with_reducible refine Fr.drewN ?_ _) | (with_reducible refine Fr.alloc ?_ _) | (with_reducible refine Fr.set ?_ _ _ (by first | (intros; omega) | (simp; done) | (simp; omega))) | (with_reducible refine Fr.via ?_ (by assumption)) | (with_reducible refine Fr.comp ?_ (by assumption))))
    · have hb' : (q1 && !q2) = false := by simpa using hb
      rw [hb'] at HFm
      have HFm' : Hid (formB D s.data.toList = true) := HFm
      clear HFm hb
      by_cases hg : 9223372036854775808 < N ∨ (m = false ∧ N = 9223372036854775808)
      · have HR : Hid (Lib.parseIntB 64 s.data.toList = .range) := Lib.hid (by
          rw [HV.out]
          rcases hg with h | ⟨h1, h2⟩
          · rw [if_pos h]
          · rw [if_neg (by omega), h1, if_neg (by simp), if_pos h2])
        have HG : Hid (Ending.returned (.tuple #[.agg #[.bool false, .int .u64 0], .int .i64 1]) = .returned (parseV m D s.data.toList)) := Lib.hid (by
          rcases hg with h | ⟨h1, h2⟩
          · exact parseV_great HFm'.out (by rw [HN.out]; exact h)
          · subst h1; exact parseV_edge HFm'.out (by rw [HN.out]; exact h2))
        clear hg
        cases q1 <;> cases q2 <;> simp at hb'
        all_goals
          go_enter Tryz.func89, Tryz.ntmps89
          go_wp2_with fail
          refine (Tryz.strings_CutPrefixB s ⟨#[48, 102]⟩ _).mono ?_
          rw [show (⟨#[48, 102]⟩ : ByteArray).data.toList = [48, 102] from rfl, HT.out, HP.out]
          rintro e w1 ⟨rfl, rfl⟩
          go_wp2_with fail
          refine (Tryz.strings_TrimPrefixB s ⟨#[45]⟩ _).mono ?_
          rw [show (⟨#[45]⟩ : ByteArray).data.toList = [45] from rfl, HT2.out]
          rintro e w1 ⟨rfl, rfl⟩
          go_wp2_with fail
          refine (digits_any d decS _ (by have := HDS.out; omega) (by decide) ascii_dec).mono ?_
          rw [HB.out]
          rintro e w2 ⟨rfl, f2⟩
          obtain ⟨_, _, _⟩ := f2.at (w.heap.size) (by first | assumption | omega | (simp; done) | (simp; omega))
          go_wp2_with fail
          refine (parseInt_range s _ HS1.out HR.out (HErr.out.fr (by (repeat (first | (with_reducible exact Fr.refl _ _) | (with_reducible assumption) | (with_reducible exact Fr.of_nil (by assumption)) | (with_reducible refine Fr.drew ?_) | (with_reducible refine Fr.drewN ?_ _) | (with_reducible refine Fr.alloc ?_ _) | (with_reducible refine Fr.set ?_ _ _ (by first | (intros; omega) | (simp; done) | (simp; omega))) | (with_reducible refine Fr.via ?_ (by assumption)) | (with_reducible refine Fr.comp ?_ (by assumption))))))).mono ?_
          rintro e w3 ⟨v, NB, rfl, f3⟩
          obtain ⟨_, _, _⟩ := f3.at (w.heap.size) (by first | assumption | omega | (simp; done) | (simp; omega))
          go_wp2
          refine bodyPost_ret (v := .tuple #[.agg #[.bool false, .int .u64 0], .int .i64 1]) (by simp [results, Tryz.results89, go_sem, *]) rfl ⟨HG.out, ?_⟩
          (repeat (first | (with_reducible exact Fr.refl _ _) | (with_reducible assumption) | (with_reducible exact Fr.of_nil (by assumption)) | (with_reducible refine Fr.drew ?_) | (with_reducible refine Fr.drewN ?_ _) | (with_reducible refine Fr.alloc ?_ _) | (with_reducible refine Fr.set ?_ _ _ (by first | (intros; omega) | (simp; done) | (simp; omega))) | (with_reducible refine Fr.via ?_ (by assumption)) | (with_reducible refine Fr.comp ?_ (by assumption))))
      · have hN1 : N ≤ 9223372036854775808 := by omega
        obtain ⟨v, hv⟩ : ∃ v : Int, (if m then -(N : Int) else (N : Int)) = v := ⟨_, rfl⟩
        have HR : Hid (Lib.parseIntB 64 s.data.toList = .ok v) := Lib.hid (by
          rw [HV.out, if_neg (by omega), ← hv]
          cases m
          · have hne : ¬ N = 9223372036854775808 := fun q => hg (.inr ⟨rfl, q⟩)
            rw [if_neg (by simp), if_neg hne, if_neg (by simp)]
          · rw [if_pos rfl, if_pos rfl])
        have HG : Hid (Ending.returned (.tuple #[.agg #[.bool false, .int .u64 (IntKind.u64.wrap v)], .int .i64 0]) = .returned (parseV m D s.data.toList)) := Lib.hid (by
          cases m
          · have hne : ¬ N = 9223372036854775808 := fun q => hg (.inr ⟨rfl, q⟩)
            refine Eq.trans (agg_ret ?_) (parseV_plus HFm'.out (by rw [HN.out]; omega))
            rw [HN.out, ← hv, u64m]; (try simp); omega
          · refine Eq.trans (agg_ret ?_) (parseV_minus HFm'.out (by rw [HN.out]; omega))
            rw [HN.out, ← hv, u64m]; (try simp); omega)
        clear hg hN1 hv
        cases q1 <;> cases q2 <;> simp at hb'
        all_goals
          go_enter Tryz.func89, Tryz.ntmps89
          go_wp2_with fail
          refine (Tryz.strings_CutPrefixB s ⟨#[48, 102]⟩ _).mono ?_
          rw [show (⟨#[48, 102]⟩ : ByteArray).data.toList = [48, 102] from rfl, HT.out, HP.out]
          rintro e w1 ⟨rfl, rfl⟩
          go_wp2_with fail
          refine (Tryz.strings_TrimPrefixB s ⟨#[45]⟩ _).mono ?_
          rw [show (⟨#[45]⟩ : ByteArray).data.toList = [45] from rfl, HT2.out]
          rintro e w1 ⟨rfl, rfl⟩
          go_wp2_with fail
          refine (digits_any d decS _ (by have := HDS.out; omega) (by decide) ascii_dec).mono ?_
          rw [HB.out]
          rintro e w2 ⟨rfl, f2⟩
          obtain ⟨_, _, _⟩ := f2.at (w.heap.size) (by first | assumption | omega | (simp; done) | (simp; omega))
          go_wp2_with fail
          refine (parseInt_ok s v _ HS1.out HR.out).mono ?_
          rintro e w3 ⟨rfl, f3⟩
          obtain ⟨_, _, _⟩ := f3.at (w.heap.size) (by first | assumption | omega | (simp; done) | (simp; omega))
          go_wp2_with fail
          refine (int_any _ _).mono ?_
          rintro e w4 ⟨rfl, f4⟩
          obtain ⟨_, _, _⟩ := f4.at (w.heap.size) (by first | assumption | omega | (simp; done) | (simp; omega))
          go_wp2
          refine bodyPost_ret (v := .tuple #[.agg #[.bool false, .int .u64 (IntKind.u64.wrap v)], .int .i64 0]) (by simp [results, Tryz.results89, go_sem, *]) rfl ⟨HG.out, ?_⟩
          (repeat (first | (with_reducible exact Fr.refl _ _) | (with_reducible assumption) | (with_reducible exact Fr.of_nil (by assumption)) | (with_reducible refine Fr.drew ?_) | (with_reducible refine Fr.drewN ?_ _) | (with_reducible refine Fr.alloc ?_ _) | (with_reducible refine Fr.set ?_ _ _ (by first | (intros; omega) | (simp; done) | (simp; omega))) | (with_reducible refine Fr.via ?_ (by assumption)) | (with_reducible refine Fr.comp ?_ (by assumption))))
theorem parse_any (s : ByteArray) (w : World) (hs : s.size ≤ 140737488355328) (hE : ErrV w) :
    Calls Tryz.prog 89 #[.string s] w fun e w' => e = .returned (refV s.data.toList) ∧ Fr Nil w w' := by
  unfold refV
  by_cases h1 : s.data.toList.take 2 = [48, 102]
  · rw [if_pos h1]; exact parse_F s w hs h1
  · rw [if_neg h1]
    by_cases h2 : s.data.toList.head? = some 45
    · rw [if_pos h2]
      refine parse_N s true _ w hs hE h1 (.inl ⟨rfl, ?_⟩)
      cases h : s.data.toList with
      | nil => rw [h] at h2; simp at h2
      | cons c l => rw [h] at h2; simp at h2; rw [h2]; rfl
    · rw [if_neg h2]
      exact parse_N s false _ w hs hE h1 (.inr ⟨rfl, rfl, h2⟩)
end Go.Proofs.YtlnmicddobgppaaGreatDoor
