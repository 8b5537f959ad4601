/-
  Layer 7: the kinds of tokens. Conditions: the library's variables.
-/
import Derived.Test.YtomcmelgioamlaaDoorL07
import Derived.Test.YtomcmelgioamlaaDoorLexK
namespace Go.Proofs.YtomcmelgioamlaaDoor
set_option linter.unusedSimpArgs false
set_option linter.unusedVariables false
open Go.RowKit

theorem kindF_small {c : UInt8} {r : List UInt8} (h : smallC c = true) : kindF (c :: r) = 1 ∨ kindF (c :: r) = 5 ∨ kindF (c :: r) = 7 := by
  have hc : capC c = false := by
    unfold smallC at h; unfold capC
    simp at h ⊢
    intro _
    exact UInt8.lt_of_lt_of_le (by decide : (90 : UInt8) < 97) h.1
  unfold kindF
  split
  · exact .inr (.inl rfl)
  · split
    · exact .inr (.inr rfl)
    · simp [hc]
theorem kindF_cap {c : UInt8} {r : List UInt8} (h : capC c = true) : kindF (c :: r) = 2 := by
  have h1 : (c :: r) ∉ wordsL := by
    intro q
    have key : ∀ x ∈ wordsL, (x.head?.map capC).getD false = false := by decide
    have := key _ q
    simp [h] at this
  have h2 : (c :: r) ∉ backsL := by
    intro q
    have key : ∀ x ∈ backsL, (x.head?.map capC).getD false = false := by decide
    have := key _ q
    simp [h] at this
  unfold kindF
  rw [if_neg h1, if_neg h2]
  simp [h]
/-- What a token's first byte says of its kind. -/
theorem ok_cases {t : TokV} (h : okT t) : ∃ c r, t.text = c :: r ∧ 1 ≤ t.line ∧ c.toNat < 256 ∧
    ((97 ≤ c.toNat ∧ c.toNat ≤ 122 ∧ (t.kind = 1 ∨ t.kind = 5 ∨ t.kind = 7) ∧ kindF t.text = t.kind ∧ t.flt = false ∧ t.bits = 0) ∨
     (65 ≤ c.toNat ∧ c.toNat ≤ 90 ∧ t.kind = 2 ∧ t.flt = false ∧ t.bits = 0) ∨
     (48 ≤ c.toNat ∧ c.toNat ≤ 57 ∧ t.kind = 3) ∨ (c.toNat = 35 ∧ t.kind = 3) ∨
     ((c.toNat < 35 ∨ (35 < c.toNat ∧ c.toNat < 48) ∨ (57 < c.toNat ∧ c.toNat < 65) ∨ (90 < c.toNat ∧ c.toNat < 97) ∨ 122 < c.toNat) ∧ (t.kind = 4 ∨ t.kind = 6) ∧ t.flt = false ∧ t.bits = 0)) := by
  obtain ⟨c, r, hx, hl, h⟩ := h
  refine ⟨c, r, hx, hl, c.toNat_lt, ?_⟩
  have hs := smallB c
  have hc := capB c
  have hd := digB c
  rcases h with ⟨h1, h2, h3, h4⟩ | ⟨h1, h2, h3⟩ | ⟨h1, h2, h3, h4, h5, h6⟩
  · by_cases q : smallC c = true
    · left
      rw [q] at hs
      simp at hs
      rw [hx] at h2 ⊢
      refine ⟨by omega, by omega, ?_, h2.symm, h3, h4⟩
      rw [h2]
      exact kindF_small q
    · right; left
      have q2 : capC c = true := by simpa [q] using h1
      rw [q2] at hc
      simp at hc
      rw [hx, kindF_cap q2] at h2
      exact ⟨by omega, by omega, h2, h3, h4⟩
  · rcases h2 with q | rfl
    · right; right; left
      rw [q] at hd
      simp at hd
      exact ⟨by omega, by omega, h3⟩
    · right; right; right; left
      exact ⟨rfl, h3⟩
  · right; right; right; right
    have q1 : smallC c = false := by cases q : smallC c <;> simp_all
    have q2 : capC c = false := by cases q : capC c <;> simp_all
    rw [q1] at hs
    rw [q2] at hc
    rw [h2] at hd
    have h35 : c.toNat ≠ 35 := fun q => h3 (UInt8.toNat_inj.1 q)
    simp at hs hc hd
    refine ⟨?_, h4, h5, h6⟩
    omega
set_option maxRecDepth 100000 in
set_option maxHeartbeats 40000000 in
theorem lexKinds_any (s : ByteArray) (w : World) (hW : LibW w) : Calls Tryd.prog 6 #[.string s] w fun e w' => e = .returned (.bool true) ∧ Fr Nil w w' := by
  have hav := awake_any w hW
  have HA := Lib.hid hav
  have HW := Lib.hid hW
  clear hav hW
  by_cases hs : s.size ≤ 5000
  · have t1 : ¬ (5000 : Int) < (s.size : Int) := by omega
    have h1 := fun w h => lex_any s w h (by omega)
    have hok := lexF_ok s.data.toList
    have hle := lexF_size s.data.toList
    generalize lexF s.data.toList = R at *
    have H1 := Lib.hid h1
    have HK := Lib.hid hok
    clear h1 hok
    go_enter Tryd.func6, Tryd.ntmps6
    go_wp2_with fail
    refine (HA.out).mono ?_
    rintro e w1 ⟨rfl, f1⟩
    go_wp2_with fail
    refine (H1.out _ (HW.out.fr f1)).mono ?_
    rintro e w3 ⟨v1, rfl, hv1, f3⟩
    have f23 : Fr Nil w w3 := f1.trans f3 (fun _ _ q => q)
    obtain ⟨L, hL⟩ : ∃ L, R.toks.length = L := ⟨_, rfl⟩
    obtain ⟨a1, c1, rfl⟩ := owns_shape hv1
    rw [hL]
    have HV := Lib.hid hv1
    have HLn := Lib.hid hL
    have hL4 : L ≤ 4096 := by omega
    clear hv1 hL f1 f3 HA H1 hle
    go_wp2_with fail
    go_loopg [6] L (fun g iv wr => ∃ j : Nat, g = L - j ∧ j ≤ L ∧ iv = .int .i64 j ∧ Fr Nil w3 wr)
    case atStart => exact ⟨0, rfl, by omega, rfl, Fr.refl _ _⟩
    case round =>
      obtain ⟨j, rfl, hj, rfl, hw4⟩ := hrel
      by_cases hjl : j < L
      · have hjr : j < R.toks.length := by rw [HLn.out]; exact hjl
        have hpos : 0 < R.toks.length := by omega
        obtain ⟨g1, d1, e1⟩ := toks_form HV.out hpos
        injection e1 with e1 _ e1'
        subst e1 e1'
        have p := HV.out.fr hw4
        have p0 := tok_cell p rfl j hjr 0 (by omega)
        have p1 := tok_cell p rfl j hjr 1 (by omega)
        have p2 := tok_cell p rfl j hjr 2 (by omega)
        have p3 := tok_cell p rfl j hjr 3 (by omega)
        have p4 := tok_cell p rfl j hjr 4 (by omega)
        simp only [tokCells, Nat.add_zero, List.getElem?_cons_zero, List.getElem?_cons_succ] at p0 p1 p2 p3 p4
        have hprev : 0 < j → ∃ pl : Nat, pl ≤ R.toks[j].line ∧ wr.cell? ⟨g1, (j - 1) * 5 + 4, none⟩ = some (.int .i64 (pl : Int)) := fun hj0 => by
          have h2 : j - 1 < R.toks.length := by omega
          refine ⟨R.toks[j - 1].line, (List.pairwise_iff_getElem.1 HK.out.2) (j - 1) j h2 hjr (by omega), ?_⟩
          have := tok_cell p rfl (j - 1) h2 4 (by omega)
          simpa [tokCells] using this
        obtain ⟨c, r, hx, hln, hm256, hk⟩ := ok_cases (HK.out.1 _ (List.getElem_mem hjr))
        obtain ⟨⟨k0, x0, t2, t3, t4⟩, hT⟩ : ∃ T, R.toks[j] = T := ⟨_, rfl⟩
        rw [hT] at p0 p1 p2 p3 p4 hx hln hk hprev
        simp only at p0 p1 p2 p3 p4 hx hln hk hprev
        obtain ⟨X, hX⟩ : ∃ X : ByteArray, (⟨x0.toArray⟩ : ByteArray) = X := ⟨_, rfl⟩
        have hXl : X.data.toList = c :: r := by rw [← hX, ← hx]
        rw [hX] at p1
        have hXs : 0 < X.size := by rw [← size_of, hXl]; simp
        have hc : X[0] = c := by
          have e : X.data.toList[0]? = some c := by rw [hXl]; rfl
          have e2 : X.data.toList[0]? = some X[0] := by
            rw [List.getElem?_eq_getElem (by rw [size_of]; exact hXs)]; rfl
          exact Option.some.inj (e2.symm.trans e)
        have hne : ¬ X = ByteArray.empty := fun q => by rw [q] at hXs; simp at hXs
        have hne2 : (X.toList == []) = false := by rw [Lib.toList_data, hXl]; rfl
        have hne3 : ¬ X = ⟨#[]⟩ := fun q => hne (by rw [q]; rfl)
        have hka := fun w => kind_any X w hXs
        rw [hXl, ← hx] at hka
        obtain ⟨m, hm⟩ : ∃ m, c.toNat = m := ⟨_, rfl⟩
        have hcm : X[0].toNat = m := by rw [hc]; exact hm
        rw [hm] at hk hm256
        have i0 : (0 : Int) ≤ (j : Int) := by omega
        have i1 : (j : Int) < (L : Int) := by omega
        have i2 : (0 : Int) < (X.size : Int) := by omega
        have lt1 : g1 < wr.heap.size := World.block_lt_of_cell? wr _ p0
        have hl1 : ¬ ((t4 : Int) < 1) := by omega
        obtain ⟨K0, hK0⟩ : ∃ K0, kindF x0 = K0 := ⟨_, rfl⟩
        rw [hK0] at hka hk
        have HKA := Lib.hid hka
        clear hka p hT hX hXl hc hm hx hln hK0 hjr hpos
        obtain ⟨sm, hsm⟩ : ∃ sm, decide (97 ≤ m ∧ m ≤ 122) = sm := ⟨_, rfl⟩
        obtain ⟨cp, hcp⟩ : ∃ cp, decide (65 ≤ m ∧ m ≤ 90) = cp := ⟨_, rfl⟩
        obtain ⟨dg, hdg⟩ : ∃ dg, decide ((48 ≤ m ∧ m ≤ 57) ∨ m = 35) = dg := ⟨_, rfl⟩
        have hk2 : (sm = true ∧ cp = false ∧ dg = false ∧ (k0 = 1 ∨ k0 = 5 ∨ k0 = 7) ∧ K0 = k0 ∧ t2 = false ∧ t3 = 0) ∨ (sm = false ∧ cp = true ∧ dg = false ∧ k0 = 2 ∧ t2 = false ∧ t3 = 0) ∨ (sm = false ∧ cp = false ∧ dg = true ∧ k0 = 3) ∨ (sm = false ∧ cp = false ∧ dg = false ∧ (k0 = 4 ∨ k0 = 6) ∧ t2 = false ∧ t3 = 0) := by
          rw [← hsm, ← hcp, ← hdg]
          rcases hk with ⟨b1, b2, hk, hkk, h1, h2⟩ | ⟨b1, b2, hk, h1, h2⟩ | ⟨b1, b2, hk⟩ | ⟨b1, hk⟩ | ⟨b1, hk, h1, h2⟩
          · exact .inl ⟨decide_eq_true ⟨b1, b2⟩, decide_eq_false (by omega), decide_eq_false (by omega), hk, hkk, h1, h2⟩
          · exact .inr (.inl ⟨decide_eq_false (by omega), decide_eq_true ⟨b1, b2⟩, decide_eq_false (by omega), hk, h1, h2⟩)
          · exact .inr (.inr (.inl ⟨decide_eq_false (by omega), decide_eq_false (by omega), decide_eq_true (.inl ⟨b1, b2⟩), hk⟩))
          · exact .inr (.inr (.inl ⟨decide_eq_false (by omega), decide_eq_false (by omega), decide_eq_true (.inr b1), hk⟩))
          · exact .inr (.inr (.inr ⟨decide_eq_false (by omega), decide_eq_false (by omega), decide_eq_false (by omega), hk, h1, h2⟩))
        have HB := Lib.hid (And.intro hsm (And.intro hcp hdg))
        have HK2 := Lib.hid hk2
        have HPR := Lib.hid hprev
        clear hsm hcp hdg hk hk2 hprev
        go_upto_region 13 with fail
        obtain ⟨T, hT⟩ : ∃ T, wr.heap.size = T := ⟨_, rfl⟩
        obtain ⟨W, hW⟩ : ∃ W, wr.alloc (Obj.cells #[.int .i64 k0, .string X, .bool t2, .int .u64 (t3 : Int), .int .i64 (t4 : Int)] 35) = W := ⟨_, rfl⟩
        have fW : Fr Nil wr W := by rw [← hW]; (repeat (first | (with_reducible exact Fr.refl _ _) | (with_reducible assumption) | (with_reducible exact Fr.of_nil (by assumption)) | (with_reducible refine Fr.drew ?_) | (with_reducible refine Fr.drewN ?_ _) | (with_reducible refine Fr.alloc ?_ _) | (with_reducible refine Fr.set ?_ _ _ (by first | (intros; omega) | (simp; done) | (simp; omega))) | (with_reducible refine Fr.via ?_ (by assumption)) | (with_reducible refine Fr.comp ?_ (by assumption))))
        have q0 : W.cell? ⟨T, 0, none⟩ = some (.int .i64 k0) := by rw [← hW, ← hT]; simp
        have q1 : W.cell? ⟨T, 1, none⟩ = some (.string X) := by rw [← hW, ← hT]; simp
        have q2 : W.cell? ⟨T, 2, none⟩ = some (.bool t2) := by rw [← hW, ← hT]; simp
        have q3 : W.cell? ⟨T, 3, none⟩ = some (.int .u64 (t3 : Int)) := by rw [← hW, ← hT]; simp
        have q4 : W.cell? ⟨T, 4, none⟩ = some (.int .i64 (t4 : Int)) := by rw [← hW, ← hT]; simp
        have hTl : T < W.heap.size := World.block_lt_of_cell? _ _ q0
        have hwW : Fr Nil w3 W := hw4.comp fW
        have HF := Lib.hid (And.intro fW hwW)
        have lt2 : g1 < W.heap.size := fW.lt lt1
        rw [hT, hW]
        clear hT hW p0 p1 p2 p3 p4 fW hwW hw4 lt1
        go_cut [9, 10, 11] (fun s9 s10 s11 wx => s9 = .bool sm ∧ s10 = .bool cp ∧ s11 = .bool dg ∧ W = wx)
        case first =>
          have hr : (0 ≤ m ∧ m ≤ 34) ∨ (35 ≤ m ∧ m ≤ 35) ∨ (36 ≤ m ∧ m ≤ 47) ∨ (48 ≤ m ∧ m ≤ 57) ∨ (58 ≤ m ∧ m ≤ 64) ∨ (65 ≤ m ∧ m ≤ 90) ∨ (91 ≤ m ∧ m ≤ 96) ∨ (97 ≤ m ∧ m ≤ 122) ∨ (123 ≤ m ∧ m ≤ 255) := by omega
          rcases hr with hr | hr | hr | hr | hr | hr | hr | hr | hr
          · have d97 : ¬ (97 : Int) ≤ (m : Int) := by omega
            have d122 : (m : Int) ≤ 122 := by omega
            have d65 : ¬ (65 : Int) ≤ (m : Int) := by omega
            have d90 : (m : Int) ≤ 90 := by omega
            have d48 : ¬ (48 : Int) ≤ (m : Int) := by omega
            have d57 : (m : Int) ≤ 57 := by omega
            have d35 : ((m : Int) == 35) = false := by simp; omega
            go_wp2
            go_meet
            exact ⟨by rw [← HB.out.1, decide_eq_false (by omega)], by rw [← HB.out.2.1, decide_eq_false (by omega)], by rw [← HB.out.2.2, decide_eq_false (by omega)], rfl⟩
          · have d97 : ¬ (97 : Int) ≤ (m : Int) := by omega
            have d122 : (m : Int) ≤ 122 := by omega
            have d65 : ¬ (65 : Int) ≤ (m : Int) := by omega
            have d90 : (m : Int) ≤ 90 := by omega
            have d48 : ¬ (48 : Int) ≤ (m : Int) := by omega
            have d57 : (m : Int) ≤ 57 := by omega
            have d35 : ((m : Int) == 35) = true := by simp; omega
            go_wp2
            go_meet
            exact ⟨by rw [← HB.out.1, decide_eq_false (by omega)], by rw [← HB.out.2.1, decide_eq_false (by omega)], by rw [← HB.out.2.2, decide_eq_true (by omega)], rfl⟩
          · have d97 : ¬ (97 : Int) ≤ (m : Int) := by omega
            have d122 : (m : Int) ≤ 122 := by omega
            have d65 : ¬ (65 : Int) ≤ (m : Int) := by omega
            have d90 : (m : Int) ≤ 90 := by omega
            have d48 : ¬ (48 : Int) ≤ (m : Int) := by omega
            have d57 : (m : Int) ≤ 57 := by omega
            have d35 : ((m : Int) == 35) = false := by simp; omega
            go_wp2
            go_meet
            exact ⟨by rw [← HB.out.1, decide_eq_false (by omega)], by rw [← HB.out.2.1, decide_eq_false (by omega)], by rw [← HB.out.2.2, decide_eq_false (by omega)], rfl⟩
          · have d97 : ¬ (97 : Int) ≤ (m : Int) := by omega
            have d122 : (m : Int) ≤ 122 := by omega
            have d65 : ¬ (65 : Int) ≤ (m : Int) := by omega
            have d90 : (m : Int) ≤ 90 := by omega
            have d48 : (48 : Int) ≤ (m : Int) := by omega
            have d57 : (m : Int) ≤ 57 := by omega
            have d35 : ((m : Int) == 35) = false := by simp; omega
            go_wp2
            go_meet
            exact ⟨by rw [← HB.out.1, decide_eq_false (by omega)], by rw [← HB.out.2.1, decide_eq_false (by omega)], by rw [← HB.out.2.2, decide_eq_true (by omega)], rfl⟩
          · have d97 : ¬ (97 : Int) ≤ (m : Int) := by omega
            have d122 : (m : Int) ≤ 122 := by omega
            have d65 : ¬ (65 : Int) ≤ (m : Int) := by omega
            have d90 : (m : Int) ≤ 90 := by omega
            have d48 : (48 : Int) ≤ (m : Int) := by omega
            have d57 : ¬ (m : Int) ≤ 57 := by omega
            have d35 : ((m : Int) == 35) = false := by simp; omega
            go_wp2
            go_meet
            exact ⟨by rw [← HB.out.1, decide_eq_false (by omega)], by rw [← HB.out.2.1, decide_eq_false (by omega)], by rw [← HB.out.2.2, decide_eq_false (by omega)], rfl⟩
          · have d97 : ¬ (97 : Int) ≤ (m : Int) := by omega
            have d122 : (m : Int) ≤ 122 := by omega
            have d65 : (65 : Int) ≤ (m : Int) := by omega
            have d90 : (m : Int) ≤ 90 := by omega
            have d48 : (48 : Int) ≤ (m : Int) := by omega
            have d57 : ¬ (m : Int) ≤ 57 := by omega
            have d35 : ((m : Int) == 35) = false := by simp; omega
            go_wp2
            go_meet
            exact ⟨by rw [← HB.out.1, decide_eq_false (by omega)], by rw [← HB.out.2.1, decide_eq_true (by omega)], by rw [← HB.out.2.2, decide_eq_false (by omega)], rfl⟩
          · have d97 : ¬ (97 : Int) ≤ (m : Int) := by omega
            have d122 : (m : Int) ≤ 122 := by omega
            have d65 : (65 : Int) ≤ (m : Int) := by omega
            have d90 : ¬ (m : Int) ≤ 90 := by omega
            have d48 : (48 : Int) ≤ (m : Int) := by omega
            have d57 : ¬ (m : Int) ≤ 57 := by omega
            have d35 : ((m : Int) == 35) = false := by simp; omega
            go_wp2
            go_meet
            exact ⟨by rw [← HB.out.1, decide_eq_false (by omega)], by rw [← HB.out.2.1, decide_eq_false (by omega)], by rw [← HB.out.2.2, decide_eq_false (by omega)], rfl⟩
          · have d97 : (97 : Int) ≤ (m : Int) := by omega
            have d122 : (m : Int) ≤ 122 := by omega
            have d65 : (65 : Int) ≤ (m : Int) := by omega
            have d90 : ¬ (m : Int) ≤ 90 := by omega
            have d48 : (48 : Int) ≤ (m : Int) := by omega
            have d57 : ¬ (m : Int) ≤ 57 := by omega
            have d35 : ((m : Int) == 35) = false := by simp; omega
            go_wp2
            go_meet
            exact ⟨by rw [← HB.out.1, decide_eq_true (by omega)], by rw [← HB.out.2.1, decide_eq_false (by omega)], by rw [← HB.out.2.2, decide_eq_false (by omega)], rfl⟩
          · have d97 : (97 : Int) ≤ (m : Int) := by omega
            have d122 : ¬ (m : Int) ≤ 122 := by omega
            have d65 : (65 : Int) ≤ (m : Int) := by omega
            have d90 : ¬ (m : Int) ≤ 90 := by omega
            have d48 : (48 : Int) ≤ (m : Int) := by omega
            have d57 : ¬ (m : Int) ≤ 57 := by omega
            have d35 : ((m : Int) == 35) = false := by simp; omega
            go_wp2
            go_meet
            exact ⟨by rw [← HB.out.1, decide_eq_false (by omega)], by rw [← HB.out.2.1, decide_eq_false (by omega)], by rw [← HB.out.2.2, decide_eq_false (by omega)], rfl⟩
        case rest =>
          obtain ⟨rfl, rfl, rfl, hwc⟩ := hcut
          subst hwc
          clear hcm hm256 hl1 hne hne2 hne3 i2 hXs
          go_upto_region 14 with fail
          go_cut [12] (fun s12 wx => s12 = .bool (sm && decide (K0 ≠ 1)) ∧ Fr Nil W wx)
          case first =>
            rcases Bool.eq_false_or_eq_true sm with hs | hs
            · subst hs
              by_cases h1 : K0 = 1
              · subst h1
                go_wp2_with (go_at_call 14; refine (HKA.out _).mono ?_; rintro e wk ⟨rfl, rfl⟩)
                go_meet
                exact ⟨rfl, Fr.refl _ _⟩
              · have d1 := decide_eq_false h1
                go_wp2_with (go_at_call 14; refine (HKA.out _).mono ?_; rintro e wk ⟨rfl, rfl⟩)
                go_meet
                exact ⟨by simp [h1], Fr.refl _ _⟩
            · subst hs
              go_wp2
              go_meet
              exact ⟨rfl, Fr.refl _ _⟩
          case rest =>
            obtain ⟨rfl, fK⟩ := hcut
            have q0 := fK.cell q0 (by simp [Nil])
            have q2 := fK.cell q2 (by simp [Nil])
            have q3 := fK.cell q3 (by simp [Nil])
            have q4 := fK.cell q4 (by simp [Nil])
            have lt2 := fK.lt lt2
            have hTl := fK.lt hTl
            have HFK := Lib.hid (HF.out.2.comp fK)
            have HPK : Hid (0 < j → ∃ pl : Nat, pl ≤ t4 ∧ wc.cell? ⟨g1, (j - 1) * 5 + 4, none⟩ = some (.int .i64 (pl : Int))) := fun h => by
              obtain ⟨pl, h1, h2⟩ := HPR.out h
              exact ⟨pl, h1, (HF.out.1.comp fK).cell h2 (by simp [Nil])⟩
            obtain ⟨V, hV⟩ : ∃ V, wc = V := ⟨_, rfl⟩
            rw [hV] at q0 q2 q3 q4 lt2 hTl HFK HPK ⊢
            clear hV fK HPR q1
            rcases HK2.out with ⟨rfl, rfl, rfl, hk, rfl, rfl, rfl⟩ | ⟨rfl, rfl, rfl, rfl, rfl, rfl⟩ | ⟨rfl, rfl, rfl, rfl⟩ | ⟨rfl, rfl, rfl, hk, rfl, rfl⟩
            · rcases hk with rfl | rfl | rfl
              all_goals
                rcases Nat.eq_zero_or_pos j with rfl | hj0
                · have jz : ¬ (0 : Int) < ((0 : Nat) : Int) := by omega
                  go_wp2_with fail
                  go_quiet (fail)
                  go_wp2
                  go_roundg (L - (0 + 1))
                  case rel => exact ⟨0 + 1, rfl, by omega, by go_num, HFK.out.comp (by (repeat (first | (with_reducible exact Fr.refl _ _) | (with_reducible assumption) | (with_reducible exact Fr.of_nil (by assumption)) | (with_reducible refine Fr.drew ?_) | (with_reducible refine Fr.drewN ?_ _) | (with_reducible refine Fr.alloc ?_ _) | (with_reducible refine Fr.set ?_ _ _ (by first | (intros; omega) | (simp; done) | (simp; omega))) | (with_reducible refine Fr.via ?_ (by assumption)) | (with_reducible refine Fr.comp ?_ (by assumption)))))⟩
                  case measure => omega
                · obtain ⟨pl, hpl, hc4⟩ := HPK.out hj0
                  obtain ⟨i, rfl⟩ : ∃ i, j = i + 1 := ⟨j - 1, by omega⟩
                  have jz : (0 : Int) < ((i + 1 : Nat) : Int) := by omega
                  have jw : IntKind.i64.wrap (((i + 1 : Nat) : Int) - 1) = (i : Int) := by rw [IntKind.wrap_i64]; omega
                  have ji : (i : Int) < (L : Int) := by omega
                  have jj : (0 : Int) ≤ (i : Int) := by omega
                  rw [Nat.add_sub_cancel] at hc4
                  have hpl2 : ¬ (t4 : Int) < (pl : Int) := by omega
                  go_wp2_with fail
                  go_quiet (fail)
                  go_wp2
                  go_roundg (L - (i + 1 + 1))
                  case rel => exact ⟨i + 1 + 1, rfl, by omega, by go_num, HFK.out.comp (by (repeat (first | (with_reducible exact Fr.refl _ _) | (with_reducible assumption) | (with_reducible exact Fr.of_nil (by assumption)) | (with_reducible refine Fr.drew ?_) | (with_reducible refine Fr.drewN ?_ _) | (with_reducible refine Fr.alloc ?_ _) | (with_reducible refine Fr.set ?_ _ _ (by first | (intros; omega) | (simp; done) | (simp; omega))) | (with_reducible refine Fr.via ?_ (by assumption)) | (with_reducible refine Fr.comp ?_ (by assumption)))))⟩
                  case measure => omega
            · rcases Nat.eq_zero_or_pos j with rfl | hj0
              · have jz : ¬ (0 : Int) < ((0 : Nat) : Int) := by omega
                go_wp2_with fail
                go_quiet (fail)
                go_wp2
                go_roundg (L - (0 + 1))
                case rel => exact ⟨0 + 1, rfl, by omega, by go_num, HFK.out.comp (by (repeat (first | (with_reducible exact Fr.refl _ _) | (with_reducible assumption) | (with_reducible exact Fr.of_nil (by assumption)) | (with_reducible refine Fr.drew ?_) | (with_reducible refine Fr.drewN ?_ _) | (with_reducible refine Fr.alloc ?_ _) | (with_reducible refine Fr.set ?_ _ _ (by first | (intros; omega) | (simp; done) | (simp; omega))) | (with_reducible refine Fr.via ?_ (by assumption)) | (with_reducible refine Fr.comp ?_ (by assumption)))))⟩
                case measure => omega
              · obtain ⟨pl, hpl, hc4⟩ := HPK.out hj0
                obtain ⟨i, rfl⟩ : ∃ i, j = i + 1 := ⟨j - 1, by omega⟩
                have jz : (0 : Int) < ((i + 1 : Nat) : Int) := by omega
                have jw : IntKind.i64.wrap (((i + 1 : Nat) : Int) - 1) = (i : Int) := by rw [IntKind.wrap_i64]; omega
                have ji : (i : Int) < (L : Int) := by omega
                have jj : (0 : Int) ≤ (i : Int) := by omega
                rw [Nat.add_sub_cancel] at hc4
                have hpl2 : ¬ (t4 : Int) < (pl : Int) := by omega
                go_wp2_with fail
                go_quiet (fail)
                go_wp2
                go_roundg (L - (i + 1 + 1))
                case rel => exact ⟨i + 1 + 1, rfl, by omega, by go_num, HFK.out.comp (by (repeat (first | (with_reducible exact Fr.refl _ _) | (with_reducible assumption) | (with_reducible exact Fr.of_nil (by assumption)) | (with_reducible refine Fr.drew ?_) | (with_reducible refine Fr.drewN ?_ _) | (with_reducible refine Fr.alloc ?_ _) | (with_reducible refine Fr.set ?_ _ _ (by first | (intros; omega) | (simp; done) | (simp; omega))) | (with_reducible refine Fr.via ?_ (by assumption)) | (with_reducible refine Fr.comp ?_ (by assumption)))))⟩
                case measure => omega
            · rcases Nat.eq_zero_or_pos j with rfl | hj0
              · have jz : ¬ (0 : Int) < ((0 : Nat) : Int) := by omega
                go_wp2_with fail
                go_quiet (fail)
                go_wp2
                go_roundg (L - (0 + 1))
                case rel => exact ⟨0 + 1, rfl, by omega, by go_num, HFK.out.comp (by (repeat (first | (with_reducible exact Fr.refl _ _) | (with_reducible assumption) | (with_reducible exact Fr.of_nil (by assumption)) | (with_reducible refine Fr.drew ?_) | (with_reducible refine Fr.drewN ?_ _) | (with_reducible refine Fr.alloc ?_ _) | (with_reducible refine Fr.set ?_ _ _ (by first | (intros; omega) | (simp; done) | (simp; omega))) | (with_reducible refine Fr.via ?_ (by assumption)) | (with_reducible refine Fr.comp ?_ (by assumption)))))⟩
                case measure => omega
              · obtain ⟨pl, hpl, hc4⟩ := HPK.out hj0
                obtain ⟨i, rfl⟩ : ∃ i, j = i + 1 := ⟨j - 1, by omega⟩
                have jz : (0 : Int) < ((i + 1 : Nat) : Int) := by omega
                have jw : IntKind.i64.wrap (((i + 1 : Nat) : Int) - 1) = (i : Int) := by rw [IntKind.wrap_i64]; omega
                have ji : (i : Int) < (L : Int) := by omega
                have jj : (0 : Int) ≤ (i : Int) := by omega
                rw [Nat.add_sub_cancel] at hc4
                have hpl2 : ¬ (t4 : Int) < (pl : Int) := by omega
                go_wp2_with fail
                go_quiet (fail)
                go_wp2
                go_roundg (L - (i + 1 + 1))
                case rel => exact ⟨i + 1 + 1, rfl, by omega, by go_num, HFK.out.comp (by (repeat (first | (with_reducible exact Fr.refl _ _) | (with_reducible assumption) | (with_reducible exact Fr.of_nil (by assumption)) | (with_reducible refine Fr.drew ?_) | (with_reducible refine Fr.drewN ?_ _) | (with_reducible refine Fr.alloc ?_ _) | (with_reducible refine Fr.set ?_ _ _ (by first | (intros; omega) | (simp; done) | (simp; omega))) | (with_reducible refine Fr.via ?_ (by assumption)) | (with_reducible refine Fr.comp ?_ (by assumption)))))⟩
                case measure => omega
            · rcases hk with rfl | rfl
              all_goals
                rcases Nat.eq_zero_or_pos j with rfl | hj0
                · have jz : ¬ (0 : Int) < ((0 : Nat) : Int) := by omega
                  go_wp2_with fail
                  go_quiet (fail)
                  go_wp2
                  go_roundg (L - (0 + 1))
                  case rel => exact ⟨0 + 1, rfl, by omega, by go_num, HFK.out.comp (by (repeat (first | (with_reducible exact Fr.refl _ _) | (with_reducible assumption) | (with_reducible exact Fr.of_nil (by assumption)) | (with_reducible refine Fr.drew ?_) | (with_reducible refine Fr.drewN ?_ _) | (with_reducible refine Fr.alloc ?_ _) | (with_reducible refine Fr.set ?_ _ _ (by first | (intros; omega) | (simp; done) | (simp; omega))) | (with_reducible refine Fr.via ?_ (by assumption)) | (with_reducible refine Fr.comp ?_ (by assumption)))))⟩
                  case measure => omega
                · obtain ⟨pl, hpl, hc4⟩ := HPK.out hj0
                  obtain ⟨i, rfl⟩ : ∃ i, j = i + 1 := ⟨j - 1, by omega⟩
                  have jz : (0 : Int) < ((i + 1 : Nat) : Int) := by omega
                  have jw : IntKind.i64.wrap (((i + 1 : Nat) : Int) - 1) = (i : Int) := by rw [IntKind.wrap_i64]; omega
                  have ji : (i : Int) < (L : Int) := by omega
                  have jj : (0 : Int) ≤ (i : Int) := by omega
                  rw [Nat.add_sub_cancel] at hc4
                  have hpl2 : ¬ (t4 : Int) < (pl : Int) := by omega
                  go_wp2_with fail
                  go_quiet (fail)
                  go_wp2
                  go_roundg (L - (i + 1 + 1))
                  case rel => exact ⟨i + 1 + 1, rfl, by omega, by go_num, HFK.out.comp (by (repeat (first | (with_reducible exact Fr.refl _ _) | (with_reducible assumption) | (with_reducible exact Fr.of_nil (by assumption)) | (with_reducible refine Fr.drew ?_) | (with_reducible refine Fr.drewN ?_ _) | (with_reducible refine Fr.alloc ?_ _) | (with_reducible refine Fr.set ?_ _ _ (by first | (intros; omega) | (simp; done) | (simp; omega))) | (with_reducible refine Fr.via ?_ (by assumption)) | (with_reducible refine Fr.comp ?_ (by assumption)))))⟩
                  case measure => omega
      · obtain rfl : j = L := by omega
        have i1 : ¬ ((j : Int) < (j : Int)) := by omega
        go_wp2
        go_ret
        exact ⟨rfl, by (repeat (first | (with_reducible exact Fr.refl _ _) | (with_reducible assumption) | (with_reducible exact Fr.of_nil (by assumption)) | (with_reducible refine Fr.drew ?_) | (with_reducible refine Fr.drewN ?_ _) | (with_reducible refine Fr.alloc ?_ _) | (with_reducible refine Fr.set ?_ _ _ (by first | (intros; omega) | (simp; done) | (simp; omega))) | (with_reducible refine Fr.via ?_ (by assumption)) | (with_reducible refine Fr.comp ?_ (by assumption))))⟩
  · have t1 : (5000 : Int) < (s.size : Int) := by omega
    go_enter Tryd.func6, Tryd.ntmps6
    go_wp2_with fail
    refine (HA.out).mono ?_
    rintro e w1 ⟨rfl, f1⟩
    go_wp2
    go_ret
    exact ⟨rfl, by (repeat (first | (with_reducible exact Fr.refl _ _) | (with_reducible assumption) | (with_reducible exact Fr.of_nil (by assumption)) | (with_reducible refine Fr.drew ?_) | (with_reducible refine Fr.drewN ?_ _) | (with_reducible refine Fr.alloc ?_ _) | (with_reducible refine Fr.set ?_ _ _ (by first | (intros; omega) | (simp; done) | (simp; omega))) | (with_reducible refine Fr.via ?_ (by assumption)) | (with_reducible refine Fr.comp ?_ (by assumption))))⟩
end Go.Proofs.YtomcmelgioamlaaDoor
