/-
  The law RingOnce: the walk. No conditions.
-/
import Derived.Test.YtlpdlhmdhlcdlaaL05j
import Derived.Test.YtlpdlhmdhlcdlaaMapI
import Derived.Test.YtlpdlhmdhlcdlaaOnceP
namespace Go.Proofs.Ytlpdlhmdhlcdlaa
set_option linter.unusedSimpArgs false
set_option linter.unusedVariables false
open Go.RowKit Go.Shelf Go.Maps

/-- The blocks that a round turns: the rings' and the map's. -/
def PY (rg ba bw sb bi : Nat) : Nat → Prop := fun b => PX rg ba bw sb b ∨ b = bi
set_option maxRecDepth 100000 in
set_option maxHeartbeats 4000000 in
theorem once_in (m : Nat) (h1 : 1 ≤ m) (h2 : m ≤ 2000) (v : Value) (zs : List Act2) (w : World) (hv : RowActs2 w v zs) (hz : zs.length ≤ 60) :
    Calls Try.prog 4 #[.int .i64 (m : Int), v] w fun e w' => e = .returned (.bool true) ∧ Fr Nil w w' := by
  obtain ⟨a, cap, rfl, hrow⟩ := hv
  have HX := Lib.hid hrow
  have hmm := @run_makeMap Try.prog
  have c1 : ¬ (m : Int) < 1 := by omega
  have c2 : ¬ (2000 : Int) < (m : Int) := by omega
  have c3 : ¬ (60 : Int) < (zs.length : Int) := by omega
  have d1 := decide_eq_false c1
  have d2 := decide_eq_false c2
  have d3 := decide_eq_false c3
  clear hrow
  go_enter Try.func4, Try.ntmps4
  go_wp2_with fail
  refine (awake_any _).mono ?_
  rintro e w0 ⟨rfl, f0⟩
  go_wp2_with fail
  refine (made_any m w0 h1 (by omega)).mono ?_
  rintro e w1 ⟨ba, bw, rg, sb, rfl, hR, hB, s1, s2, s3, s4, f1⟩
  have fw1 : Fr Nil w w1 := by (repeat (first | (with_reducible exact Fr.refl _ _) | (with_reducible assumption) | (with_reducible exact Fr.of_nil (by assumption)) | (with_reducible refine Fr.drew ?_) | (with_reducible refine Fr.drewN ?_ _) | (with_reducible refine Fr.alloc ?_ _) | (with_reducible refine Fr.set ?_ _ _ (by first | (intros; omega) | (simp; done) | (simp; omega))) | (with_reducible refine Fr.via ?_ (by assumption)) | (with_reducible refine Fr.comp ?_ (by assumption))))
  go_wp2_with fail
  obtain ⟨bi, hbi⟩ : ∃ bi, w1.heap.size = bi := ⟨_, rfl⟩
  obtain ⟨W1, hW1⟩ : ∃ W1, w1.alloc (.map #[] 0) = W1 := ⟨_, rfl⟩
  have sz0 := f0.size
  have hlt4 : rg < bi ∧ ba < bi ∧ bw < bi ∧ sb < bi := by
    have t := hR.lts
    have t4 := hB.lt
    omega
  have fW : Fr Nil w1 W1 := by rw [← hW1]; (repeat (first | (with_reducible exact Fr.refl _ _) | (with_reducible assumption) | (with_reducible exact Fr.of_nil (by assumption)) | (with_reducible refine Fr.drew ?_) | (with_reducible refine Fr.drewN ?_ _) | (with_reducible refine Fr.alloc ?_ _) | (with_reducible refine Fr.set ?_ _ _ (by first | (intros; omega) | (simp; done) | (simp; omega))) | (with_reducible refine Fr.via ?_ (by assumption)) | (with_reducible refine Fr.comp ?_ (by assumption))))
  have hS0 : RefR W1 (PY rg ba bw sb bi) sb m ⟨[], [], [], []⟩ := ((RefR.made (rg := rg) (ba := ba) (bw := bw) hB).ext (Y := PY rg ba bw sb bi) (.inl (.inl rfl)) (fun b q => by rcases q with q | q; exact .inl q; exact .inr (by omega))).fr fW
  have hM0 : IMap W1 bi 0 [] (cntF (Seg4.all ⟨[], [], [], []⟩)) := by rw [← hW1, ← hbi]; exact IMap.made w1
  have HR := Lib.hid (And.intro (hR.fr fW (fun q => q) (fun q => q) (fun q => q)) (And.intro hS0 hM0))
  have HNE : Hid (∀ b, PY rg ba bw sb bi b → w.heap.size ≤ b) := fun b q => by
    rcases q with (q | q | q | q) | q <;> omega
  have hbl := hM0.lt
  have HLT : Hid (∀ b, PY rg ba bw sb bi b → b < W1.heap.size) := fun b q => by
    rcases q with (q | q | q | q) | q <;> omega
  have HL4 := Lib.hid hlt4
  have fw1' : Fr Nil w W1 := fw1.comp fW
  rw [hbi, hW1]
  clear hR hB s1 s2 s3 s4 f0 f1 fw1 fW hS0 hM0 hlt4 hW1 hbi hbl sz0
  go_loopg [10] zs.length (fun g iv wr => ∃ (j u : Nat) (S : Seg4) (ks : List Int), g = zs.length - j ∧ j ≤ zs.length ∧ iv = .int .i64 j ∧ Hid (RingIs wr rg ba bw m S u ∧ RefR wr (PY rg ba bw sb bi) sb m S ∧ IMap wr bi (2 * j) ks (cntF S.all)) ∧ u ≤ 300000 * j ∧ Fr (PY rg ba bw sb bi) W1 wr)
  case atStart => exact ⟨0, 0, _, _, rfl, by omega, rfl, HR, by omega, Fr.refl _ _⟩
  case round =>
    obtain ⟨j, u, S, ks, rfl, hj, rfl, HS, hu, hw⟩ := hrel
    by_cases hlt : j < zs.length
    · obtain ⟨b, off, rfl, hcell⟩ := HX.out (by omega)
      obtain ⟨x, hxj⟩ : ∃ x, zs[j]? = some x := ⟨_, List.getElem?_eq_getElem hlt⟩
      obtain ⟨e0, e1⟩ := hcell j x hxj
      obtain ⟨K, N⟩ := x
      simp only at e0 e1
      have fwr : Fr Nil w wr := fw1'.trans hw (fun k hk q => by have := HNE.out k q; omega)
      have r0 := fwr.cell e0 (by simp [Nil])
      have r1 := fwr.cell e1 (by simp [Nil])
      have b1 : (0 : Int) ≤ (j : Int) := by omega
      have b2 : (j : Int) < (zs.length : Int) := by omega
      have hb0 : b < wr.heap.size := World.block_lt_of_cell? _ _ r0
      have hsz := HS.out.1.sizes
      have HZ := Lib.hid hsz
      have hle : S.all.length ≤ 100000 := by have := hsz.1; omega
      have HRI := Lib.hid (right_any sb m S K N wr HS.out.2.1 hle (fun y hy => by have := (hsz.2.2.1.le y hy).2; omega))
      have hbw : b < w.heap.size := World.block_lt_of_cell? _ _ e0
      clear hcell hxj hsz e0 e1
      go_wp2_with fail
      refine HRI.out.mono ?_
      obtain ⟨rb, hrb⟩ : ∃ rb, rightB S K N = rb := ⟨_, rfl⟩
      rw [hrb]
      rintro e w2 ⟨rfl, f2⟩
      have HRB := Lib.hid hrb
      clear hrb
      cases rb with
      | false =>
        go_wp2
        go_roundg (zs.length - (j + 1))
        case rel => exact ⟨j + 1, u, S, ks, rfl, by omega, by go_num, Lib.hid ⟨HS.out.1.fr f2 (fun q => q) (fun q => q) (fun q => q), HS.out.2.1.fr f2, (HS.out.2.2.fr f2 (fun q => q)).mono (by omega)⟩, by omega, hw.via f2⟩
        case measure => omega
      | true =>
        obtain ⟨S', c, bb, ee, hst⟩ := rstep_total m S.W S.F S.G S.B K N
        have HST := Lib.hid hst
        have HDO := Lib.hid (ldo_any hst rg ba bw sb u w2 (HS.out.1.fr f2 (fun q => q) (fun q => q) (fun q => q)) (by omega) (HS.out.2.1.fr f2) h2 hle HRB.out)
        clear hst
        have r0' := f2.cell r0 (by simp [Nil])
        have r1' := f2.cell r1 (by simp [Nil])
        have hb2 : b < w2.heap.size := World.block_lt_of_cell? _ _ r0'
        go_wp2_with fail
        refine HDO.out.mono ?_
        rintro e w3 ⟨rfl, ⟨u3, hR3, hu3⟩, f3⟩
        obtain ⟨z0, z1, z2, z3, hbz, _, _, _, _⟩ := (HS.out.2.1.fr f2).blk
        obtain ⟨ne1, ne2, ne3⟩ := RingIs.apart (HS.out.1.fr f2 (fun q => q) (fun q => q) (fun q => q)) hbz
        have hrs : ¬ RS rg ba bw sb := fun q => by
          rcases q with q | q | q
          · exact ne2 q.symm
          · exact ne1 q.symm
          · exact ne3 q.symm
        have hri : ¬ RS rg ba bw bi := fun q => by
          have := HL4.out
          rcases q with q | q | q <;> omega
        have hS3 : RefR w3 (PY rg ba bw sb bi) sb m S := (HS.out.2.1.fr f2).frS f3 (fun g q => .inl (.inr q)) hrs
        have hM3 : IMap w3 bi (2 * j) ks (cntF S.all) := (HS.out.2.2.fr f2 (fun q => q)).fr f3 hri
        have hw3 : Fr (PY rg ba bw sb bi) W1 w3 := (hw.via f2).comp (f3.mono (fun _ _ q => .inl (.inr q)))
        have hb3 : b < w3.heap.size := f3.lt hb2
        have hnb : ¬ RS rg ba bw b := fun q => by have := HNE.out b (.inl (.inr q)); omega
        have hnb2 : b ≠ sb := fun q => by have := HNE.out b (.inl (.inl q)); omega
        have hnb4 : b ≠ bi := fun q => by have := HNE.out b (.inr q); omega
        have g0 := f3.cell r0' hnb
        have g1 := f3.cell r1' hnb
        have hsb3 := hS3.lt
        have hbi3 := hM3.lt
        have hX3 : ∀ b, PY rg ba bw sb bi b → b < w3.heap.size := fun b q => Nat.lt_of_lt_of_le (HLT.out b q) hw3.size
        have hsz3 := hR3.sizes
        have hnd := HS.out.1.sizes.2.1
        have hos := once_step HST.out
        have HOS := Lib.hid hos
        have hm3 := hsz3.1
        have H3 := Lib.hid (And.intro hR3 (And.intro hS3 (And.intro hw3 (And.intro hX3 (And.intro hnd (And.intro hM3 hsz3))))))
        clear hbz hR3 hS3 hw3 hX3 hnd r0 r1 r0' r1' HDO HRI hw fwr f2 f3 hrs hnb hos hM3 hsz3 hri
        go_wp2_with fail
        have fT : Fr Nil w3 (w3.alloc (Obj.cells #[Value.int IntKind.i64 ↑c, Value.bool bb, Value.int IntKind.i64 ↑ee] 47)) := by (repeat (first | (with_reducible exact Fr.refl _ _) | (with_reducible assumption) | (with_reducible exact Fr.of_nil (by assumption)) | (with_reducible refine Fr.drew ?_) | (with_reducible refine Fr.drewN ?_ _) | (with_reducible refine Fr.alloc ?_ _) | (with_reducible refine Fr.set ?_ _ _ (by first | (intros; omega) | (simp; done) | (simp; omega))) | (with_reducible refine Fr.via ?_ (by assumption)) | (with_reducible refine Fr.comp ?_ (by assumption))))
        have p0 : (w3.alloc (Obj.cells #[Value.int IntKind.i64 ↑c, Value.bool bb, Value.int IntKind.i64 ↑ee] 47)).cell? ⟨w3.heap.size, 0, none⟩ = some (.int .i64 (c : Int)) := by simp
        have p2 : (w3.alloc (Obj.cells #[Value.int IntKind.i64 ↑c, Value.bool bb, Value.int IntKind.i64 ↑ee] 47)).cell? ⟨w3.heap.size, 2, none⟩ = some (.int .i64 (ee : Int)) := by simp
        refine (ddo_any HST.out sb _ (H3.out.2.1.fr fT) (by omega) hle H3.out.2.2.2.2.1 (fun b q => fT.lt (H3.out.2.2.2.1 b q))).mono ?_
        rintro e w4 ⟨rfl, hS4, f4⟩
        have f4' : Fr (fun x => x = sb) w3 w4 := Fr.trans (S := fun x => x = sb) (Fr.of_nil fT) f4 (fun _ _ q => q)
        obtain ⟨T, hT⟩ : ∃ T, w3.heap.size = T := ⟨_, rfl⟩
        have hsbi : sb ≠ bi := by have := HL4.out; omega
        have hTs : ¬ (fun x => x = sb) T := fun q => by have q' : T = sb := q; omega
        rw [hT] at p0 p2 ⊢
        have t0 := f4.cell p0 hTs
        have t2 := f4.cell p2 hTs
        have s0 := f4'.cell g0 hnb2
        have s1 := f4'.cell g1 hnb2
        have hT4 : T < w4.heap.size := World.block_lt_of_cell? _ _ t0
        have hb4 := f4'.lt hb3
        have hTi : T ≠ bi := by omega
        have H4 := Lib.hid (And.intro (H3.out.1.fr f4' ne2 ne1 ne3) (And.intro hS4 (And.intro (H3.out.2.2.1.comp (f4'.mono (fun _ _ q => .inl (.inl q)))) (H3.out.2.2.2.2.2.1.fr f4' (fun q => hsbi q.symm)))))
        clear p0 p2 fT f4 f4' g0 g1 hTs hS4
        go_upto_region 15 with fail
        go_cut [78] (fun sv wx => sv = .bool (decide (ee = 0 ∧ K = 0)) ∧ w4 = wx)
        case first =>
          by_cases q1 : ee = 0
          · subst q1
            by_cases q2 : K = 0
            · subst q2
              go_wp2
              go_meet
              exact ⟨rfl, rfl⟩
            · have q3 := decide_eq_false q2
              go_wp2
              go_meet
              exact ⟨by simp [q2], rfl⟩
          · have q2 : ¬ ((ee : Nat) : Int) = 0 := by omega
            have q3 := decide_eq_false q2
            go_wp2
            go_meet
            exact ⟨by simp [q1], rfl⟩
        case rest =>
          obtain ⟨rfl, hwc⟩ := hcut
          subst hwc
          obtain ⟨f1, hf1⟩ : ∃ f1, (if ee = 0 ∧ K = 0 then cntF S'.all else cntF S.all) = f1 := ⟨_, rfl⟩
          have HF1 := Lib.hid hf1
          clear hf1
          go_upto_if 78 with fail
          go_cut [] (fun wx => ∃ ks1, Hid (IMap wx bi (2 * j + 1) ks1 f1 ∧ Fr (fun x => x = bi) w4 wx))
          case first =>
            by_cases hA : ee = 0 ∧ K = 0
            · have dA := decide_eq_true hA
              obtain ⟨⟨c', hN, hc'⟩, hup⟩ := HOS.out.1 hA
              have hwN : (Lit.int .i64 N).wf = true := wf_small (by omega) (by omega)
              have hcl := cntF_le S.all N
              have hwv : (Lit.int .i64 (cntF S.all N + 1)).wf = true := wf_small (by omega) (by omega)
              have hww : IntKind.i64.wrap (cntF S.all N + 1) = cntF S.all N + 1 := by rw [IntKind.wrap_i64]; omega
              have HHP := Lib.hid (And.intro hup (And.intro hwN hwv))
              clear hup hwN hwv hN hc' hcl
              go_wp2_with (first
                | (at_lookup; refine wp_look _ rfl _ _ rfl bi (2 * j) ks (cntF S.all) rfl H4.out.2.2.2 N rfl HHP.out.2.1 ?_)
                | (at_mapUpdate; refine wp_put _ rfl _ _ _ rfl bi (2 * j) ks (cntF S.all) rfl H4.out.2.2.2 (by omega) N (cntF S.all N + 1) rfl rfl HHP.out.2.1 HHP.out.2.2 ?_; intro w5 hM5 f5 hz5)
                | go_in)
              go_frame
              go_meet
              refine ⟨if N ∈ ks then ks else ks ++ [N], Lib.hid ⟨?_, f5⟩⟩
              rw [← HF1.out, if_pos hA, ← HHP.out.1]
              exact hM5
            · have dA := decide_eq_false hA
              go_wp2
              go_meet
              refine ⟨ks, Lib.hid ⟨?_, Fr.refl _ _⟩⟩
              rw [← HF1.out, if_neg hA]
              exact H4.out.2.2.2.mono (by omega)
          case rest =>
            obtain ⟨ks1, HM5⟩ := hcut
            have t0 := HM5.out.2.cell t0 hTi
            have t2 := HM5.out.2.cell t2 hTi
            have s0 := HM5.out.2.cell s0 hnb4
            have s1 := HM5.out.2.cell s1 hnb4
            obtain ⟨w5, hw5⟩ : ∃ w5, wc = w5 := ⟨_, rfl⟩
            rw [hw5] at HM5 t0 t2 s0 s1 ⊢
            clear hw5
            go_upto_region 17 with fail
            go_cut [105] (fun sv wx => sv = .bool (decide (ee = 0 ∧ (K < 0 ∨ 6 < K))) ∧ w5 = wx)
            case first =>
              by_cases q1 : ee = 0
              · subst q1
                by_cases q2 : 6 < K
                · have q3 := decide_eq_true q2
                  go_wp2
                  go_meet
                  exact ⟨by simp [q2], rfl⟩
                · have q3 := decide_eq_false q2
                  by_cases q4 : K < 0
                  · have q5 := decide_eq_true q4
                    go_wp2
                    go_meet
                    exact ⟨by simp [q4], rfl⟩
                  · have q5 := decide_eq_false q4
                    go_wp2
                    go_meet
                    exact ⟨by simp [q2, q4], rfl⟩
              · have q2 : ¬ ((ee : Nat) : Int) = 0 := by omega
                have q3 := decide_eq_false q2
                go_wp2
                go_meet
                exact ⟨by simp [q1], rfl⟩
            case rest =>
              obtain ⟨rfl, hwc⟩ := hcut
              subst hwc
              go_upto_if 105 with fail
              go_cut [] (fun wx => ∃ ks2, Hid (IMap wx bi (2 * j + 2) ks2 (cntF S'.all) ∧ Fr (fun x => x = bi) w5 wx))
              case first =>
                by_cases hA : ee = 0 ∧ (K < 0 ∨ 6 < K)
                · have dA := decide_eq_true hA
                  obtain ⟨hcS, hup⟩ := HOS.out.2.1 hA
                  have hf : f1 = cntF S.all := by rw [← HF1.out, if_neg (by omega)]
                  have hcm := (HZ.out.2.2.1.le c hcS).2
                  have hwN : (Lit.int .i64 (c : Int)).wf = true := wf_small (by omega) (by omega)
                  have hcl := cntF_le S.all (c : Int)
                  have hwv : (Lit.int .i64 (cntF S.all (c : Int) - 1)).wf = true := wf_small (by omega) (by omega)
                  have hww : IntKind.i64.wrap (cntF S.all (c : Int) - 1) = cntF S.all (c : Int) - 1 := by rw [IntKind.wrap_i64]; omega
                  have HHP := Lib.hid (And.intro hup (And.intro hwN hwv))
                  rw [hf] at HM5
                  clear hup hwN hwv hcl hf
                  go_wp2_with (first
                    | (at_lookup; refine wp_look _ rfl _ _ rfl bi (2 * j + 1) ks1 (cntF S.all) rfl HM5.out.1 (c : Int) rfl HHP.out.2.1 ?_)
                    | (at_mapUpdate; refine wp_put _ rfl _ _ _ rfl bi (2 * j + 1) ks1 (cntF S.all) rfl HM5.out.1 (by omega) (c : Int) (cntF S.all (c : Int) - 1) rfl rfl HHP.out.2.1 HHP.out.2.2 ?_; intro w6 hM6 f6 hz6)
                    | go_in)
                  go_frame
                  go_meet
                  refine ⟨if (c : Int) ∈ ks1 then ks1 else ks1 ++ [(c : Int)], Lib.hid ⟨?_, f6⟩⟩
                  rw [← HHP.out.1]
                  exact hM6
                · have dA := decide_eq_false hA
                  go_wp2
                  go_meet
                  refine ⟨ks1, Lib.hid ⟨?_, Fr.refl _ _⟩⟩
                  have hf : f1 = cntF S'.all := by
                    rw [← HF1.out]
                    by_cases q : ee = 0 ∧ K = 0
                    · rw [if_pos q]
                    · rw [if_neg q]; exact HOS.out.2.2 q hA
                  rw [← hf]
                  exact HM5.out.1.mono (by omega)
              case rest =>
                obtain ⟨ks2, HM6⟩ := hcut
                obtain ⟨w6, hw6⟩ : ∃ w6, wc = w6 := ⟨_, rfl⟩
                rw [hw6] at HM6 ⊢
                clear hw6 t0 t2 s0 s1
                have f46 : Fr (fun x => x = bi) w4 w6 := HM5.out.2.comp HM6.out.2
                have hli := HL4.out
                have H6 := Lib.hid (And.intro (H4.out.1.fr f46 (fun q => by have q' : rg = bi := q; omega) (fun q => by have q' : ba = bi := q; omega) (fun q => by have q' : bw = bi := q; omega)) (And.intro (H4.out.2.1.frS f46 (fun g q => .inr q) hsbi) (And.intro (H4.out.2.2.1.comp (f46.mono (fun _ _ q => .inr q))) HM6.out.1)))
                clear f46 hli
                go_wp2_with fail
                obtain ⟨bs, hbs⟩ : ∃ bs, w6.heap.size = bs := ⟨_, rfl⟩
                obtain ⟨W6, hW6⟩ : ∃ W6, w6.alloc (.map #[] 0) = W6 := ⟨_, rfl⟩
                have fW6 : Fr Nil w6 W6 := by rw [← hW6]; (repeat (first | (with_reducible exact Fr.refl _ _) | (with_reducible assumption) | (with_reducible exact Fr.of_nil (by assumption)) | (with_reducible refine Fr.drew ?_) | (with_reducible refine Fr.drewN ?_ _) | (with_reducible refine Fr.alloc ?_ _) | (with_reducible refine Fr.set ?_ _ _ (by first | (intros; omega) | (simp; done) | (simp; omega))) | (with_reducible refine Fr.via ?_ (by assumption)) | (with_reducible refine Fr.comp ?_ (by assumption))))
                have hQ0 : IMap W6 bs 0 [] (cntF []) := by rw [← hW6, ← hbs]; exact IMap.made w6
                have hX6 : ∀ b, PY rg ba bw sb bi b → b < bs := fun b q => by have := HLT.out b q; have := H6.out.2.2.1.size; omega
                have hbsW := hQ0.lt
                rw [hbs, hW6]
                clear hW6
                refine (list_any rg ba bw m u3 S' _ (H6.out.1.fr fW6 (fun q => q) (fun q => q) (fun q => q)) (by omega)).mono ?_
                rintro e wL ⟨⟨y0, y1, y2, y3, rfl, rr0, rr1, rr2, rr3⟩, ⟨uL, hRL, huL⟩, fL⟩
                have hbab : ba ≠ bs := fun q => by have := hX6 ba (.inl (.inr (.inr (.inl rfl)))); omega
                have hbabi : ba ≠ bi := fun q => by have := HL4.out; omega
                have HRR := Lib.hid (And.intro (rr0.toB (X := fun _ => False) (fun _ q => q.elim)) (And.intro (rr1.toB (X := fun _ => False) (fun _ q => q.elim)) (And.intro (rr2.toB (X := fun _ => False) (fun _ q => q.elim)) (rr3.toB (X := fun _ => False) (fun _ q => q.elim)))))
                have hQL : IMap wL bs 0 [] (cntF []) := hQ0.fr fL (fun q => hbab q.symm)
                have fL' : Fr (fun x => x = ba) w6 wL := Fr.trans (S := fun x => x = ba) (Fr.of_nil fW6) fL (fun _ _ q => q)
                have hszL := fL.size
                have HL6 := Lib.hid (And.intro hRL (And.intro hQL fL'))
                clear rr0 rr1 rr2 rr3 hRL hQL fL' fL fW6 hQ0
                go_wp2_with fail
                refine (around_any (X := fun _ => False) S' y0 y1 y2 y3 _ HRR.out.1 HRR.out.2.1 HRR.out.2.2.1 HRR.out.2.2.2 (by omega)).mono ?_
                rintro e w7 ⟨vA, rfl, hrA, f7⟩
                have hown := hrA.own
                have hrV := hrA.toV
                obtain ⟨aA, kA, rfl⟩ := hrV.shape
                obtain ⟨n, hn⟩ : ∃ n, S'.all.length = n := ⟨_, rfl⟩
                have HRW : Hid (∀ w', Fr (fun x => x = bs) w7 w' → RowV w' (.slice aA S'.all.length kA) S'.all) := fun w' f => hrV.frS f (fun g hg q => by have := (hown g hg).1; have q' : g = bs := q; omega)
                have H7 := Lib.hid (And.intro (HL6.out.2.1.fr f7 (fun q => q)) f7)
                have HN := Lib.hid hn
                rw [hn] at HRW hm3 ⊢
                have hsz7 := f7.size
                clear hrA hown hrV f7 hn
                go_wp2_with fail
                go_loopg [14] n (fun g iv wr2 => ∃ (k : Nat) (ks3 : List Int), g = n - k ∧ k ≤ n ∧ iv = .int .i64 k ∧ Hid (IMap wr2 bs k ks3 (cntF (S'.all.take k)) ∧ ∀ y ∈ ks3, ∃ z ∈ S'.all, (z : Int) = y) ∧ Fr (fun x => x = bs) w7 wr2)
                case atStart => exact ⟨0, [], rfl, by omega, rfl, Lib.hid ⟨by simpa using H7.out.1, fun y q => by simp at q⟩, Fr.refl _ _⟩
                case round =>
                  obtain ⟨k, ks3, rfl, hk, rfl, HK, hw8⟩ := hrel
                  by_cases hlt2 : k < n
                  · have hkL : k < S'.all.length := by have := HN.out; omega
                    obtain ⟨g, eg, pk⟩ := (HRW.out _ hw8).get k hkL
                    cases eg
                    obtain ⟨y, ey⟩ : ∃ y, S'.all[k] = y := ⟨_, rfl⟩
                    rw [ey] at pk
                    have hyS : y ∈ S'.all := by rw [← ey]; exact List.getElem_mem hkL
                    have hym := (H3.out.2.2.2.2.2.2.2.2.1.le y hyS).2
                    have hwN : (Lit.int .i64 (y : Int)).wf = true := wf_small (by omega) (by omega)
                    have hcl := cntF_le (S'.all.take k) (y : Int)
                    have hcl2 : (S'.all.take k).length ≤ k := by simp; omega
                    have hwv : (Lit.int .i64 (cntF (S'.all.take k) (y : Int) + 1)).wf = true := wf_small (by omega) (by omega)
                    have hww : IntKind.i64.wrap (cntF (S'.all.take k) (y : Int) + 1) = cntF (S'.all.take k) (y : Int) + 1 := by rw [IntKind.wrap_i64]; omega
                    have hup : (fun z => if z = (y : Int) then cntF (S'.all.take k) (y : Int) + 1 else cntF (S'.all.take k) z) = cntF (S'.all.take (k + 1)) := by
                      funext z
                      rw [List.take_add_one, List.getElem?_eq_getElem hkL, ey]
                      simp only [Option.toList_some]
                      rw [cntF_snoc]
                      by_cases q : z = (y : Int)
                      · subst q; rfl
                      · rw [if_neg q, if_neg q]
                    have HHP := Lib.hid (And.intro hup (And.intro hwN (And.intro hwv hyS)))
                    have i0 : (0 : Int) ≤ (k : Int) := by omega
                    have i1 : (k : Int) < (n : Int) := by omega
                    clear hup hwN hwv hcl hcl2 hym hyS ey hkL
                    go_wp2_with (first
                      | (at_lookup; refine wp_look _ rfl _ _ rfl bs k ks3 (cntF (S'.all.take k)) rfl HK.out.1 (y : Int) rfl HHP.out.2.1 ?_)
                      | (at_mapUpdate; refine wp_put _ rfl _ _ _ rfl bs k ks3 (cntF (S'.all.take k)) rfl HK.out.1 (by omega) (y : Int) (cntF (S'.all.take k) (y : Int) + 1) rfl rfl HHP.out.2.1 HHP.out.2.2.1 ?_; intro w9 hM9 f9 hz9)
                      | go_in)
                    go_roundg (n - (k + 1))
                    case rel =>
                      refine ⟨k + 1, if (y : Int) ∈ ks3 then ks3 else ks3 ++ [(y : Int)], rfl, by omega, by go_num, Lib.hid ⟨?_, fun z hz => ?_⟩, hw8.comp f9⟩
                      · rw [← HHP.out.1]; exact hM9
                      · by_cases q : (y : Int) ∈ ks3
                        · rw [if_pos q] at hz; exact HK.out.2 z hz
                        · rw [if_neg q] at hz
                          rcases List.mem_append.1 hz with hz | hz
                          · exact HK.out.2 z hz
                          · exact ⟨y, HHP.out.2.2.2, (List.mem_singleton.1 hz).symm⟩
                    case measure => omega
                  · obtain rfl : k = n := by omega
                    have i1 : ¬ ((k : Int) < (k : Int)) := by omega
                    have hnd7 : S'.all.Nodup := H3.out.2.2.2.2.2.2.2.2.1.nodup
                    have HQ : Hid (IMap wr bs k ks3 (cntF S'.all)) := by
                      have h := HK.out.1
                      rw [List.take_of_length_le (by rw [HN.out]; exact Nat.le_refl _)] at h
                      exact h
                    have f6r : Fr (fun x => x = ba) w6 wr := Fr.trans (S := fun x => x = ba) (HL6.out.2.2.via H7.out.2) hw8 (fun g hg q => by have q' : g = bs := q; omega)
                    have fLr : Fr (fun x => x = bs) wL wr := Fr.trans (S := fun x => x = bs) (Fr.of_nil H7.out.2) hw8 (fun _ _ q => q)
                    obtain ⟨D, hD, hDa, hDh, hDs⟩ := H6.out.2.2.2.fr f6r (fun q => hbabi q.symm)
                    obtain ⟨w8, hw8e⟩ : ∃ w8, wr = w8 := ⟨_, rfl⟩
                    rw [hw8e] at HQ f6r fLr hD hw8 ⊢
                    obtain ⟨r, hr⟩ : ∃ r, w8.heap.size = r := ⟨_, rfl⟩
                    have hsz8 := hw8.size
                    have H8 := Lib.hid (And.intro f6r (And.intro fLr (And.intro hDa hnd7)))
                    clear hw8e f6r fLr hw8 hDa hDh hDs hnd7
                    go_wp2_with (first
                      | (at_range; refine wpList_range_own _ rfl _ 42 rfl 3 3 intK Try.underlying42 _ bi (2 * j + 2) D rfl hD ?_; intro w9 hrg0 hg0 hs0)
                      | go_in)
                    try go_frame
                    try rw [hr]
                    rw [hr] at hrg0
                    have hsb9 : bs < w8.heap.size := by omega
                    have HD0 := Lib.hid (And.intro hrg0 (Fr.grown (Fr.refl Nil w8) hg0 (fun k q _ => by cases q)))
                    clear hrg0 hg0 hD
                    go_loopg [15] (Maps.size D) (fun g _ wr3 => ∃ (left : Lit → Bool) (cnt : Nat), g = cnt ∧ Hid (wr3.ranges Try.prog 3 (plainElem Try.prog 3) bi r (2 * j + 2) D left cnt) ∧ Fr (fun x => x = r) w9 wr3)
                    case atStart => exact ⟨_, _, rfl, Lib.hid HD0.out.1, Fr.refl _ _⟩
                    case round =>
                      obtain ⟨left, cnt, rfl, HG, hw10⟩ := hrel
                      have fM : Fr (fun x => x = r) w8 wr := (Fr.of_nil HD0.out.2).comp hw10
                      have hrs8 : ¬ (fun x => x = r) bs := fun q => by have q' : bs = r := q; omega
                      go_wp2_with (first
                        | (at_next; refine wpList_next_ranges_ii _ rfl _ rfl 3 3 .i64 .i64 intK Try.underlying3 Try.underlying3 bi r (2 * j + 2) D left _ rfl HG.out ?_ ?_)
                        | go_in)
                      · intro hc0 hl0
                        obtain ⟨w10, hw10e⟩ : ∃ w10, wr = w10 := ⟨_, rfl⟩
                        rw [hw10e] at fM ⊢
                        have hsz10 := fM.size
                        have hri : ¬ (fun x => x = r) bi := fun q => by have q' : bi = r := q; have := hX6 bi (.inr rfl); omega
                        obtain ⟨D2, hE, hEa, hEh, hEs⟩ := HQ.out.fr fM hrs8
                        obtain ⟨r2, hr2⟩ : ∃ r2, w10.heap.size = r2 := ⟨_, rfl⟩
                        have hI10 := (H6.out.2.2.2.fr H8.out.1 (fun q => hbabi q.symm)).fr fM hri
                        have h6M : Fr (fun x => x = ba) w6 w10 := H8.out.1.trans fM (fun g hg q => by have q' : g = r := q; omega)
                        have hLM : Fr (fun x => x = bs) wL w10 := H8.out.2.1.trans fM (fun g hg q => by have q' : g = r := q; omega)
                        have H10 := Lib.hid (And.intro hI10 (And.intro h6M (And.intro hLM (And.intro hEa hEh))))
                        clear hI10 h6M hLM hEa hEh hEs fM HG hw10 hw10e
                        go_wp2_with (first
                          | (at_range; refine wpList_range_own _ rfl _ 42 rfl 3 3 intK Try.underlying42 _ bs k D2 rfl hE ?_; intro w11 hrg0 hg0 hs0)
                          | go_in)
                        try go_frame
                        try rw [hr2]
                        rw [hr2] at hrg0
                        have HE0 := Lib.hid (And.intro hrg0 (Fr.grown (Fr.refl Nil w10) hg0 (fun k q _ => by cases q)))
                        clear hrg0 hg0 hE
                        go_loopg [17] (Maps.size D2) (fun g _ wr4 => ∃ (left : Lit → Bool) (cnt : Nat), g = cnt ∧ Hid (wr4.ranges Try.prog 3 (plainElem Try.prog 3) bs r2 k D2 left cnt) ∧ Fr (fun x => x = r2) w11 wr4)
                        case atStart => exact ⟨_, _, rfl, Lib.hid HE0.out.1, Fr.refl _ _⟩
                        case round =>
                          obtain ⟨left, cnt, rfl, HG, hw12⟩ := hrel
                          have fM : Fr (fun x => x = r2) w10 wr := (Fr.of_nil HE0.out.2).comp hw12
                          have hri2 : ¬ (fun x => x = r2) bi := fun q => by have q' : bi = r2 := q; have := hX6 bi (.inr rfl); omega
                          go_wp2_with (first
                            | (at_next; refine wpList_next_ranges_ii _ rfl _ rfl 3 3 .i64 .i64 intK Try.underlying3 Try.underlying3 bs r2 k D2 left _ rfl HG.out ?_ ?_)
                            | go_in)
                          · intro hc0 hl0
                            have h6E : Fr (fun x => x = ba) w6 wr := H10.out.2.1.trans fM (fun g hg q => by have q' : g = r2 := q; omega)
                            have hLE : Fr (fun x => x = bs) wL wr := H10.out.2.2.1.trans fM (fun g hg q => by have q' : g = r2 := q; omega)
                            have hx1 := hX6 rg (.inl (.inr (.inl rfl)))
                            have hx2 := hX6 ba (.inl (.inr (.inr (.inl rfl))))
                            have hx3 := hX6 bw (.inl (.inr (.inr (.inr rfl))))
                            have HFIN := Lib.hid (And.intro (HL6.out.1.fr hLE (fun q => by have q' : rg = bs := q; omega) (fun q => by have q' : ba = bs := q; omega) (fun q => by have q' : bw = bs := q; omega)) (And.intro (H6.out.2.1.frS h6E (fun g q => .inl (.inr (.inr (.inl q)))) (fun q => ne1 q.symm)) (And.intro (H6.out.2.2.2.fr h6E (fun q => hbabi q.symm)) (H6.out.2.2.1.comp (h6E.mono (fun _ _ q => .inl (.inr (.inr (.inl q)))))))))
                            clear h6E hLE HG fM
                            go_wp2_with fail
                            go_roundg (zs.length - (j + 1))
                            case rel => exact ⟨j + 1, uL, S', ks2, rfl, by omega, by go_num, Lib.hid ⟨HFIN.out.1, HFIN.out.2.1, HFIN.out.2.2.1⟩, by omega, HFIN.out.2.2.2⟩
                            case measure => omega
                          · intro x c wA cnt1 hwx hwc hlx hat hrg1 hlt1 hg1 hs1 hen
                            have ex : cntF S'.all x = c := by
                              have e1 := (H10.out.2.2.2.1 x hwx).symm.trans (hat _)
                              injection e1 with e1
                              injection e1 with _ e1
                            have hks : x ∈ ks3 := by
                              have e1 := has_true_of_atKey hat
                              rw [H10.out.2.2.2.2] at e1
                              exact of_decide_eq_true e1
                            obtain ⟨z, hz1, rfl⟩ := HK.out.2 x hks
                            have hone : cntF S'.all (z : Int) = 1 := cntF_one H8.out.2.2.2 hz1
                            rw [hone] at ex
                            subst ex
                            have fA : Fr (fun x => x = r2) wr wA := Fr.grown (Fr.refl _ _) hg1 (fun k q _ => by cases q; rfl)
                            have hIA := (H10.out.1.fr fM hri2).fr fA hri2
                            have hlk := hIA.run hwx
                            rw [hone] at hlk
                            clear hks hz1 hat hIA
                            go_wp2
                            go_roundg cnt1
                            case rel => exact ⟨_, cnt1, rfl, Lib.hid hrg1, hw12.comp fA⟩
                            case measure => exact hlt1
                      · intro x c wA cnt1 hwx hwc hlx hat hrg1 hlt1 hg1 hs1 hen
                        have ex : cntF S'.all x = c := by
                          have e1 := (H8.out.2.2.1 x hwx).symm.trans (hat _)
                          injection e1 with e1
                          injection e1 with _ e1
                        subst ex
                        have fA : Fr (fun x => x = r) wr wA := Fr.grown (Fr.refl _ _) hg1 (fun k q _ => by cases q; rfl)
                        have hQA := (HQ.out.fr fM hrs8).fr fA hrs8
                        go_wp2_with (first
                          | (at_lookup; refine wp_look _ rfl _ _ rfl bs k ks3 (cntF S'.all) rfl hQA x rfl hwx ?_)
                          | go_in)
                        go_roundg cnt1
                        case rel => exact ⟨_, cnt1, rfl, Lib.hid hrg1, hw10.comp fA⟩
                        case measure => exact hlt1
    · obtain rfl : j = zs.length := by omega
      have i1 : ¬ ((zs.length : Int) < (zs.length : Int)) := by omega
      have fwr : Fr Nil w wr := fw1'.trans hw (fun k hk q => by have := HNE.out k q; omega)
      clear HX
      go_wp2
      go_ret
      exact ⟨rfl, fwr⟩
theorem once_wide (x : Int) (v : Value) (zs : List Act2) (w : World) (hv : RowActs2 w v zs) (ho : x < 1 ∨ 2000 < x ∨ 60 < zs.length) :
    Calls Try.prog 4 #[.int .i64 x, v] w fun e w' => e = .returned (.bool true) ∧ Fr Nil w w' := by
  obtain ⟨a, cap, rfl, hrow⟩ := hv
  clear hrow
  by_cases c1 : x < 1
  · have d1 := decide_eq_true c1
    clear ho
    go_enter Try.func4, Try.ntmps4
    go_wp2_with fail
    refine (awake_any _).mono ?_
    rintro e w0 ⟨rfl, f0⟩
    go_wp2
    go_ret
    exact ⟨rfl, f0⟩
  · have d1 := decide_eq_false c1
    by_cases c2 : 2000 < x
    · have d2 := decide_eq_true c2
      clear ho
      go_enter Try.func4, Try.ntmps4
      go_wp2_with fail
      refine (awake_any _).mono ?_
      rintro e w0 ⟨rfl, f0⟩
      go_wp2
      go_ret
      exact ⟨rfl, f0⟩
    · have d2 := decide_eq_false c2
      have c3 : (60 : Int) < (zs.length : Int) := by omega
      have d3 := decide_eq_true c3
      clear ho
      go_enter Try.func4, Try.ntmps4
      go_wp2_with fail
      refine (awake_any _).mono ?_
      rintro e w0 ⟨rfl, f0⟩
      go_wp2
      go_ret
      exact ⟨rfl, f0⟩
theorem once_any (x : Int) (v : Value) (zs : List Act2) (w : World) (hv : RowActs2 w v zs) :
    Calls Try.prog 4 #[.int .i64 x, v] w fun e w' => e = .returned (.bool true) ∧ Fr Nil w w' := by
  by_cases h : x < 1 ∨ 2000 < x ∨ 60 < zs.length
  · exact once_wide x v zs w hv h
  · obtain ⟨m, rfl⟩ := Int.eq_ofNat_of_zero_le (by omega : 0 ≤ x)
    exact once_in m (by omega) (by omega) v zs w hv (by omega)
end Go.Proofs.Ytlpdlhmdhlcdlaa
