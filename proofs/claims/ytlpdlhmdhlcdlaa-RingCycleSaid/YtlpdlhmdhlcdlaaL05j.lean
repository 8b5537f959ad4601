/-
  The law RingPlays: the loop. No conditions.
-/
import Derived.Test.YtlpdlhmdhlcdlaaL05i
import Derived.Test.YtlpdlhmdhlcdlaaHeldBy
import Derived.Deep.DeepCutAuto
namespace Go.Proofs.Ytlpdlhmdhlcdlaa
set_option linter.unusedSimpArgs false
set_option linter.unusedVariables false
open Go.RowKit Go.Shelf

theorem same_self (A0 A1 A2 A3 : List Nat) (v0 v1 v2 v3 u0 u1 u2 u3 : Value) (w : World)
    (h0 : RowV w v0 A0) (h1 : RowV w v1 A1) (h2 : RowV w v2 A2) (h3 : RowV w v3 A3) (g0 : RowV w u0 A0) (g1 : RowV w u1 A1) (g2 : RowV w u2 A2) (g3 : RowV w u3 A3)
    (l0 : A0.length ≤ 1000000) (l1 : A1.length ≤ 1000000) (l2 : A2.length ≤ 1000000) (l3 : A3.length ≤ 1000000) :
    Calls Try.prog 24 #[.agg #[v0, v1, v2, v3], .agg #[u0, u1, u2, u3]] w fun e w' => e = .returned (.bool true) ∧ Fr Nil w w' := by
  have h := same_any A0 A1 A2 A3 A0 A1 A2 A3 v0 v1 v2 v3 u0 u1 u2 u3 w h0 h1 h2 h3 g0 g1 g2 g3 l0 l1 l2 l3
  rw [decide_eq_true ⟨rfl, rfl, rfl, rfl⟩] at h
  exact h
theorem RingIs.apart {w : World} {rg ba bw sb n u : Nat} {R : Seg4} {cs : Array Value} (h : RingIs w rg ba bw n R u) (hb : Blk w sb cs 58) : ba ≠ sb ∧ rg ≠ sb ∧ bw ≠ sb := by
  obtain ⟨l, f, b, h, _⟩ := h
  exact ⟨h.ar.box.apart hb (by decide), h.blk.apart hb (by decide), h.ar.words.apart hb (by decide)⟩
theorem holds_fr {w w' : World} {b cap : Nat} {l : List Int} (h : HoldsInts w b cap l) (f : Fr Nil w w') : HoldsInts w' b cap l := by
  obtain ⟨cur, hb, r⟩ := h
  exact ⟨cur, f.blk hb (fun q => q), r⟩
set_option maxRecDepth 100000 in
set_option maxHeartbeats 4000000 in
theorem plays_in (m : Nat) (h1 : 1 ≤ m) (h2 : m ≤ 2000) (v : Value) (zs : List Act2) (w : World) (hv : RowActs2 w v zs) (hz : zs.length ≤ 60) :
    Calls Try.prog 6 #[.int .i64 (m : Int), v] w fun e w' => e = .returned (.bool true) ∧ Fr Nil w w' := by
  obtain ⟨a, cap, rfl, hrow⟩ := hv
  have HX := Lib.hid hrow
  have c1 : ¬ (m : Int) < 1 := by omega
  have c2 : ¬ (2000 : Int) < (m : Int) := by omega
  have c3 : ¬ (60 : Int) < (zs.length : Int) := by omega
  have d1 := decide_eq_false c1
  have d2 := decide_eq_false c2
  have d3 := decide_eq_false c3
  clear hrow
  go_enter Try.func6, Try.ntmps6
  go_wp2_with fail
  refine (awake_any _).mono ?_
  rintro e w0 ⟨rfl, f0⟩
  go_wp2_with fail
  refine (made_any m w0 h1 (by omega)).mono ?_
  rintro e w1 ⟨ba, bw, rg, sb, rfl, hR, hB, s1, s2, s3, s4, f1⟩
  have fw1 : Fr Nil w w1 := by (repeat (first | (with_reducible exact Fr.refl _ _) | (with_reducible assumption) | (with_reducible exact Fr.of_nil (by assumption)) | (with_reducible refine Fr.drew ?_) | (with_reducible refine Fr.drewN ?_ _) | (with_reducible refine Fr.alloc ?_ _) | (with_reducible refine Fr.set ?_ _ _ (by first | (intros; omega) | (simp; done) | (simp; omega))) | (with_reducible refine Fr.via ?_ (by assumption)) | (with_reducible refine Fr.comp ?_ (by assumption))))
  have HR := Lib.hid (And.intro hR (RefR.made (rg := rg) (ba := ba) (bw := bw) hB))
  have sz0 := f0.size
  have HNE : Hid (∀ b, PX rg ba bw sb b → w.heap.size ≤ b) := fun b q => by
    rcases q with q | q | q | q <;> omega
  have HLT : Hid (∀ b, PX rg ba bw sb b → b < w1.heap.size) := fun b q => by
    have t := hR.lts
    have t4 := hB.lt
    rcases q with q | q | q | q <;> omega
  clear hR hB s1 s2 s3 s4 f0 f1
  go_wp2_with fail
  go_loopg [9] zs.length (fun g iv wr => ∃ (j u : Nat) (S : Seg4), g = zs.length - j ∧ j ≤ zs.length ∧ iv = .int .i64 j ∧ Hid (RingIs wr rg ba bw m S u ∧ RefR wr (PX rg ba bw sb) sb m S) ∧ u ≤ 300000 * j ∧ Fr (PX rg ba bw sb) w1 wr)
  case atStart => exact ⟨0, 0, _, rfl, by omega, rfl, HR, by omega, Fr.refl _ _⟩
  case round =>
    obtain ⟨j, u, S, rfl, hj, rfl, HS, hu, hw⟩ := hrel
    by_cases hlt : j < zs.length
    · obtain ⟨b, off, rfl, hcell⟩ := HX.out (by omega)
      obtain ⟨x, hxj⟩ : ∃ x, zs[j]? = some x := ⟨_, List.getElem?_eq_getElem hlt⟩
      obtain ⟨e0, e1⟩ := hcell j x hxj
      obtain ⟨K, N⟩ := x
      simp only at e0 e1
      have fwr : Fr Nil w wr := fw1.trans hw (fun k hk q => by have := HNE.out k q; omega)
      have r0 := fwr.cell e0 (by simp [Nil])
      have r1 := fwr.cell e1 (by simp [Nil])
      have b1 : (0 : Int) ≤ (j : Int) := by omega
      have b2 : (j : Int) < (zs.length : Int) := by omega
      have hb0 : b < wr.heap.size := World.block_lt_of_cell? _ _ r0
      have hsz := HS.out.1.sizes
      have HZ := Lib.hid hsz
      have hle : S.all.length ≤ 100000 := by have := hsz.1; omega
      have HRI := Lib.hid (right_any sb m S K N wr HS.out.2 hle (fun y hy => by have := (hsz.2.2.1.le y hy).2; omega))
      clear hcell hxj hsz
      go_wp2_with fail
      refine HRI.out.mono ?_
      obtain ⟨rb, hrb⟩ : ∃ rb, rightB S K N = rb := ⟨_, rfl⟩
      rw [hrb]
      rintro e w2 ⟨rfl, f2⟩
      have HRB := Lib.hid hrb
      clear hrb
      cases rb with
      | false =>
        go_wp2
        go_roundg (zs.length - (j + 1))
        case rel => exact ⟨j + 1, u, S, rfl, by omega, by go_num, Lib.hid ⟨HS.out.1.fr f2 (fun q => q) (fun q => q) (fun q => q), HS.out.2.fr f2⟩, by omega, hw.via f2⟩
        case measure => omega
      | true =>
        obtain ⟨S', c, bb, ee, hst⟩ := rstep_total m S.W S.F S.G S.B K N
        have HST := Lib.hid hst
        have HDO := Lib.hid (ldo_any hst rg ba bw sb u w2 (HS.out.1.fr f2 (fun q => q) (fun q => q) (fun q => q)) (by omega) (HS.out.2.fr f2) h2 hle HRB.out)
        clear hst
        have r0' := f2.cell r0 (by simp [Nil])
        have r1' := f2.cell r1 (by simp [Nil])
        have hb2 : b < w2.heap.size := World.block_lt_of_cell? _ _ r0'
        go_wp2_with fail
        refine HDO.out.mono ?_
        rintro e w3 ⟨rfl, ⟨u3, hR3, hu3⟩, f3⟩
        obtain ⟨z0, z1, z2, z3, hbz, _, _, _, _⟩ := (HS.out.2.fr f2).blk
        obtain ⟨ne1, ne2, ne3⟩ := RingIs.apart (HS.out.1.fr f2 (fun q => q) (fun q => q) (fun q => q)) hbz
        have hrs : ¬ RS rg ba bw sb := fun q => by
          rcases q with q | q | q
          · exact ne2 q.symm
          · exact ne1 q.symm
          · exact ne3 q.symm
        have hS3 : RefR w3 (PX rg ba bw sb) sb m S := (HS.out.2.fr f2).frS f3 (fun g q => .inr q) hrs
        have hw3 : Fr (PX rg ba bw sb) w1 w3 := (hw.via f2).comp (f3.mono (fun _ _ q => .inr q))
        have hb3 : b < w3.heap.size := f3.lt hb2
        have hbw : b < w.heap.size := World.block_lt_of_cell? _ _ e0
        have hnb : ¬ RS rg ba bw b := fun q => by have := HNE.out b (.inr q); omega
        have hnb2 : b ≠ sb := fun q => by have := HNE.out b (.inl q); omega
        have g0 := f3.cell r0' hnb
        have g1 := f3.cell r1' hnb
        have hsb3 := hS3.lt
        have hX3 : ∀ b, PX rg ba bw sb b → b < w3.heap.size := fun b q => Nat.lt_of_lt_of_le (HLT.out b q) hw3.size
        have hsz3 := hR3.sizes.1
        have hnd := HS.out.1.sizes.2.1
        have H3 := Lib.hid (And.intro hR3 (And.intro hS3 (And.intro hw3 (And.intro hX3 hnd))))
        have hnt := run_neq_told
        have hnf := run_neq_four
        clear hbz hR3 hS3 hw3 hX3 hnd r0 r1 r0' r1' e0 e1 HDO HRI hw fwr f2 f3 hrs hnb
        go_upto_if 88 with fail
        go_cut [88] (fun sv wx => sv = .bool false ∧ ∃ (u' : Nat), Hid (RingIs wx rg ba bw m S' u' ∧ RefR wx (PX rg ba bw sb) sb m S') ∧ u' ≤ 300000 * (j + 1) ∧ Fr (PX rg ba bw sb) w1 wx)
        case first =>
          obtain ⟨T, hT⟩ : ∃ T, w3.heap.size = T := ⟨_, rfl⟩
          have hbT : b ≠ T := by omega
          have hsT : sb ≠ T := by omega
          have p0 : ((w3.alloc (Obj.cells #[Value.int IntKind.i64 ↑c, Value.bool bb, Value.int IntKind.i64 ↑ee] 47)).drew).cell? ⟨T, 0, none⟩ = some (.int .i64 (c : Int)) := by rw [← hT]; simp
          have p1 : ((w3.alloc (Obj.cells #[Value.int IntKind.i64 ↑c, Value.bool bb, Value.int IntKind.i64 ↑ee] 47)).drew).cell? ⟨T, 1, none⟩ = some (.bool bb) := by rw [← hT]; simp
          have p2 : ((w3.alloc (Obj.cells #[Value.int IntKind.i64 ↑c, Value.bool bb, Value.int IntKind.i64 ↑ee] 47)).drew).cell? ⟨T, 2, none⟩ = some (.int .i64 (ee : Int)) := by rw [← hT]; simp
          have fW : Fr Nil w3 ((w3.alloc (Obj.cells #[Value.int IntKind.i64 ↑c, Value.bool bb, Value.int IntKind.i64 ↑ee] 47)).drew) := by (repeat (first | (with_reducible exact Fr.refl _ _) | (with_reducible assumption) | (with_reducible exact Fr.of_nil (by assumption)) | (with_reducible refine Fr.drew ?_) | (with_reducible refine Fr.drewN ?_ _) | (with_reducible refine Fr.alloc ?_ _) | (with_reducible refine Fr.set ?_ _ _ (by first | (intros; omega) | (simp; done) | (simp; omega))) | (with_reducible refine Fr.via ?_ (by assumption)) | (with_reducible refine Fr.comp ?_ (by assumption))))
          have p3 := fW.cell g0 (by simp [Nil])
          have p4 := fW.cell g1 (by simp [Nil])
          rw [hT]
          refine wp_region_held_drew (S := fun w' => w'.cell? ⟨T, 0, none⟩ = some (.int .i64 (c : Int)) ∧ w'.cell? ⟨T, 1, none⟩ = some (.bool bb) ∧ w'.cell? ⟨T, 2, none⟩ = some (.int .i64 (ee : Int)) ∧ w'.cell? ⟨b, off + j * 2, none⟩ = some (.int .i64 K) ∧ w'.cell? ⟨b, off + j * 2 + 1, none⟩ = some (.int .i64 N)) (by kernel_rfl) ⟨p0, p1, p2, p3, p4⟩ (fun hHeld => ?_)
          obtain ⟨W0, hW0⟩ : ∃ W0, (w3.alloc (Obj.cells #[Value.int IntKind.i64 ↑c, Value.bool bb, Value.int IntKind.i64 ↑ee] 47)).drew = W0 := ⟨_, rfl⟩
          rw [hW0] at fW hHeld ⊢
          clear p0 p1 p2 p3 p4 hW0
          refine held_take (i := 0) (v := ?_) rfl (by kernel_rfl) (by kernel_rfl) (by kernel_rfl) (fun _ _ _ h => h) (by rfl) (by assumption) ?_ ?_
          rotate_left
          · (intro w hSw; (try dsimp only at hSw); go_simp; try with_reducible rfl)
          try simp only [Act.put, List.setIfInBounds_toArray, List.set_cons_zero, List.set_cons_succ]
          refine held_take (i := 1) (v := ?_) rfl (by kernel_rfl) (by kernel_rfl) (by kernel_rfl) (fun _ _ _ h => h) (by rfl) (by assumption) ?_ ?_
          rotate_left
          · (intro w hSw; (try dsimp only at hSw); go_simp; try with_reducible rfl)
          try simp only [Act.put, List.setIfInBounds_toArray, List.set_cons_zero, List.set_cons_succ]
          refine held_take (i := 2) (v := ?_) rfl (by kernel_rfl) (by kernel_rfl) (by kernel_rfl) (fun _ _ _ h => h) (by rfl) (by assumption) ?_ ?_
          rotate_left
          · (intro w hSw; (try dsimp only at hSw); go_simp; try with_reducible rfl)
          try simp only [Act.put, List.setIfInBounds_toArray, List.set_cons_zero, List.set_cons_succ]
          refine held_take (i := 3) (v := ?_) rfl (by kernel_rfl) (by kernel_rfl) (by kernel_rfl) (fun _ _ _ h => h) (by rfl) (by assumption) ?_ ?_
          rotate_left
          · (intro w hSw; (try dsimp only at hSw); go_simp; try with_reducible rfl)
          try simp only [Act.put, List.setIfInBounds_toArray, List.set_cons_zero, List.set_cons_succ]
          refine held_take (i := 4) (v := ?_) rfl (by kernel_rfl) (by kernel_rfl) (by kernel_rfl) (fun _ _ _ h => h) (by rfl) (by assumption) ?_ ?_
          rotate_left
          · (intro w hSw; (try dsimp only at hSw); go_simp; try with_reducible rfl)
          try simp only [Act.put, List.setIfInBounds_toArray, List.set_cons_zero, List.set_cons_succ]
          refine held_take (i := 5) (v := ?_) rfl (by kernel_rfl) (by kernel_rfl) (by kernel_rfl) (fun _ _ _ h => h) (by rfl) (by assumption) ?_ ?_
          rotate_left
          · (intro w hSw; (try dsimp only at hSw); go_simp; try with_reducible rfl)
          try simp only [Act.put, List.setIfInBounds_toArray, List.set_cons_zero, List.set_cons_succ]
          refine held_one (i := 6) rfl (by kernel_rfl) (fun Kc hKc => ?_)
          go_simp
          refine (ddo_any HST.out sb _ (H3.out.2.1.fr fW) (by omega) hle H3.out.2.2.2.2 (fun b q => fW.lt (H3.out.2.2.2.1 b q))).mono ?_
          rintro e wD ⟨rfl, hSD, fD⟩
          have fWD : Fr (fun x => x = sb) w3 wD := Fr.trans (S := fun x => x = sb) (Fr.of_nil fW) fD (fun _ _ q => q)
          have hRD : RingIs wD rg ba bw m S' u3 := H3.out.1.fr fWD ne2 ne1 ne3
          have hwD : Fr (PX rg ba bw sb) w1 wD := H3.out.2.2.1.comp (fWD.mono (fun _ _ q => .inl q))
          obtain ⟨v0, v1, v2, v3, hbD, h0, h1', h2', h3⟩ := hSD.blk
          have q0 := hbD.cell 0
          have q1 := hbD.cell 1
          have q2 := hbD.cell 2
          have q3 := hbD.cell 3
          simp at q0 q1 q2 q3
          have HD := Lib.hid (And.intro hRD (And.intro hSD (And.intro hwD (And.intro h0 (And.intro h1' (And.intro h2' h3))))))
          have hq := hHeld
          clear hSD hRD hwD hbD h0 h1' h2' h3 fWD fW
          go_wp2_with fail
          refine hKc.out _ _ (⟨fD.cell hq.1 (fun q => hsT q.symm), fD.cell hq.2.1 (fun q => hsT q.symm), fD.cell hq.2.2.1 (fun q => hsT q.symm), fD.cell hq.2.2.2.1 hnb2, fD.cell hq.2.2.2.2 hnb2⟩) (fun hHeld => ?_)
          clear hKc Kc
          try simp only [Act.put, List.setIfInBounds_toArray, List.set_cons_zero, List.set_cons_succ]
          clear hq fD
          refine held_turn (S' := fun w' => (w'.cell? ⟨T, 0, none⟩ = some (.int .i64 (c : Int)) ∧ w'.cell? ⟨T, 1, none⟩ = some (.bool bb) ∧ w'.cell? ⟨T, 2, none⟩ = some (.int .i64 (ee : Int)) ∧ w'.cell? ⟨b, off + j * 2, none⟩ = some (.int .i64 K) ∧ w'.cell? ⟨b, off + j * 2 + 1, none⟩ = some (.int .i64 N)) ∧ w'.cell? ⟨sb, 0, none⟩ = some v0 ∧ w'.cell? ⟨sb, 1, none⟩ = some v1 ∧ w'.cell? ⟨sb, 2, none⟩ = some v2 ∧ w'.cell? ⟨sb, 3, none⟩ = some v3) (fun _ h => h.1) _ _ _ _ ?_
          have hHeld2 := And.intro hHeld (And.intro q0 (And.intro q1 (And.intro q2 q3)))
          clear hHeld q0 q1 q2 q3
          have HK : Hid (∀ (X : Nat → Prop) (wA w' : World), Fr X wA w' → ¬ X T → ¬ X b → ¬ X sb → ((wA.cell? ⟨T, 0, none⟩ = some (.int .i64 (c : Int)) ∧ wA.cell? ⟨T, 1, none⟩ = some (.bool bb) ∧ wA.cell? ⟨T, 2, none⟩ = some (.int .i64 (ee : Int)) ∧ wA.cell? ⟨b, off + j * 2, none⟩ = some (.int .i64 K) ∧ wA.cell? ⟨b, off + j * 2 + 1, none⟩ = some (.int .i64 N)) ∧ wA.cell? ⟨sb, 0, none⟩ = some v0 ∧ wA.cell? ⟨sb, 1, none⟩ = some v1 ∧ wA.cell? ⟨sb, 2, none⟩ = some v2 ∧ wA.cell? ⟨sb, 3, none⟩ = some v3) → ((w'.cell? ⟨T, 0, none⟩ = some (.int .i64 (c : Int)) ∧ w'.cell? ⟨T, 1, none⟩ = some (.bool bb) ∧ w'.cell? ⟨T, 2, none⟩ = some (.int .i64 (ee : Int)) ∧ w'.cell? ⟨b, off + j * 2, none⟩ = some (.int .i64 K) ∧ w'.cell? ⟨b, off + j * 2 + 1, none⟩ = some (.int .i64 N)) ∧ w'.cell? ⟨sb, 0, none⟩ = some v0 ∧ w'.cell? ⟨sb, 1, none⟩ = some v1 ∧ w'.cell? ⟨sb, 2, none⟩ = some v2 ∧ w'.cell? ⟨sb, 3, none⟩ = some v3)) := fun X wA wB f a1 a2 a3 h => ⟨⟨f.cell h.1.1 a1, f.cell h.1.2.1 a1, f.cell h.1.2.2.1 a1, f.cell h.1.2.2.2.1 a2, f.cell h.1.2.2.2.2 a2⟩, f.cell h.2.1 a3, f.cell h.2.2.1 a3, f.cell h.2.2.2.1 a3, f.cell h.2.2.2.2 a3⟩
          have hbaT : ¬ (fun x => x = ba) T := fun q => by have := H3.out.2.2.2.1 ba (.inr (.inr (.inl rfl))); omega
          have hbab : ¬ (fun x => x = ba) b := fun q => by have := HNE.out b (.inr (.inr (.inl q))); omega
          have hbas : ¬ (fun x => x = ba) sb := fun q => ne1 q.symm
          have HNN := Lib.hid (And.intro hbaT (And.intro hbab hbas))
          clear hbaT hbab hbas
          refine held_take (i := 7) (v := ?_) rfl (by kernel_rfl) (by kernel_rfl) (by kernel_rfl) (fun _ _ _ h => h) (by rfl) (by assumption) ?_ ?_
          rotate_left
          · (intro w hSw; (try dsimp only at hSw); go_simp; try with_reducible rfl)
          try simp only [Act.put, List.setIfInBounds_toArray, List.set_cons_zero, List.set_cons_succ]
          refine held_take (i := 8) (v := ?_) rfl (by kernel_rfl) (by kernel_rfl) (by kernel_rfl) (fun _ _ _ h => h) (by rfl) (by assumption) ?_ ?_
          rotate_left
          · (intro w hSw; (try dsimp only at hSw); go_simp; try with_reducible rfl)
          try simp only [Act.put, List.setIfInBounds_toArray, List.set_cons_zero, List.set_cons_succ]
          refine held_take (i := 9) (v := ?_) rfl (by kernel_rfl) (by kernel_rfl) (by kernel_rfl) (fun _ _ _ h => h) (by rfl) (by assumption) ?_ ?_
          rotate_left
          · (intro w hSw; (try dsimp only at hSw); go_simp; try with_reducible rfl)
          try simp only [Act.put, List.setIfInBounds_toArray, List.set_cons_zero, List.set_cons_succ]
          refine held_take (i := 11) (v := ?_) rfl (by kernel_rfl) (by kernel_rfl) (by kernel_rfl) (fun _ _ _ h => h) (by rfl) (by assumption) ?_ ?_
          rotate_left
          · (intro w hSw; (try dsimp only at hSw); go_simp; try with_reducible rfl)
          try simp only [Act.put, List.setIfInBounds_toArray, List.set_cons_zero, List.set_cons_succ]
          refine held_take (i := 12) (v := ?_) rfl (by kernel_rfl) (by kernel_rfl) (by kernel_rfl) (fun _ _ _ h => h) (by rfl) (by assumption) ?_ ?_
          rotate_left
          · (intro w hSw; (try dsimp only at hSw); go_simp; try with_reducible rfl)
          try simp only [Act.put, List.setIfInBounds_toArray, List.set_cons_zero, List.set_cons_succ]
          refine held_take (i := 13) (v := ?_) rfl (by kernel_rfl) (by kernel_rfl) (by kernel_rfl) (fun _ _ _ h => h) (by rfl) (by assumption) ?_ ?_
          rotate_left
          · (intro w hSw; (try dsimp only at hSw); go_simp; try with_reducible rfl)
          try simp only [Act.put, List.setIfInBounds_toArray, List.set_cons_zero, List.set_cons_succ]
          refine held_take (i := 14) (v := ?_) rfl (by kernel_rfl) (by kernel_rfl) (by kernel_rfl) (fun _ _ _ h => h) (by rfl) (by assumption) ?_ ?_
          rotate_left
          · (intro w hSw; (try dsimp only at hSw); go_simp; try with_reducible rfl)
          try simp only [Act.put, List.setIfInBounds_toArray, List.set_cons_zero, List.set_cons_succ]
          refine held_one (i := 10) rfl (by kernel_rfl) (fun Kc hKc => ?_)
          go_simp
          refine (list_any rg ba bw m u3 S' _ HD.out.1 (by omega)).mono ?_
          rintro e wL ⟨⟨t0, t1, t2, t3, rfl, rr0, rr1, rr2, rr3⟩, ⟨uL, hR4, huL⟩, fL⟩
          obtain ⟨_, _, _, l, hll, hcyc, har⟩ := hR4.sizes
          have HL := Lib.hid (And.intro hR4 (And.intro (HD.out.2.1.frS fL (fun g q => .inr (.inr (.inl q))) HNN.out.2.2) (And.intro (HD.out.2.2.1.comp (fL.mono (fun _ _ q => .inr (.inr (.inl q))))) (And.intro hll (And.intro hcyc har)))))
          have HA := Lib.hid (And.intro rr0.toV (And.intro rr1.toV (And.intro rr2.toV rr3.toV)))
          have HV := Lib.hid (And.intro (HD.out.2.2.2.1.frS fL (fun g q => .inr (.inr (.inl q)))) (And.intro (HD.out.2.2.2.2.1.frS fL (fun g q => .inr (.inr (.inl q)))) (And.intro (HD.out.2.2.2.2.2.1.frS fL (fun g q => .inr (.inr (.inl q)))) (HD.out.2.2.2.2.2.2.frS fL (fun g q => .inr (.inr (.inl q)))))))
          have hcin : CellsIn m S'.all := hR4.sizes.2.2.1
          have hlW : S'.W.length ≤ 1000000 ∧ S'.F.length ≤ 1000000 ∧ S'.G.length ≤ 1000000 ∧ S'.B.length ≤ 1000000 := by
            have := hsz3
            simp only [Seg4.all, List.length_append] at this
            omega
          clear rr0 rr1 rr2 rr3 hR4 hll hcyc har
          go_wp2_with fail
          refine hKc.out _ _ (HK.out _ _ _ fL HNN.out.1 HNN.out.2.1 HNN.out.2.2 (by assumption)) (fun hHeld => ?_)
          clear hKc Kc
          try simp only [Act.put, List.setIfInBounds_toArray, List.set_cons_zero, List.set_cons_succ]
          clear hHeld2 fL
          refine held_one (i := 15) rfl (by kernel_rfl) (fun Kc hKc => ?_)
          go_simp
          refine (same_self S'.W S'.F S'.G S'.B t0 t1 t2 t3 v0 v1 v2 v3 _ HA.out.1 HA.out.2.1 HA.out.2.2.1 HA.out.2.2.2 HV.out.1.row HV.out.2.1.row HV.out.2.2.1.row HV.out.2.2.2.row hlW.1 hlW.2.1 hlW.2.2.1 hlW.2.2.2).mono ?_
          rintro e wA ⟨rfl, fA⟩
          go_wp2_with fail
          refine hKc.out _ _ (HK.out _ _ _ fA (fun q => q) (fun q => q) (fun q => q) (by assumption)) (fun hHeld => ?_)
          clear hKc Kc
          try simp only [Act.put, List.setIfInBounds_toArray, List.set_cons_zero, List.set_cons_succ]
          refine held_take (i := 16) (v := ?_) rfl (by kernel_rfl) (by kernel_rfl) (by kernel_rfl) (fun _ _ _ h => h) (by rfl) (by assumption) ?_ ?_
          rotate_left
          · (intro w hSw; (try dsimp only at hSw); go_simp; try with_reducible rfl)
          try simp only [Act.put, List.setIfInBounds_toArray, List.set_cons_zero, List.set_cons_succ]
          refine held_take (i := 17) (v := ?_) rfl (by kernel_rfl) (by kernel_rfl) (by kernel_rfl) (fun _ _ _ h => h) (by rfl) (by assumption) ?_ ?_
          rotate_left
          · (intro w hSw; (try dsimp only at hSw); go_simp; try with_reducible rfl)
          try simp only [Act.put, List.setIfInBounds_toArray, List.set_cons_zero, List.set_cons_succ]
          refine held_take (i := 18) (v := ?_) rfl (by kernel_rfl) (by kernel_rfl) (by kernel_rfl) (fun _ _ _ h => h) (by rfl) (by assumption) ?_ ?_
          rotate_left
          · (intro w hSw; (try dsimp only at hSw); go_simp; try with_reducible rfl)
          try simp only [Act.put, List.setIfInBounds_toArray, List.set_cons_zero, List.set_cons_succ]
          refine held_take (i := 19) (v := ?_) rfl (by kernel_rfl) (by kernel_rfl) (by kernel_rfl) (fun _ _ _ h => h) (by rfl) (by assumption) ?_ ?_
          rotate_left
          · (intro w hSw; (try dsimp only at hSw); go_simp; try with_reducible rfl)
          try simp only [Act.put, List.setIfInBounds_toArray, List.set_cons_zero, List.set_cons_succ]
          refine held_take (i := 21) (v := ?_) rfl (by kernel_rfl) (by kernel_rfl) (by kernel_rfl) (fun _ _ _ h => h) (by rfl) (by assumption) ?_ ?_
          rotate_left
          · (intro w hSw; (try dsimp only at hSw); go_simp; try with_reducible rfl)
          try simp only [Act.put, List.setIfInBounds_toArray, List.set_cons_zero, List.set_cons_succ]
          refine held_take (i := 22) (v := ?_) rfl (by kernel_rfl) (by kernel_rfl) (by kernel_rfl) (fun _ _ _ h => h) (by rfl) (by assumption) ?_ ?_
          rotate_left
          · (intro w hSw; (try dsimp only at hSw); go_simp; try with_reducible rfl)
          try simp only [Act.put, List.setIfInBounds_toArray, List.set_cons_zero, List.set_cons_succ]
          refine held_take (i := 23) (v := ?_) rfl (by kernel_rfl) (by kernel_rfl) (by kernel_rfl) (fun _ _ _ h => h) (by rfl) (by assumption) ?_ ?_
          rotate_left
          · (intro w hSw; (try dsimp only at hSw); go_simp; try with_reducible rfl)
          try simp only [Act.put, List.setIfInBounds_toArray, List.set_cons_zero, List.set_cons_succ]
          refine held_take (i := 24) (v := ?_) rfl (by kernel_rfl) (by kernel_rfl) (by kernel_rfl) (fun _ _ _ h => h) (by rfl) (by assumption) ?_ ?_
          rotate_left
          · (intro w hSw; (try dsimp only at hSw); go_simp; try with_reducible rfl)
          try simp only [Act.put, List.setIfInBounds_toArray, List.set_cons_zero, List.set_cons_succ]
          refine held_one (i := 20) rfl (by kernel_rfl) (fun Kc hKc => ?_)
          go_simp
          refine (rcounts_any (S := S') (h := HL.out.1.fr fA (fun q => q) (fun q => q) (fun q => q))).mono ?_
          rintro e wB ⟨rfl, fB⟩
          have fB' : Fr Nil wL wB := fA.comp fB
          go_wp2_with fail
          refine hKc.out _ _ (HK.out _ _ _ fB (fun q => q) (fun q => q) (fun q => q) (by assumption)) (fun hHeld => ?_)
          clear hKc Kc
          try simp only [Act.put, List.setIfInBounds_toArray, List.set_cons_zero, List.set_cons_succ]
          refine held_one (i := 25) rfl (by kernel_rfl) (fun Kc hKc => ?_)
          go_simp
          refine (counts_any S' v0 v1 v2 v3 _ (HV.out.1.fr fB') (HV.out.2.1.fr fB') (HV.out.2.2.1.fr fB') (HV.out.2.2.2.fr fB')).mono ?_
          rintro e wC ⟨rfl, fC⟩
          have fC' : Fr Nil wL wC := fB'.comp fC
          go_wp2_with fail
          refine hKc.out _ _ (HK.out _ _ _ fC (fun q => q) (fun q => q) (fun q => q) (by assumption)) (fun hHeld => ?_)
          clear hKc Kc
          try simp only [Act.put, List.setIfInBounds_toArray, List.set_cons_zero, List.set_cons_succ]
          refine held_take (i := 26) (v := ?_) rfl (by kernel_rfl) (by kernel_rfl) (by kernel_rfl) (fun _ _ _ h => h) (by rfl) (by assumption) ?_ ?_
          rotate_left
          · (intro w hSw; (try dsimp only at hSw); go_simp; try with_reducible rfl)
          try simp only [Act.put, List.setIfInBounds_toArray, List.set_cons_zero, List.set_cons_succ]
          refine held_take (i := 27) (v := ?_) rfl (by kernel_rfl) (by kernel_rfl) (by kernel_rfl) (fun _ _ _ h => h) (by rfl) (by assumption) ?_ ?_
          rotate_left
          · (intro w hSw; (try dsimp only at hSw); go_simp; try with_reducible rfl)
          try simp only [Act.put, List.setIfInBounds_toArray, List.set_cons_zero, List.set_cons_succ]
          refine held_take (i := 28) (v := ?_) rfl (by kernel_rfl) (by kernel_rfl) (by kernel_rfl) (fun _ _ _ h => h) (by rfl) (by assumption) ?_ ?_
          rotate_left
          · (intro w hSw; (try dsimp only at hSw); go_simp; try with_reducible rfl)
          try simp only [Act.put, List.setIfInBounds_toArray, List.set_cons_zero, List.set_cons_succ]
          refine held_take (i := 29) (v := ?_) rfl (by kernel_rfl) (by kernel_rfl) (by kernel_rfl) (fun _ _ _ h => h) (by rfl) (by assumption) ?_ ?_
          rotate_left
          · (intro w hSw; (try dsimp only at hSw); go_simp; try with_reducible rfl)
          try simp only [Act.put, List.setIfInBounds_toArray, List.set_cons_zero, List.set_cons_succ]
          refine held_take (i := 31) (v := ?_) rfl (by kernel_rfl) (by kernel_rfl) (by kernel_rfl) (fun _ _ _ h => h) (by rfl) (by assumption) ?_ ?_
          rotate_left
          · (intro w hSw; (try dsimp only at hSw); go_simp; try with_reducible rfl)
          try simp only [Act.put, List.setIfInBounds_toArray, List.set_cons_zero, List.set_cons_succ]
          refine held_one (i := 30) rfl (by kernel_rfl) (fun Kc hKc => ?_)
          go_simp
          refine (words_n ba bw l m uL _ (Lib.hid HL.out.2.2.2.1) (HL.out.2.2.2.2.2.fr fC' (fun q => q) (fun q => q)) (by omega) (by omega)).mono ?_
          rintro e wE ⟨wb, wcap, rfl, hWds, _, fE⟩
          have fE' : Fr Nil wL wE := fC'.comp fE
          have HWD := Lib.hid hWds
          clear hWds
          go_wp2_with fail
          refine hKc.out _ _ (HK.out _ _ _ fE (fun q => q) (fun q => q) (fun q => q) (by assumption)) (fun hHeld => ?_)
          clear hKc Kc
          try simp only [Act.put, List.setIfInBounds_toArray, List.set_cons_zero, List.set_cons_succ]
          refine held_one (i := 32) rfl (by kernel_rfl) (fun Kc hKc => ?_)
          go_simp
          refine (all_any sb m S' _ (HL.out.2.1.fr fE') (by omega)).mono ?_
          rintro e wF ⟨vA, rfl, hrA, fF⟩
          have fF' : Fr Nil wL wF := fE'.comp fF
          have HRA := Lib.hid hrA
          clear hrA
          go_wp2_with fail
          refine hKc.out _ _ (HK.out _ _ _ fF (fun q => q) (fun q => q) (fun q => q) (by assumption)) (fun hHeld => ?_)
          clear hKc Kc
          try simp only [Act.put, List.setIfInBounds_toArray, List.set_cons_zero, List.set_cons_succ]
          refine held_one (i := 33) rfl (by kernel_rfl) (fun Kc hKc => ?_)
          go_simp
          refine (linked_any m wb wcap l S'.all vA _ (holds_fr HWD.out fF) HL.out.2.2.2.1 HRA.out.toV HL.out.2.2.2.2.1 hcin (by omega) (by omega)).mono ?_
          rintro e wG ⟨rfl, fG⟩
          have fG' : Fr Nil wL wG := fF'.comp fG
          go_wp2_with fail
          refine hKc.out _ _ (HK.out _ _ _ fG (fun q => q) (fun q => q) (fun q => q) (by assumption)) (fun hHeld => ?_)
          clear hKc Kc
          try simp only [Act.put, List.setIfInBounds_toArray, List.set_cons_zero, List.set_cons_succ]
          refine held_take (i := 34) (v := ?_) rfl (by kernel_rfl) (by kernel_rfl) (by kernel_rfl) (fun _ _ _ h => h) (by rfl) (by assumption) ?_ ?_
          rotate_left
          · (intro w hSw; (try dsimp only at hSw); go_simp; try with_reducible rfl)
          try simp only [Act.put, List.setIfInBounds_toArray, List.set_cons_zero, List.set_cons_succ]
          refine held_take (i := 35) (v := ?_) rfl (by kernel_rfl) (by kernel_rfl) (by kernel_rfl) (fun _ _ _ h => h) (by rfl) (by assumption) ?_ ?_
          rotate_left
          · (intro w hSw; (try dsimp only at hSw); go_simp; try with_reducible rfl)
          try simp only [Act.put, List.setIfInBounds_toArray, List.set_cons_zero, List.set_cons_succ]
          refine wpAnyH_done (by kernel_rfl) ?_ _
          go_wp2_with fail
          subst hT
          go_meet
          exact ⟨rfl, uL, Lib.hid ⟨HL.out.1.fr fG' (fun q => q) (fun q => q) (fun q => q), HL.out.2.1.fr fG'⟩, by omega, HL.out.2.2.1.via fG'⟩
        case rest =>
          obtain ⟨rfl, u', hK, hu', hwx⟩ := hcut
          go_wp2
          go_roundg (zs.length - (j + 1))
          case rel => exact ⟨j + 1, u', S', rfl, by omega, by go_num, hK, hu', hwx⟩
          case measure => omega
    · obtain rfl : j = zs.length := by omega
      have i1 : ¬ ((zs.length : Int) < (zs.length : Int)) := by omega
      have fwr : Fr Nil w wr := fw1.trans hw (fun k hk q => by have := HNE.out k q; omega)
      obtain ⟨v0, v1, v2, v3, hb, h0, h1', h2', h3⟩ := HS.out.2.blk
      have q0 := hb.cell 0
      have q1 := hb.cell 1
      have q2 := hb.cell 2
      have q3 := hb.cell 3
      simp at q0 q1 q2 q3
      have ql := hb.lt
      have hle : S.all.length ≤ 100000 := by have := HS.out.1.sizes.1; omega
      have HL := Lib.hid hle
      have HRV := Lib.hid (And.intro h0 (And.intro h1' (And.intro h2' h3)))
      have HLA := fun V (f : Fr Nil wr V) => list_any rg ba bw m u S V (HS.out.1.fr f (fun q => q) (fun q => q) (fun q => q)) (by omega)
      have HLAH := Lib.hid HLA
      have hnb : sb ≠ ba := fun q => (HS.out.1.apart hb).1 q.symm
      have hlW : S.W.length ≤ 1000000 ∧ S.F.length ≤ 1000000 ∧ S.G.length ≤ 1000000 ∧ S.B.length ≤ 1000000 := by
        have := hle
        simp only [Seg4.all, List.length_append] at this
        omega
      have HLW := Lib.hid hlW
      clear hlW
      clear hb h0 h1' h2' h3 HLA HX
      go_wp2_with fail
      go_region_held3 (fun w' => w'.cell? ⟨sb, 0, none⟩ = some v0 ∧ w'.cell? ⟨sb, 1, none⟩ = some v1 ∧ w'.cell? ⟨sb, 2, none⟩ = some v2 ∧ w'.cell? ⟨sb, 3, none⟩ = some v3) (first | go_keep | exact ⟨q0, q1, q2, q3⟩ | exact ⟨p0, p1, p2, p3⟩ | exact ⟨x0, x1, x2, x3⟩) (first
        | (go_at_call 10; refine (HLAH.out _ (by (repeat (first | (with_reducible exact Fr.refl _ _) | (with_reducible assumption) | (with_reducible exact Fr.of_nil (by assumption)) | (with_reducible refine Fr.drew ?_) | (with_reducible refine Fr.drewN ?_ _) | (with_reducible refine Fr.alloc ?_ _) | (with_reducible refine Fr.set ?_ _ _ (by first | (intros; omega) | (simp; done) | (simp; omega))) | (with_reducible refine Fr.via ?_ (by assumption)) | (with_reducible refine Fr.comp ?_ (by assumption)))))).mono ?_; rintro e wA ⟨⟨t0, t1, t2, t3, rfl, rr0, rr1, rr2, rr3⟩, _, fA⟩; have fA' : Fr (fun x => x = ba) wr wA := Fr.trans (S := fun x => x = ba) (Fr.of_nil (by (repeat (first | (with_reducible exact Fr.refl _ _) | (with_reducible assumption) | (with_reducible exact Fr.of_nil (by assumption)) | (with_reducible refine Fr.drew ?_) | (with_reducible refine Fr.drewN ?_ _) | (with_reducible refine Fr.alloc ?_ _) | (with_reducible refine Fr.set ?_ _ _ (by first | (intros; omega) | (simp; done) | (simp; omega))) | (with_reducible refine Fr.via ?_ (by assumption)) | (with_reducible refine Fr.comp ?_ (by assumption)))))) fA (fun _ _ q => q); have p0 := fA'.cell q0 hnb; have p1 := fA'.cell q1 hnb; have p2 := fA'.cell q2 hnb; have p3 := fA'.cell q3 hnb; have pl := fA'.lt ql; have HA := Lib.hid (And.intro rr0.toV (And.intro rr1.toV (And.intro rr2.toV (And.intro rr3.toV fA')))); clear rr0 rr1 rr2 rr3 fA fA')
        | (go_at_call 24; refine (same_self S.W S.F S.G S.B t0 t1 t2 t3 v0 v1 v2 v3 _ (HA.out.1.fr (by (repeat (first | (with_reducible exact Fr.refl _ _) | (with_reducible assumption) | (with_reducible exact Fr.of_nil (by assumption)) | (with_reducible refine Fr.drew ?_) | (with_reducible refine Fr.drewN ?_ _) | (with_reducible refine Fr.alloc ?_ _) | (with_reducible refine Fr.set ?_ _ _ (by first | (intros; omega) | (simp; done) | (simp; omega))) | (with_reducible refine Fr.via ?_ (by assumption)) | (with_reducible refine Fr.comp ?_ (by assumption)))))) (HA.out.2.1.fr (by (repeat (first | (with_reducible exact Fr.refl _ _) | (with_reducible assumption) | (with_reducible exact Fr.of_nil (by assumption)) | (with_reducible refine Fr.drew ?_) | (with_reducible refine Fr.drewN ?_ _) | (with_reducible refine Fr.alloc ?_ _) | (with_reducible refine Fr.set ?_ _ _ (by first | (intros; omega) | (simp; done) | (simp; omega))) | (with_reducible refine Fr.via ?_ (by assumption)) | (with_reducible refine Fr.comp ?_ (by assumption)))))) (HA.out.2.2.1.fr (by (repeat (first | (with_reducible exact Fr.refl _ _) | (with_reducible assumption) | (with_reducible exact Fr.of_nil (by assumption)) | (with_reducible refine Fr.drew ?_) | (with_reducible refine Fr.drewN ?_ _) | (with_reducible refine Fr.alloc ?_ _) | (with_reducible refine Fr.set ?_ _ _ (by first | (intros; omega) | (simp; done) | (simp; omega))) | (with_reducible refine Fr.via ?_ (by assumption)) | (with_reducible refine Fr.comp ?_ (by assumption)))))) (HA.out.2.2.2.1.fr (by (repeat (first | (with_reducible exact Fr.refl _ _) | (with_reducible assumption) | (with_reducible exact Fr.of_nil (by assumption)) | (with_reducible refine Fr.drew ?_) | (with_reducible refine Fr.drewN ?_ _) | (with_reducible refine Fr.alloc ?_ _) | (with_reducible refine Fr.set ?_ _ _ (by first | (intros; omega) | (simp; done) | (simp; omega))) | (with_reducible refine Fr.via ?_ (by assumption)) | (with_reducible refine Fr.comp ?_ (by assumption)))))) (((HRV.out.1.frS HA.out.2.2.2.2 (fun g q => .inr (.inr (.inl q)))).fr (by (repeat (first | (with_reducible exact Fr.refl _ _) | (with_reducible assumption) | (with_reducible exact Fr.of_nil (by assumption)) | (with_reducible refine Fr.drew ?_) | (with_reducible refine Fr.drewN ?_ _) | (with_reducible refine Fr.alloc ?_ _) | (with_reducible refine Fr.set ?_ _ _ (by first | (intros; omega) | (simp; done) | (simp; omega))) | (with_reducible refine Fr.via ?_ (by assumption)) | (with_reducible refine Fr.comp ?_ (by assumption)))))).row) (((HRV.out.2.1.frS HA.out.2.2.2.2 (fun g q => .inr (.inr (.inl q)))).fr (by (repeat (first | (with_reducible exact Fr.refl _ _) | (with_reducible assumption) | (with_reducible exact Fr.of_nil (by assumption)) | (with_reducible refine Fr.drew ?_) | (with_reducible refine Fr.drewN ?_ _) | (with_reducible refine Fr.alloc ?_ _) | (with_reducible refine Fr.set ?_ _ _ (by first | (intros; omega) | (simp; done) | (simp; omega))) | (with_reducible refine Fr.via ?_ (by assumption)) | (with_reducible refine Fr.comp ?_ (by assumption)))))).row) (((HRV.out.2.2.1.frS HA.out.2.2.2.2 (fun g q => .inr (.inr (.inl q)))).fr (by (repeat (first | (with_reducible exact Fr.refl _ _) | (with_reducible assumption) | (with_reducible exact Fr.of_nil (by assumption)) | (with_reducible refine Fr.drew ?_) | (with_reducible refine Fr.drewN ?_ _) | (with_reducible refine Fr.alloc ?_ _) | (with_reducible refine Fr.set ?_ _ _ (by first | (intros; omega) | (simp; done) | (simp; omega))) | (with_reducible refine Fr.via ?_ (by assumption)) | (with_reducible refine Fr.comp ?_ (by assumption)))))).row) (((HRV.out.2.2.2.frS HA.out.2.2.2.2 (fun g q => .inr (.inr (.inl q)))).fr (by (repeat (first | (with_reducible exact Fr.refl _ _) | (with_reducible assumption) | (with_reducible exact Fr.of_nil (by assumption)) | (with_reducible refine Fr.drew ?_) | (with_reducible refine Fr.drewN ?_ _) | (with_reducible refine Fr.alloc ?_ _) | (with_reducible refine Fr.set ?_ _ _ (by first | (intros; omega) | (simp; done) | (simp; omega))) | (with_reducible refine Fr.via ?_ (by assumption)) | (with_reducible refine Fr.comp ?_ (by assumption)))))).row) HLW.out.1 HLW.out.2.1 HLW.out.2.2.1 HLW.out.2.2.2).mono ?_; rintro e wB ⟨rfl, fB⟩; have fB' : Fr Nil wA wB := Fr.trans (by (repeat (first | (with_reducible exact Fr.refl _ _) | (with_reducible assumption) | (with_reducible exact Fr.of_nil (by assumption)) | (with_reducible refine Fr.drew ?_) | (with_reducible refine Fr.drewN ?_ _) | (with_reducible refine Fr.alloc ?_ _) | (with_reducible refine Fr.set ?_ _ _ (by first | (intros; omega) | (simp; done) | (simp; omega))) | (with_reducible refine Fr.via ?_ (by assumption)) | (with_reducible refine Fr.comp ?_ (by assumption))))) fB (fun _ _ q => q); have x0 := fB'.cell p0 (by simp [Nil]); have x1 := fB'.cell p1 (by simp [Nil]); have x2 := fB'.cell p2 (by simp [Nil]); have x3 := fB'.cell p3 (by simp [Nil])))
      all_goals
        go_wp2
        go_ret
        exact ⟨rfl, ((fwr.trans HA.out.2.2.2.2 (fun k hk q => by have := HNE.out k (.inr (.inr (.inl q))); omega)).comp fB').comp (by (repeat (first | (with_reducible exact Fr.refl _ _) | (with_reducible assumption) | (with_reducible exact Fr.of_nil (by assumption)) | (with_reducible refine Fr.drew ?_) | (with_reducible refine Fr.drewN ?_ _) | (with_reducible refine Fr.alloc ?_ _) | (with_reducible refine Fr.set ?_ _ _ (by first | (intros; omega) | (simp; done) | (simp; omega))) | (with_reducible refine Fr.via ?_ (by assumption)) | (with_reducible refine Fr.comp ?_ (by assumption)))))⟩
end Go.Proofs.Ytlpdlhmdhlcdlaa
