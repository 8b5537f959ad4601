/-
  The law NumRings. No conditions but the tables of Go's library.
-/
import Derived.Test.YtcadbidccmiflaaDoorL01a
import Derived.Deep.RegionHeld3
import Derived.Deep.RegionHeld2
import Derived.Deep.RegionWith
import Derived.Test.YtcadbidccmiflaaDoorVia
import Derived.Deep.DeepCutAuto
namespace Go.Proofs.YtcadbidccmiflaaDoor
set_option linter.unusedSimpArgs false
set_option linter.unusedVariables false
open Go.RowKit

theorem u64_w (n : Int) : IntKind.u64.wrap n = n % 18446744073709551616 := by
  simp [IntKind.wrap, IntKind.signed, IntKind.bits]
theorem wrap64_mod (n : Int) : wrap64 n % 18446744073709551616 = n % 18446744073709551616 := by unfold wrap64; omega
theorem u64_w64 (n : Int) : IntKind.u64.wrap (wrap64 n) = n % 18446744073709551616 := by rw [u64_w, wrap64_mod]
theorem w64_u64 (n : Int) : wrap64 (IntKind.u64.wrap n) = wrap64 n := by rw [u64_w]; unfold wrap64; omega
theorem ring_back {a b : Int} {x : Nat} (hx : wrap64 (x : Int) = a) (lx : x < 18446744073709551616) : IntKind.u64.wrap (wrap64 (wrap64 (IntKind.u64.wrap (wrap64 (a - b))) + b)) = (x : Int) := by
  rw [w64_u64, u64_w64]
  unfold wrap64 at *
  omega
theorem mulmod (a b : Int) : (a % 18446744073709551616) * (b % 18446744073709551616) % 18446744073709551616 = a * b % 18446744073709551616 := (Int.mul_emod a b _).symm
theorem wrap_mul (a b : Int) : wrap64 a * wrap64 b % 18446744073709551616 = a * b % 18446744073709551616 := by
  rw [Int.mul_emod, wrap64_mod, wrap64_mod, mulmod]
theorem wrap_id {a : Int} (h0 : -9223372036854775808 ≤ a) (h1 : a ≤ 9223372036854775807) : wrap64 a = a := by unfold wrap64; omega
theorem ring_right (a b c : Int) : IntKind.u64.wrap (wrap64 (wrap64 (IntKind.u64.wrap (wrap64 (a * c))) + wrap64 (IntKind.u64.wrap (wrap64 (b * c))))) = IntKind.u64.wrap (wrap64 (wrap64 (IntKind.u64.wrap (wrap64 (a + b))) * c)) := by
  rw [w64_u64, w64_u64, w64_u64, u64_w64, u64_w64]
  have e1 : wrap64 (wrap64 (a + b)) * c % 18446744073709551616 = (a + b) * c % 18446744073709551616 := by
    rw [Int.mul_emod, wrap64_mod, wrap64_mod, ← Int.mul_emod]
  have e2 := wrap64_mod (wrap64 (a * c))
  have e3 := wrap64_mod (wrap64 (b * c))
  have e4 := wrap64_mod (a * c)
  have e5 := wrap64_mod (b * c)
  rw [e1, Int.add_mul]
  omega
theorem ring_whole (a b : Int) (x : Nat) (hx : wrap64 (x : Int) = a) (lx : x < 18446744073709551616) : IntKind.u64.wrap (wrap64 (wrap64 (IntKind.u64.wrap (wrap64 (wrap64 (IntKind.u64.wrap (wrap64 (a.tdiv b))) * b))) + wrap64 (IntKind.u64.wrap (a.tmod b)))) = (x : Int) := by
  rw [w64_u64, w64_u64, w64_u64, u64_w64]
  have e := Int.tdiv_mul_add_tmod a b
  have e1 : wrap64 (wrap64 (a.tdiv b)) * b % 18446744073709551616 = a.tdiv b * b % 18446744073709551616 := by
    rw [Int.mul_emod, wrap64_mod, wrap64_mod, ← Int.mul_emod]
  have e2 := wrap64_mod (wrap64 (wrap64 (wrap64 (a.tdiv b)) * b))
  have e3 := wrap64_mod (wrap64 (wrap64 (a.tdiv b)) * b)
  have e4 := wrap64_mod (a.tmod b)
  have e5 : (x : Int) % 18446744073709551616 = x := by omega
  have e6 := wrap64_mod (x : Int)
  rw [hx] at e6
  omega
theorem tmod_facts (a b : Int) (hb : b ≠ 0) : (a.tmod b < b ∨ b < 0) ∧ (b < 0 → b < a.tmod b) ∧ (a.tmod b = 0 ∨ (a.tmod b < 0 ↔ a < 0)) ∧ (-(b.natAbs : Int) < a.tmod b ∧ a.tmod b < b.natAbs) := by
  have key : ∃ m n : Nat, n ≠ 0 ∧ (b = n ∨ b = -n) ∧ ((a = m ∧ a.tmod b = (m % n : Nat)) ∨ (a = -m ∧ a.tmod b = -(m % n : Nat))) := by
    refine ⟨a.natAbs, b.natAbs, by omega, by omega, ?_⟩
    rcases Int.natAbs_eq a with ha | ha <;> rcases Int.natAbs_eq b with hb | hb
    · exact .inl ⟨ha, by conv => lhs; rw [ha, hb]
                         rw [← Int.ofNat_tmod]⟩
    · exact .inl ⟨ha, by conv => lhs; rw [ha, hb, Int.tmod_neg]
                         rw [← Int.ofNat_tmod]⟩
    · exact .inr ⟨ha, by conv => lhs; rw [ha, hb, Int.neg_tmod]
                         rw [← Int.ofNat_tmod]⟩
    · exact .inr ⟨ha, by conv => lhs; rw [ha, hb, Int.tmod_neg, Int.neg_tmod]
                         rw [← Int.ofNat_tmod]⟩
  obtain ⟨m, n, hn, hbn, h⟩ := key
  have hlt : m % n < n := Nat.mod_lt _ (by omega)
  have hle : m % n ≤ m := Nat.mod_le _ _
  rcases h with ⟨ha, h⟩ | ⟨ha, h⟩ <;> rw [h] <;> omega
set_option maxRecDepth 100000 in
set_option maxHeartbeats 20000000 in
theorem rings_any (a b c : Int) (w : World) (hT : Tabs w) (a0 : -9223372036854775808 ≤ a) (a1 : a ≤ 9223372036854775807) (b0 : -9223372036854775808 ≤ b) (b1 : b ≤ 9223372036854775807) (c0 : -9223372036854775808 ≤ c) (c1 : c ≤ 9223372036854775807) :
    Calls Tryd.prog 3 #[.int .i64 a, .int .i64 b, .int .i64 c] w fun e w' => e = .returned (.bool true) ∧ Fr Nil w w' := by
  obtain ⟨x, lx, ux, wx⟩ := u64nat a a0 a1
  obtain ⟨y, ly, uy, wy⟩ := u64nat b b0 b1
  obtain ⟨z, lz, uz, wz⟩ := u64nat c c0 c1
  have Ua := Lib.hid ux
  have Ub := Lib.hid uy
  have Uc := Lib.hid uz
  have Wa := Lib.hid wx
  have Wb := Lib.hid wy
  have Wc := Lib.hid wz
  obtain ⟨s, hs⟩ : ∃ s, IntKind.u64.wrap (wrap64 (a + b)) = s := ⟨_, rfl⟩
  obtain ⟨d, hd⟩ : ∃ d, IntKind.u64.wrap (wrap64 (a - b)) = d := ⟨_, rfl⟩
  obtain ⟨m, hm⟩ : ∃ m, IntKind.u64.wrap (wrap64 (a * b)) = m := ⟨_, rfl⟩
  obtain ⟨l, hl⟩ : ∃ l, IntKind.u64.wrap (wrap64 (wrap64 s * c)) = l := ⟨_, rfl⟩
  obtain ⟨p, hp⟩ : ∃ p, IntKind.u64.wrap (wrap64 (a * c)) = p := ⟨_, rfl⟩
  obtain ⟨q, hq⟩ : ∃ q, IntKind.u64.wrap (wrap64 (b * c)) = q := ⟨_, rfl⟩
  have Hback : Hid (IntKind.u64.wrap (wrap64 (wrap64 d + b)) = (x : Int)) := Lib.hid (by rw [← hd]; exact ring_back wx lx)
  have Hright : Hid (IntKind.u64.wrap (wrap64 (wrap64 p + wrap64 q)) = l) := Lib.hid (by rw [← hp, ← hq, ← hl, ← hs]; exact ring_right a b c)
  have Hturn : Hid (IntKind.u64.wrap (wrap64 (b * a)) = m) := Lib.hid (by rw [← hm, Int.mul_comm])
  have Hs := Lib.hid hs
  have Hd := Lib.hid hd
  have Hm := Lib.hid hm
  have Hl := Lib.hid hl
  have Hp := Lib.hid hp
  have Hq := Lib.hid hq
  clear ux uy uz wx wy wz hs hd hm hl hp hq
  go_enter Tryd.func3, Tryd.ntmps3
  go_wp2_with fail
  refine (awake_any _ hT).mono ?_
  rintro e w1 ⟨rfl, f1⟩
  have z1 := f1.size
  go_wp2_with fail
  refine wp_loop_rounds 4 ?_
  rw [rounds_succ]
  go_wp2_with fail
  refine (int_any _ _).mono ?_
  rw [Ua.out]
  rintro e w2 ⟨rfl, f2⟩
  have b2_0 := f2.blk (b := w1.heap.size) (c := #[.bool false, .int .u64 0, .bool false, .int .u64 0, .bool false, .int .u64 0, .bool false, .int .u64 0, .bool false, .int .u64 0]) (t := 26) (by (unfold Blk; simp (disch := first | omega | (simp; done) | (simp; omega)) only [hp_drew, hp_drewN, hp_alloc, hp_other, hp_same, hp_new, upd_cells, Option.map_some]) <;> simp) (by simp [Nil])
  have F2 : Fr Nil w w2 := by (repeat (first | (with_reducible exact Fr.refl _ _) | (with_reducible assumption) | (with_reducible exact Fr.of_nil (by assumption)) | (with_reducible refine Fr.drew ?_) | (with_reducible refine Fr.drewN ?_ _) | (with_reducible refine Fr.alloc ?_ _) | (with_reducible refine Fr.set ?_ _ _ (by first | (intros; omega) | (simp; done) | (simp; omega))) | (with_reducible refine Fr.via ?_ (by assumption)) | (with_reducible refine Fr.comp ?_ (by assumption))))
  have l2_0 := b2_0.lt
  have c2_0 := b2_0.cell
  have z2_0 := b2_0.free
  have y2 := F2.size
  clear f1 f2
  go_wp2_with fail
  refine (int_any _ _).mono ?_
  rw [Ub.out]
  rintro e w3 ⟨rfl, f3⟩
  have b3_0 := f3.blk (b := w1.heap.size) (c := #[.bool false, .int .u64 0, .bool false, .int .u64 0, .bool false, .int .u64 0, .bool false, .int .u64 0, .bool false, .int .u64 0]) (t := 26) (by (unfold Blk; simp (disch := first | omega | (simp; done) | (simp; omega)) only [hp_drew, hp_drewN, hp_alloc, hp_other, hp_same, hp_new, upd_cells, Option.map_some, (b2_0).eq]) <;> simp) (by simp [Nil])
  have F3 : Fr Nil w w3 := by (repeat (first | (with_reducible exact Fr.refl _ _) | (with_reducible assumption) | (with_reducible exact Fr.of_nil (by assumption)) | (with_reducible refine Fr.drew ?_) | (with_reducible refine Fr.drewN ?_ _) | (with_reducible refine Fr.alloc ?_ _) | (with_reducible refine Fr.set ?_ _ _ (by first | (intros; omega) | (simp; done) | (simp; omega))) | (with_reducible refine Fr.via ?_ (by assumption)) | (with_reducible refine Fr.comp ?_ (by assumption))))
  have l3_0 := b3_0.lt
  have c3_0 := b3_0.cell
  have z3_0 := b3_0.free
  have y3 := F3.size
  clear b2_0 l2_0 c2_0 z2_0 F2 f3
  go_wp2_with fail
  refine (calc_add _ _ _).mono ?_
  rw [Wa.out, Wb.out, Hs.out]
  rintro e w4 ⟨rfl, f4⟩
  have b4_0 := f4.blk (b := w1.heap.size) (c := #[.bool false, .int .u64 0, .bool false, .int .u64 0, .bool false, .int .u64 0, .bool false, .int .u64 0, .bool false, .int .u64 0]) (t := 26) (by (unfold Blk; simp (disch := first | omega | (simp; done) | (simp; omega)) only [hp_drew, hp_drewN, hp_alloc, hp_other, hp_same, hp_new, upd_cells, Option.map_some, (b3_0).eq]) <;> simp) (by simp [Nil])
  have F4 : Fr Nil w w4 := by (repeat (first | (with_reducible exact Fr.refl _ _) | (with_reducible assumption) | (with_reducible exact Fr.of_nil (by assumption)) | (with_reducible refine Fr.drew ?_) | (with_reducible refine Fr.drewN ?_ _) | (with_reducible refine Fr.alloc ?_ _) | (with_reducible refine Fr.set ?_ _ _ (by first | (intros; omega) | (simp; done) | (simp; omega))) | (with_reducible refine Fr.via ?_ (by assumption)) | (with_reducible refine Fr.comp ?_ (by assumption))))
  have l4_0 := b4_0.lt
  have c4_0 := b4_0.cell
  have z4_0 := b4_0.free
  have y4 := F4.size
  clear b3_0 l3_0 c3_0 z3_0 F3 f4
  go_wp2_with fail
  rw [rounds_succ]
  go_wp2_with fail
  refine (int_any _ _).mono ?_
  rw [Ua.out]
  rintro e w5 ⟨rfl, f5⟩
  have b5_0 := f5.blk (b := w1.heap.size) (c := #[.bool false, .int .u64 s, .bool false, .int .u64 0, .bool false, .int .u64 0, .bool false, .int .u64 0, .bool false, .int .u64 0]) (t := 26) (by (unfold Blk; simp (disch := first | omega | (simp; done) | (simp; omega)) only [hp_drew, hp_drewN, hp_alloc, hp_other, hp_same, hp_new, upd_cells, Option.map_some, (b4_0).eq]) <;> simp) (by simp [Nil])
  have F5 : Fr Nil w w5 := by (repeat (first | (with_reducible exact Fr.refl _ _) | (with_reducible assumption) | (with_reducible exact Fr.of_nil (by assumption)) | (with_reducible refine Fr.drew ?_) | (with_reducible refine Fr.drewN ?_ _) | (with_reducible refine Fr.alloc ?_ _) | (with_reducible refine Fr.set ?_ _ _ (by first | (intros; omega) | (simp; done) | (simp; omega))) | (with_reducible refine Fr.via ?_ (by assumption)) | (with_reducible refine Fr.comp ?_ (by assumption))))
  have l5_0 := b5_0.lt
  have c5_0 := b5_0.cell
  have z5_0 := b5_0.free
  have y5 := F5.size
  clear b4_0 l4_0 c4_0 z4_0 F4 f5
  go_wp2_with fail
  refine (int_any _ _).mono ?_
  rw [Ub.out]
  rintro e w6 ⟨rfl, f6⟩
  have b6_0 := f6.blk (b := w1.heap.size) (c := #[.bool false, .int .u64 s, .bool false, .int .u64 0, .bool false, .int .u64 0, .bool false, .int .u64 0, .bool false, .int .u64 0]) (t := 26) (by (unfold Blk; simp (disch := first | omega | (simp; done) | (simp; omega)) only [hp_drew, hp_drewN, hp_alloc, hp_other, hp_same, hp_new, upd_cells, Option.map_some, (b5_0).eq]) <;> simp) (by simp [Nil])
  have F6 : Fr Nil w w6 := by (repeat (first | (with_reducible exact Fr.refl _ _) | (with_reducible assumption) | (with_reducible exact Fr.of_nil (by assumption)) | (with_reducible refine Fr.drew ?_) | (with_reducible refine Fr.drewN ?_ _) | (with_reducible refine Fr.alloc ?_ _) | (with_reducible refine Fr.set ?_ _ _ (by first | (intros; omega) | (simp; done) | (simp; omega))) | (with_reducible refine Fr.via ?_ (by assumption)) | (with_reducible refine Fr.comp ?_ (by assumption))))
  have l6_0 := b6_0.lt
  have c6_0 := b6_0.cell
  have z6_0 := b6_0.free
  have y6 := F6.size
  clear b5_0 l5_0 c5_0 z5_0 F5 f6
  go_wp2_with fail
  refine (calc_sub _ _ _).mono ?_
  rw [Wa.out, Wb.out, Hd.out]
  rintro e w7 ⟨rfl, f7⟩
  have b7_0 := f7.blk (b := w1.heap.size) (c := #[.bool false, .int .u64 s, .bool false, .int .u64 0, .bool false, .int .u64 0, .bool false, .int .u64 0, .bool false, .int .u64 0]) (t := 26) (by (unfold Blk; simp (disch := first | omega | (simp; done) | (simp; omega)) only [hp_drew, hp_drewN, hp_alloc, hp_other, hp_same, hp_new, upd_cells, Option.map_some, (b6_0).eq]) <;> simp) (by simp [Nil])
  have F7 : Fr Nil w w7 := by (repeat (first | (with_reducible exact Fr.refl _ _) | (with_reducible assumption) | (with_reducible exact Fr.of_nil (by assumption)) | (with_reducible refine Fr.drew ?_) | (with_reducible refine Fr.drewN ?_ _) | (with_reducible refine Fr.alloc ?_ _) | (with_reducible refine Fr.set ?_ _ _ (by first | (intros; omega) | (simp; done) | (simp; omega))) | (with_reducible refine Fr.via ?_ (by assumption)) | (with_reducible refine Fr.comp ?_ (by assumption))))
  have l7_0 := b7_0.lt
  have c7_0 := b7_0.cell
  have z7_0 := b7_0.free
  have y7 := F7.size
  clear b6_0 l6_0 c6_0 z6_0 F6 f7
  go_wp2_with fail
  rw [rounds_succ]
  go_wp2_with fail
  refine (int_any _ _).mono ?_
  rw [Ua.out]
  rintro e w8 ⟨rfl, f8⟩
  have b8_0 := f8.blk (b := w1.heap.size) (c := #[.bool false, .int .u64 s, .bool false, .int .u64 d, .bool false, .int .u64 0, .bool false, .int .u64 0, .bool false, .int .u64 0]) (t := 26) (by (unfold Blk; simp (disch := first | omega | (simp; done) | (simp; omega)) only [hp_drew, hp_drewN, hp_alloc, hp_other, hp_same, hp_new, upd_cells, Option.map_some, (b7_0).eq]) <;> simp) (by simp [Nil])
  have F8 : Fr Nil w w8 := by (repeat (first | (with_reducible exact Fr.refl _ _) | (with_reducible assumption) | (with_reducible exact Fr.of_nil (by assumption)) | (with_reducible refine Fr.drew ?_) | (with_reducible refine Fr.drewN ?_ _) | (with_reducible refine Fr.alloc ?_ _) | (with_reducible refine Fr.set ?_ _ _ (by first | (intros; omega) | (simp; done) | (simp; omega))) | (with_reducible refine Fr.via ?_ (by assumption)) | (with_reducible refine Fr.comp ?_ (by assumption))))
  have l8_0 := b8_0.lt
  have c8_0 := b8_0.cell
  have z8_0 := b8_0.free
  have y8 := F8.size
  clear b7_0 l7_0 c7_0 z7_0 F7 f8
  go_wp2_with fail
  refine (int_any _ _).mono ?_
  rw [Ub.out]
  rintro e w9 ⟨rfl, f9⟩
  have b9_0 := f9.blk (b := w1.heap.size) (c := #[.bool false, .int .u64 s, .bool false, .int .u64 d, .bool false, .int .u64 0, .bool false, .int .u64 0, .bool false, .int .u64 0]) (t := 26) (by (unfold Blk; simp (disch := first | omega | (simp; done) | (simp; omega)) only [hp_drew, hp_drewN, hp_alloc, hp_other, hp_same, hp_new, upd_cells, Option.map_some, (b8_0).eq]) <;> simp) (by simp [Nil])
  have F9 : Fr Nil w w9 := by (repeat (first | (with_reducible exact Fr.refl _ _) | (with_reducible assumption) | (with_reducible exact Fr.of_nil (by assumption)) | (with_reducible refine Fr.drew ?_) | (with_reducible refine Fr.drewN ?_ _) | (with_reducible refine Fr.alloc ?_ _) | (with_reducible refine Fr.set ?_ _ _ (by first | (intros; omega) | (simp; done) | (simp; omega))) | (with_reducible refine Fr.via ?_ (by assumption)) | (with_reducible refine Fr.comp ?_ (by assumption))))
  have l9_0 := b9_0.lt
  have c9_0 := b9_0.cell
  have z9_0 := b9_0.free
  have y9 := F9.size
  clear b8_0 l8_0 c8_0 z8_0 F8 f9
  go_wp2_with fail
  refine (calc_mul _ _ _).mono ?_
  rw [Wa.out, Wb.out, Hm.out]
  rintro e w10 ⟨rfl, f10⟩
  have b10_0 := f10.blk (b := w1.heap.size) (c := #[.bool false, .int .u64 s, .bool false, .int .u64 d, .bool false, .int .u64 0, .bool false, .int .u64 0, .bool false, .int .u64 0]) (t := 26) (by (unfold Blk; simp (disch := first | omega | (simp; done) | (simp; omega)) only [hp_drew, hp_drewN, hp_alloc, hp_other, hp_same, hp_new, upd_cells, Option.map_some, (b9_0).eq]) <;> simp) (by simp [Nil])
  have F10 : Fr Nil w w10 := by (repeat (first | (with_reducible exact Fr.refl _ _) | (with_reducible assumption) | (with_reducible exact Fr.of_nil (by assumption)) | (with_reducible refine Fr.drew ?_) | (with_reducible refine Fr.drewN ?_ _) | (with_reducible refine Fr.alloc ?_ _) | (with_reducible refine Fr.set ?_ _ _ (by first | (intros; omega) | (simp; done) | (simp; omega))) | (with_reducible refine Fr.via ?_ (by assumption)) | (with_reducible refine Fr.comp ?_ (by assumption))))
  have l10_0 := b10_0.lt
  have c10_0 := b10_0.cell
  have z10_0 := b10_0.free
  have y10 := F10.size
  clear b9_0 l9_0 c9_0 z9_0 F9 f10
  go_wp2_with fail
  rw [rounds_succ]
  go_wp2_with fail
  obtain ⟨w11, hV⟩ : ∃ V, V = ((w10.setCell ⟨w1.heap.size, 4, none⟩ (.bool false)).setCell ⟨w1.heap.size, 5, none⟩ (.int .u64 m)).alloc (.cells #[.bool false, .int .u64 m] 25) := ⟨_, rfl⟩
  rw [← hV]
  have f11 : Fr Nil w10 w10 := Fr.refl _ _
  have F11 : Fr Nil w w11 := by rw [hV]; (repeat (first | (with_reducible exact Fr.refl _ _) | (with_reducible assumption) | (with_reducible exact Fr.of_nil (by assumption)) | (with_reducible refine Fr.drew ?_) | (with_reducible refine Fr.drewN ?_ _) | (with_reducible refine Fr.alloc ?_ _) | (with_reducible refine Fr.set ?_ _ _ (by first | (intros; omega) | (simp; done) | (simp; omega))) | (with_reducible refine Fr.via ?_ (by assumption)) | (with_reducible refine Fr.comp ?_ (by assumption))))
  have b11_0 : Blk w11 w1.heap.size #[.bool false, .int .u64 s, .bool false, .int .u64 d, .bool false, .int .u64 m, .bool false, .int .u64 0, .bool false, .int .u64 0] 26 := by rw [hV]; (unfold Blk; simp (disch := first | omega | (simp; done) | (simp; omega)) only [hp_drew, hp_drewN, hp_alloc, hp_other, hp_same, hp_new, upd_cells, Option.map_some, (b10_0).eq]) <;> simp
  clear hV b10_0 l10_0 c10_0 z10_0 F10 f11
  have l11_0 := b11_0.lt
  have c11_0 := b11_0.cell
  have z11_0 := b11_0.free
  have y11 := F11.size
  go_upto_region 11 with fail
  have p0 := b11_0.cell 2
  have p1 := b11_0.cell 3
  simp at p0 p1
  clear c11_0 z11_0
  go_cut [11] (fun sv wx => ∃ g : Nat, sv = .pointer (some ⟨g, 0, none⟩) ∧ Blk wx g #[.bool false, .int .u64 x] 25 ∧ Fr Nil w11 wx)
  case first =>
    as_aux_lemma =>
    go_region_held3 (fun w' => w'.cell? ⟨w1.heap.size, 2, none⟩ = some (.bool false) ∧ w'.cell? ⟨w1.heap.size, 3, none⟩ = some (.int .u64 d)) (first | go_keep | exact ⟨p0, p1⟩ | exact ⟨p2, p3⟩ | exact ⟨p4, p5⟩ | exact ⟨((bb.other (a := ⟨wa.heap.size, 0, none⟩) ne1 _).other (a := ⟨wa.heap.size, 1, none⟩) ne1 _).cell 2, ((bb.other (a := ⟨wa.heap.size, 0, none⟩) ne1 _).other (a := ⟨wa.heap.size, 1, none⟩) ne1 _).cell 3⟩ | exact ⟨((bb.other (a := ⟨w11.heap.size, 0, none⟩) ne2 _).other (a := ⟨w11.heap.size, 1, none⟩) ne2 _).cell 2, ((bb.other (a := ⟨w11.heap.size, 0, none⟩) ne2 _).other (a := ⟨w11.heap.size, 1, none⟩) ne2 _).cell 3⟩) (first
      | (go_at_call 14; refine (int_any _ _).mono ?_; rw [Ub.out]; rintro e wa ⟨rfl, fa⟩; have za : w11.heap.size ≤ wa.heap.size := (by have := fa.size; (try simp at this); omega); have ba := fa.blk (by first | exact b11_0.drew | exact (b11_0.drew).alloc _) (by simp [Nil]); have lba := ba.lt; have p2 := ba.cell 2; have p3 := ba.cell 3; simp at p2 p3)
      | (go_at_call 13; refine (calc_add d (y : Int) _).mono ?_; rw [Wb.out, Hback.out]; rintro e wb ⟨rfl, fb⟩; have zb : wa.heap.size ≤ wb.heap.size := (by have := fb.size; (try simp at this); omega); have bb := fb.blk (by first | exact ba | exact (ba).alloc _) (by simp [Nil]); have lbb := bb.lt; have p4 := bb.cell 2; have p5 := bb.cell 3; simp at p4 p5; (first | (have nb := Fr.new fb; have n1 := nb.cell; have n2 := nb.free; have n3 := nb.lt) | (have nb := fb.blk (Fr.new (Fr.comp (Fr.drew (Fr.refl Nil _)) fa)) (fun q => q); have n1 : ∀ i, wb.cell? ⟨w11.heap.size, i, none⟩ = (#[.bool false, .int .u64 0] : Array Value)[i]? := nb.cell; have n2 : ∀ i, wb.frozen? ⟨w11.heap.size, i, none⟩ = false := nb.free; have n3 : w11.heap.size < wb.heap.size := nb.lt) | skip); have ne1 := Nat.ne_of_lt ba.lt; have ne2 := Nat.ne_of_lt b11_0.lt))
    all_goals (go_wp2_with fail; go_meet; refine ⟨_, rfl, ?_, ?_⟩)
    all_goals first
      | (show Fr _ _ _; (repeat (first | (with_reducible exact Fr.refl _ _) | (with_reducible assumption) | (with_reducible exact Fr.of_nil (by assumption)) | (with_reducible refine Fr.drew ?_) | (with_reducible refine Fr.drewN ?_ _) | (with_reducible refine Fr.alloc ?_ _) | (with_reducible refine Fr.set ?_ _ _ (by first | (intros; omega) | (simp; done) | (simp; omega))) | (with_reducible refine Fr.via ?_ (by assumption)) | (with_reducible refine Fr.comp ?_ (by assumption)))); done)
      | ((unfold Blk; simp (disch := first | omega | (simp; done) | (simp; omega)) only [hp_drew, hp_drewN, hp_alloc, hp_other, hp_same, hp_new, upd_cells, Option.map_some]); done)
      | ((unfold Blk; simp (disch := first | omega | (simp; done) | (simp; omega)) only [hp_drew, hp_drewN, hp_alloc, hp_other, hp_same, hp_new, upd_cells, Option.map_some, (nb).eq]) <;> simp; done)
  case rest =>
  as_aux_lemma =>
  obtain ⟨g13, rfl, bg, fg⟩ := hcut
  obtain ⟨w13, rfl⟩ : ∃ V, V = wc := ⟨_, rfl⟩
  have b13_0 := fg.blk b11_0 (fun q => q)
  have b13_1 := bg
  have F13 := F11.comp fg
  clear b11_0 l11_0 F11 p0 p1 fg bg
  have l13_0 := b13_0.lt
  have c13_0 := b13_0.cell
  have z13_0 := b13_0.free
  have l13_1 := b13_1.lt
  have c13_1 := b13_1.cell
  have z13_1 := b13_1.free
  have y13 := F13.size
  go_upto_region 12 with fail
  have p0 := b13_0.cell 0
  have p1 := b13_0.cell 1
  simp at p0 p1
  clear c13_0 z13_0 c13_1 z13_1
  go_cut [13] (fun sv wx => ∃ g : Nat, sv = .pointer (some ⟨g, 0, none⟩) ∧ Blk wx g #[.bool false, .int .u64 l] 25 ∧ Fr Nil w13 wx)
  case first =>
    clear b13_1 l13_1
    as_aux_lemma =>
    go_region_held3 (fun w' => w'.cell? ⟨w1.heap.size, 0, none⟩ = some (.bool false) ∧ w'.cell? ⟨w1.heap.size, 1, none⟩ = some (.int .u64 s)) (first | go_keep | exact ⟨p0, p1⟩ | exact ⟨p2, p3⟩ | exact ⟨p4, p5⟩ | exact ⟨((bb.other (a := ⟨wa.heap.size, 0, none⟩) ne1 _).other (a := ⟨wa.heap.size, 1, none⟩) ne1 _).cell 0, ((bb.other (a := ⟨wa.heap.size, 0, none⟩) ne1 _).other (a := ⟨wa.heap.size, 1, none⟩) ne1 _).cell 1⟩ | exact ⟨((bb.other (a := ⟨w13.heap.size, 0, none⟩) ne2 _).other (a := ⟨w13.heap.size, 1, none⟩) ne2 _).cell 0, ((bb.other (a := ⟨w13.heap.size, 0, none⟩) ne2 _).other (a := ⟨w13.heap.size, 1, none⟩) ne2 _).cell 1⟩) (first
      | (go_at_call 14; refine (int_any _ _).mono ?_; rw [Uc.out]; rintro e wa ⟨rfl, fa⟩; have za : w13.heap.size ≤ wa.heap.size := (by have := fa.size; (try simp at this); omega); have ba := fa.blk (by first | exact b13_0.drew | exact (b13_0.drew).alloc _) (by simp [Nil]); have lba := ba.lt; have p2 := ba.cell 0; have p3 := ba.cell 1; simp at p2 p3)
      | (go_at_call 13; refine (calc_mul s (z : Int) _).mono ?_; rw [Wc.out, Hl.out]; rintro e wb ⟨rfl, fb⟩; have zb : wa.heap.size ≤ wb.heap.size := (by have := fb.size; (try simp at this); omega); have bb := fb.blk (by first | exact ba | exact (ba).alloc _) (by simp [Nil]); have lbb := bb.lt; have p4 := bb.cell 0; have p5 := bb.cell 1; simp at p4 p5; (first | (have nb := Fr.new fb; have n1 := nb.cell; have n2 := nb.free; have n3 := nb.lt) | (have nb := fb.blk (Fr.new (Fr.comp (Fr.drew (Fr.refl Nil _)) fa)) (fun q => q); have n1 : ∀ i, wb.cell? ⟨w13.heap.size, i, none⟩ = (#[.bool false, .int .u64 0] : Array Value)[i]? := nb.cell; have n2 : ∀ i, wb.frozen? ⟨w13.heap.size, i, none⟩ = false := nb.free; have n3 : w13.heap.size < wb.heap.size := nb.lt) | skip); have ne1 := Nat.ne_of_lt ba.lt; have ne2 := Nat.ne_of_lt b13_0.lt))
    all_goals (go_wp2_with fail; go_meet; refine ⟨_, rfl, ?_, ?_⟩)
    all_goals first
      | (show Fr _ _ _; (repeat (first | (with_reducible exact Fr.refl _ _) | (with_reducible assumption) | (with_reducible exact Fr.of_nil (by assumption)) | (with_reducible refine Fr.drew ?_) | (with_reducible refine Fr.drewN ?_ _) | (with_reducible refine Fr.alloc ?_ _) | (with_reducible refine Fr.set ?_ _ _ (by first | (intros; omega) | (simp; done) | (simp; omega))) | (with_reducible refine Fr.via ?_ (by assumption)) | (with_reducible refine Fr.comp ?_ (by assumption)))); done)
      | ((unfold Blk; simp (disch := first | omega | (simp; done) | (simp; omega)) only [hp_drew, hp_drewN, hp_alloc, hp_other, hp_same, hp_new, upd_cells, Option.map_some]); done)
      | ((unfold Blk; simp (disch := first | omega | (simp; done) | (simp; omega)) only [hp_drew, hp_drewN, hp_alloc, hp_other, hp_same, hp_new, upd_cells, Option.map_some, (nb).eq]) <;> simp; done)
  case rest =>
  as_aux_lemma =>
  obtain ⟨g15, rfl, bg, fg⟩ := hcut
  obtain ⟨w15, rfl⟩ : ∃ V, V = wc := ⟨_, rfl⟩
  have b15_0 := fg.blk b13_0 (fun q => q)
  have b15_1 := fg.blk b13_1 (fun q => q)
  have b15_2 := bg
  have F15 := F13.comp fg
  clear b13_0 l13_0 b13_1 l13_1 F13 p0 p1 fg bg
  have l15_0 := b15_0.lt
  have c15_0 := b15_0.cell
  have z15_0 := b15_0.free
  have l15_1 := b15_1.lt
  have c15_1 := b15_1.cell
  have z15_1 := b15_1.free
  have l15_2 := b15_2.lt
  have c15_2 := b15_2.cell
  have z15_2 := b15_2.free
  have y15 := F15.size
  go_wp2_with fail
  refine (int_any _ _).mono ?_
  rw [Ua.out]
  rintro e w16 ⟨rfl, f16⟩
  have b16_0 := f16.blk (b := w1.heap.size) (c := #[.bool false, .int .u64 s, .bool false, .int .u64 d, .bool false, .int .u64 m, .bool false, .int .u64 0, .bool false, .int .u64 0]) (t := 26) (by (unfold Blk; simp (disch := first | omega | (simp; done) | (simp; omega)) only [hp_drew, hp_drewN, hp_alloc, hp_other, hp_same, hp_new, upd_cells, Option.map_some, (b15_0).eq]) <;> simp) (by simp [Nil])
  have b16_1 := f16.blk (b := g13) (c := #[.bool false, .int .u64 x]) (t := 25) (by (unfold Blk; simp (disch := first | omega | (simp; done) | (simp; omega)) only [hp_drew, hp_drewN, hp_alloc, hp_other, hp_same, hp_new, upd_cells, Option.map_some, (b15_1).eq]) <;> simp) (by simp [Nil])
  have b16_2 := f16.blk (b := g15) (c := #[.bool false, .int .u64 l]) (t := 25) (by (unfold Blk; simp (disch := first | omega | (simp; done) | (simp; omega)) only [hp_drew, hp_drewN, hp_alloc, hp_other, hp_same, hp_new, upd_cells, Option.map_some, (b15_2).eq]) <;> simp) (by simp [Nil])
  have F16 : Fr Nil w w16 := by (repeat (first | (with_reducible exact Fr.refl _ _) | (with_reducible assumption) | (with_reducible exact Fr.of_nil (by assumption)) | (with_reducible refine Fr.drew ?_) | (with_reducible refine Fr.drewN ?_ _) | (with_reducible refine Fr.alloc ?_ _) | (with_reducible refine Fr.set ?_ _ _ (by first | (intros; omega) | (simp; done) | (simp; omega))) | (with_reducible refine Fr.via ?_ (by assumption)) | (with_reducible refine Fr.comp ?_ (by assumption))))
  have l16_0 := b16_0.lt
  have c16_0 := b16_0.cell
  have z16_0 := b16_0.free
  have l16_1 := b16_1.lt
  have c16_1 := b16_1.cell
  have z16_1 := b16_1.free
  have l16_2 := b16_2.lt
  have c16_2 := b16_2.cell
  have z16_2 := b16_2.free
  have y16 := F16.size
  clear b15_0 l15_0 c15_0 z15_0 b15_1 l15_1 c15_1 z15_1 b15_2 l15_2 c15_2 z15_2 F15 f16
  go_wp2_with fail
  refine (int_any _ _).mono ?_
  rw [Uc.out]
  rintro e w17 ⟨rfl, f17⟩
  have b17_0 := f17.blk (b := w1.heap.size) (c := #[.bool false, .int .u64 s, .bool false, .int .u64 d, .bool false, .int .u64 m, .bool false, .int .u64 0, .bool false, .int .u64 0]) (t := 26) (by (unfold Blk; simp (disch := first | omega | (simp; done) | (simp; omega)) only [hp_drew, hp_drewN, hp_alloc, hp_other, hp_same, hp_new, upd_cells, Option.map_some, (b16_0).eq]) <;> simp) (by simp [Nil])
  have b17_1 := f17.blk (b := g13) (c := #[.bool false, .int .u64 x]) (t := 25) (by (unfold Blk; simp (disch := first | omega | (simp; done) | (simp; omega)) only [hp_drew, hp_drewN, hp_alloc, hp_other, hp_same, hp_new, upd_cells, Option.map_some, (b16_1).eq]) <;> simp) (by simp [Nil])
  have b17_2 := f17.blk (b := g15) (c := #[.bool false, .int .u64 l]) (t := 25) (by (unfold Blk; simp (disch := first | omega | (simp; done) | (simp; omega)) only [hp_drew, hp_drewN, hp_alloc, hp_other, hp_same, hp_new, upd_cells, Option.map_some, (b16_2).eq]) <;> simp) (by simp [Nil])
  have F17 : Fr Nil w w17 := by (repeat (first | (with_reducible exact Fr.refl _ _) | (with_reducible assumption) | (with_reducible exact Fr.of_nil (by assumption)) | (with_reducible refine Fr.drew ?_) | (with_reducible refine Fr.drewN ?_ _) | (with_reducible refine Fr.alloc ?_ _) | (with_reducible refine Fr.set ?_ _ _ (by first | (intros; omega) | (simp; done) | (simp; omega))) | (with_reducible refine Fr.via ?_ (by assumption)) | (with_reducible refine Fr.comp ?_ (by assumption))))
  have l17_0 := b17_0.lt
  have c17_0 := b17_0.cell
  have z17_0 := b17_0.free
  have l17_1 := b17_1.lt
  have c17_1 := b17_1.cell
  have z17_1 := b17_1.free
  have l17_2 := b17_2.lt
  have c17_2 := b17_2.cell
  have z17_2 := b17_2.free
  have y17 := F17.size
  clear b16_0 l16_0 c16_0 z16_0 b16_1 l16_1 c16_1 z16_1 b16_2 l16_2 c16_2 z16_2 F16 f17
  go_wp2_with fail
  refine (calc_mul _ _ _).mono ?_
  rw [Wa.out, Wc.out, Hp.out]
  rintro e w18 ⟨rfl, f18⟩
  have b18_0 := f18.blk (b := w1.heap.size) (c := #[.bool false, .int .u64 s, .bool false, .int .u64 d, .bool false, .int .u64 m, .bool false, .int .u64 0, .bool false, .int .u64 0]) (t := 26) (by (unfold Blk; simp (disch := first | omega | (simp; done) | (simp; omega)) only [hp_drew, hp_drewN, hp_alloc, hp_other, hp_same, hp_new, upd_cells, Option.map_some, (b17_0).eq]) <;> simp) (by simp [Nil])
  have b18_1 := f18.blk (b := g13) (c := #[.bool false, .int .u64 x]) (t := 25) (by (unfold Blk; simp (disch := first | omega | (simp; done) | (simp; omega)) only [hp_drew, hp_drewN, hp_alloc, hp_other, hp_same, hp_new, upd_cells, Option.map_some, (b17_1).eq]) <;> simp) (by simp [Nil])
  have b18_2 := f18.blk (b := g15) (c := #[.bool false, .int .u64 l]) (t := 25) (by (unfold Blk; simp (disch := first | omega | (simp; done) | (simp; omega)) only [hp_drew, hp_drewN, hp_alloc, hp_other, hp_same, hp_new, upd_cells, Option.map_some, (b17_2).eq]) <;> simp) (by simp [Nil])
  have F18 : Fr Nil w w18 := by (repeat (first | (with_reducible exact Fr.refl _ _) | (with_reducible assumption) | (with_reducible exact Fr.of_nil (by assumption)) | (with_reducible refine Fr.drew ?_) | (with_reducible refine Fr.drewN ?_ _) | (with_reducible refine Fr.alloc ?_ _) | (with_reducible refine Fr.set ?_ _ _ (by first | (intros; omega) | (simp; done) | (simp; omega))) | (with_reducible refine Fr.via ?_ (by assumption)) | (with_reducible refine Fr.comp ?_ (by assumption))))
  have l18_0 := b18_0.lt
  have c18_0 := b18_0.cell
  have z18_0 := b18_0.free
  have l18_1 := b18_1.lt
  have c18_1 := b18_1.cell
  have z18_1 := b18_1.free
  have l18_2 := b18_2.lt
  have c18_2 := b18_2.cell
  have z18_2 := b18_2.free
  have y18 := F18.size
  clear b17_0 l17_0 c17_0 z17_0 b17_1 l17_1 c17_1 z17_1 b17_2 l17_2 c17_2 z17_2 F17 f18
  go_wp2_with fail
  refine (int_any _ _).mono ?_
  rw [Ub.out]
  rintro e w19 ⟨rfl, f19⟩
  have b19_0 := f19.blk (b := w1.heap.size) (c := #[.bool false, .int .u64 s, .bool false, .int .u64 d, .bool false, .int .u64 m, .bool false, .int .u64 0, .bool false, .int .u64 0]) (t := 26) (by (unfold Blk; simp (disch := first | omega | (simp; done) | (simp; omega)) only [hp_drew, hp_drewN, hp_alloc, hp_other, hp_same, hp_new, upd_cells, Option.map_some, (b18_0).eq]) <;> simp) (by simp [Nil])
  have b19_1 := f19.blk (b := g13) (c := #[.bool false, .int .u64 x]) (t := 25) (by (unfold Blk; simp (disch := first | omega | (simp; done) | (simp; omega)) only [hp_drew, hp_drewN, hp_alloc, hp_other, hp_same, hp_new, upd_cells, Option.map_some, (b18_1).eq]) <;> simp) (by simp [Nil])
  have b19_2 := f19.blk (b := g15) (c := #[.bool false, .int .u64 l]) (t := 25) (by (unfold Blk; simp (disch := first | omega | (simp; done) | (simp; omega)) only [hp_drew, hp_drewN, hp_alloc, hp_other, hp_same, hp_new, upd_cells, Option.map_some, (b18_2).eq]) <;> simp) (by simp [Nil])
  have b19_3 := f19.blk (b := w18.heap.size) (c := #[.bool false, .int .u64 p]) (t := 25) (by (unfold Blk; simp (disch := first | omega | (simp; done) | (simp; omega)) only [hp_drew, hp_drewN, hp_alloc, hp_other, hp_same, hp_new, upd_cells, Option.map_some]) <;> simp) (by simp [Nil])
  have F19 : Fr Nil w w19 := by (repeat (first | (with_reducible exact Fr.refl _ _) | (with_reducible assumption) | (with_reducible exact Fr.of_nil (by assumption)) | (with_reducible refine Fr.drew ?_) | (with_reducible refine Fr.drewN ?_ _) | (with_reducible refine Fr.alloc ?_ _) | (with_reducible refine Fr.set ?_ _ _ (by first | (intros; omega) | (simp; done) | (simp; omega))) | (with_reducible refine Fr.via ?_ (by assumption)) | (with_reducible refine Fr.comp ?_ (by assumption))))
  have l19_0 := b19_0.lt
  have c19_0 := b19_0.cell
  have z19_0 := b19_0.free
  have l19_1 := b19_1.lt
  have c19_1 := b19_1.cell
  have z19_1 := b19_1.free
  have l19_2 := b19_2.lt
  have c19_2 := b19_2.cell
  have z19_2 := b19_2.free
  have l19_3 := b19_3.lt
  have c19_3 := b19_3.cell
  have z19_3 := b19_3.free
  have y19 := F19.size
  clear b18_0 l18_0 c18_0 z18_0 b18_1 l18_1 c18_1 z18_1 b18_2 l18_2 c18_2 z18_2 F18 f19
  go_wp2_with fail
  refine (int_any _ _).mono ?_
  rw [Uc.out]
  rintro e w20 ⟨rfl, f20⟩
  have b20_0 := f20.blk (b := w1.heap.size) (c := #[.bool false, .int .u64 s, .bool false, .int .u64 d, .bool false, .int .u64 m, .bool false, .int .u64 0, .bool false, .int .u64 0]) (t := 26) (by (unfold Blk; simp (disch := first | omega | (simp; done) | (simp; omega)) only [hp_drew, hp_drewN, hp_alloc, hp_other, hp_same, hp_new, upd_cells, Option.map_some, (b19_0).eq]) <;> simp) (by simp [Nil])
  have b20_1 := f20.blk (b := g13) (c := #[.bool false, .int .u64 x]) (t := 25) (by (unfold Blk; simp (disch := first | omega | (simp; done) | (simp; omega)) only [hp_drew, hp_drewN, hp_alloc, hp_other, hp_same, hp_new, upd_cells, Option.map_some, (b19_1).eq]) <;> simp) (by simp [Nil])
  have b20_2 := f20.blk (b := g15) (c := #[.bool false, .int .u64 l]) (t := 25) (by (unfold Blk; simp (disch := first | omega | (simp; done) | (simp; omega)) only [hp_drew, hp_drewN, hp_alloc, hp_other, hp_same, hp_new, upd_cells, Option.map_some, (b19_2).eq]) <;> simp) (by simp [Nil])
  have b20_3 := f20.blk (b := w18.heap.size) (c := #[.bool false, .int .u64 p]) (t := 25) (by (unfold Blk; simp (disch := first | omega | (simp; done) | (simp; omega)) only [hp_drew, hp_drewN, hp_alloc, hp_other, hp_same, hp_new, upd_cells, Option.map_some, (b19_3).eq]) <;> simp) (by simp [Nil])
  have F20 : Fr Nil w w20 := by (repeat (first | (with_reducible exact Fr.refl _ _) | (with_reducible assumption) | (with_reducible exact Fr.of_nil (by assumption)) | (with_reducible refine Fr.drew ?_) | (with_reducible refine Fr.drewN ?_ _) | (with_reducible refine Fr.alloc ?_ _) | (with_reducible refine Fr.set ?_ _ _ (by first | (intros; omega) | (simp; done) | (simp; omega))) | (with_reducible refine Fr.via ?_ (by assumption)) | (with_reducible refine Fr.comp ?_ (by assumption))))
  have l20_0 := b20_0.lt
  have c20_0 := b20_0.cell
  have z20_0 := b20_0.free
  have l20_1 := b20_1.lt
  have c20_1 := b20_1.cell
  have z20_1 := b20_1.free
  have l20_2 := b20_2.lt
  have c20_2 := b20_2.cell
  have z20_2 := b20_2.free
  have l20_3 := b20_3.lt
  have c20_3 := b20_3.cell
  have z20_3 := b20_3.free
  have y20 := F20.size
  clear b19_0 l19_0 c19_0 z19_0 b19_1 l19_1 c19_1 z19_1 b19_2 l19_2 c19_2 z19_2 b19_3 l19_3 c19_3 z19_3 F19 f20
  go_wp2_with fail
  refine (calc_mul _ _ _).mono ?_
  rw [Wb.out, Wc.out, Hq.out]
  rintro e w21 ⟨rfl, f21⟩
  have b21_0 := f21.blk (b := w1.heap.size) (c := #[.bool false, .int .u64 s, .bool false, .int .u64 d, .bool false, .int .u64 m, .bool false, .int .u64 0, .bool false, .int .u64 0]) (t := 26) (by (unfold Blk; simp (disch := first | omega | (simp; done) | (simp; omega)) only [hp_drew, hp_drewN, hp_alloc, hp_other, hp_same, hp_new, upd_cells, Option.map_some, (b20_0).eq]) <;> simp) (by simp [Nil])
  have b21_1 := f21.blk (b := g13) (c := #[.bool false, .int .u64 x]) (t := 25) (by (unfold Blk; simp (disch := first | omega | (simp; done) | (simp; omega)) only [hp_drew, hp_drewN, hp_alloc, hp_other, hp_same, hp_new, upd_cells, Option.map_some, (b20_1).eq]) <;> simp) (by simp [Nil])
  have b21_2 := f21.blk (b := g15) (c := #[.bool false, .int .u64 l]) (t := 25) (by (unfold Blk; simp (disch := first | omega | (simp; done) | (simp; omega)) only [hp_drew, hp_drewN, hp_alloc, hp_other, hp_same, hp_new, upd_cells, Option.map_some, (b20_2).eq]) <;> simp) (by simp [Nil])
  have b21_3 := f21.blk (b := w18.heap.size) (c := #[.bool false, .int .u64 p]) (t := 25) (by (unfold Blk; simp (disch := first | omega | (simp; done) | (simp; omega)) only [hp_drew, hp_drewN, hp_alloc, hp_other, hp_same, hp_new, upd_cells, Option.map_some, (b20_3).eq]) <;> simp) (by simp [Nil])
  have F21 : Fr Nil w w21 := by (repeat (first | (with_reducible exact Fr.refl _ _) | (with_reducible assumption) | (with_reducible exact Fr.of_nil (by assumption)) | (with_reducible refine Fr.drew ?_) | (with_reducible refine Fr.drewN ?_ _) | (with_reducible refine Fr.alloc ?_ _) | (with_reducible refine Fr.set ?_ _ _ (by first | (intros; omega) | (simp; done) | (simp; omega))) | (with_reducible refine Fr.via ?_ (by assumption)) | (with_reducible refine Fr.comp ?_ (by assumption))))
  have l21_0 := b21_0.lt
  have c21_0 := b21_0.cell
  have z21_0 := b21_0.free
  have l21_1 := b21_1.lt
  have c21_1 := b21_1.cell
  have z21_1 := b21_1.free
  have l21_2 := b21_2.lt
  have c21_2 := b21_2.cell
  have z21_2 := b21_2.free
  have l21_3 := b21_3.lt
  have c21_3 := b21_3.cell
  have z21_3 := b21_3.free
  have y21 := F21.size
  clear b20_0 l20_0 c20_0 z20_0 b20_1 l20_1 c20_1 z20_1 b20_2 l20_2 c20_2 z20_2 b20_3 l20_3 c20_3 z20_3 F20 f21
  go_wp2_with fail
  refine (calc_add _ _ _).mono ?_
  rw [Hright.out]
  rintro e w22 ⟨rfl, f22⟩
  have b22_0 := f22.blk (b := w1.heap.size) (c := #[.bool false, .int .u64 s, .bool false, .int .u64 d, .bool false, .int .u64 m, .bool false, .int .u64 0, .bool false, .int .u64 0]) (t := 26) (by (unfold Blk; simp (disch := first | omega | (simp; done) | (simp; omega)) only [hp_drew, hp_drewN, hp_alloc, hp_other, hp_same, hp_new, upd_cells, Option.map_some, (b21_0).eq]) <;> simp) (by simp [Nil])
  have b22_1 := f22.blk (b := g13) (c := #[.bool false, .int .u64 x]) (t := 25) (by (unfold Blk; simp (disch := first | omega | (simp; done) | (simp; omega)) only [hp_drew, hp_drewN, hp_alloc, hp_other, hp_same, hp_new, upd_cells, Option.map_some, (b21_1).eq]) <;> simp) (by simp [Nil])
  have b22_2 := f22.blk (b := g15) (c := #[.bool false, .int .u64 l]) (t := 25) (by (unfold Blk; simp (disch := first | omega | (simp; done) | (simp; omega)) only [hp_drew, hp_drewN, hp_alloc, hp_other, hp_same, hp_new, upd_cells, Option.map_some, (b21_2).eq]) <;> simp) (by simp [Nil])
  have b22_3 := f22.blk (b := w18.heap.size) (c := #[.bool false, .int .u64 p]) (t := 25) (by (unfold Blk; simp (disch := first | omega | (simp; done) | (simp; omega)) only [hp_drew, hp_drewN, hp_alloc, hp_other, hp_same, hp_new, upd_cells, Option.map_some, (b21_3).eq]) <;> simp) (by simp [Nil])
  have b22_4 := f22.blk (b := w21.heap.size) (c := #[.bool false, .int .u64 q]) (t := 25) (by (unfold Blk; simp (disch := first | omega | (simp; done) | (simp; omega)) only [hp_drew, hp_drewN, hp_alloc, hp_other, hp_same, hp_new, upd_cells, Option.map_some]) <;> simp) (by simp [Nil])
  have F22 : Fr Nil w w22 := by (repeat (first | (with_reducible exact Fr.refl _ _) | (with_reducible assumption) | (with_reducible exact Fr.of_nil (by assumption)) | (with_reducible refine Fr.drew ?_) | (with_reducible refine Fr.drewN ?_ _) | (with_reducible refine Fr.alloc ?_ _) | (with_reducible refine Fr.set ?_ _ _ (by first | (intros; omega) | (simp; done) | (simp; omega))) | (with_reducible refine Fr.via ?_ (by assumption)) | (with_reducible refine Fr.comp ?_ (by assumption))))
  have l22_0 := b22_0.lt
  have c22_0 := b22_0.cell
  have z22_0 := b22_0.free
  have l22_1 := b22_1.lt
  have c22_1 := b22_1.cell
  have z22_1 := b22_1.free
  have l22_2 := b22_2.lt
  have c22_2 := b22_2.cell
  have z22_2 := b22_2.free
  have l22_3 := b22_3.lt
  have c22_3 := b22_3.cell
  have z22_3 := b22_3.free
  have l22_4 := b22_4.lt
  have c22_4 := b22_4.cell
  have z22_4 := b22_4.free
  have y22 := F22.size
  clear b21_0 l21_0 c21_0 z21_0 b21_1 l21_1 c21_1 z21_1 b21_2 l21_2 c21_2 z21_2 b21_3 l21_3 c21_3 z21_3 F21 f22
  go_wp2_with fail
  refine (int_any _ _).mono ?_
  rw [Ub.out]
  rintro e w23 ⟨rfl, f23⟩
  have b23_0 := f23.blk (b := w1.heap.size) (c := #[.bool false, .int .u64 s, .bool false, .int .u64 d, .bool false, .int .u64 m, .bool false, .int .u64 0, .bool false, .int .u64 0]) (t := 26) (by (unfold Blk; simp (disch := first | omega | (simp; done) | (simp; omega)) only [hp_drew, hp_drewN, hp_alloc, hp_other, hp_same, hp_new, upd_cells, Option.map_some, (b22_0).eq]) <;> simp) (by simp [Nil])
  have b23_1 := f23.blk (b := g13) (c := #[.bool false, .int .u64 x]) (t := 25) (by (unfold Blk; simp (disch := first | omega | (simp; done) | (simp; omega)) only [hp_drew, hp_drewN, hp_alloc, hp_other, hp_same, hp_new, upd_cells, Option.map_some, (b22_1).eq]) <;> simp) (by simp [Nil])
  have b23_2 := f23.blk (b := g15) (c := #[.bool false, .int .u64 l]) (t := 25) (by (unfold Blk; simp (disch := first | omega | (simp; done) | (simp; omega)) only [hp_drew, hp_drewN, hp_alloc, hp_other, hp_same, hp_new, upd_cells, Option.map_some, (b22_2).eq]) <;> simp) (by simp [Nil])
  have b23_3 := f23.blk (b := w18.heap.size) (c := #[.bool false, .int .u64 p]) (t := 25) (by (unfold Blk; simp (disch := first | omega | (simp; done) | (simp; omega)) only [hp_drew, hp_drewN, hp_alloc, hp_other, hp_same, hp_new, upd_cells, Option.map_some, (b22_3).eq]) <;> simp) (by simp [Nil])
  have b23_4 := f23.blk (b := w21.heap.size) (c := #[.bool false, .int .u64 q]) (t := 25) (by (unfold Blk; simp (disch := first | omega | (simp; done) | (simp; omega)) only [hp_drew, hp_drewN, hp_alloc, hp_other, hp_same, hp_new, upd_cells, Option.map_some, (b22_4).eq]) <;> simp) (by simp [Nil])
  have b23_5 := f23.blk (b := w22.heap.size) (c := #[.bool false, .int .u64 l]) (t := 25) (by (unfold Blk; simp (disch := first | omega | (simp; done) | (simp; omega)) only [hp_drew, hp_drewN, hp_alloc, hp_other, hp_same, hp_new, upd_cells, Option.map_some]) <;> simp) (by simp [Nil])
  have F23 : Fr Nil w w23 := by (repeat (first | (with_reducible exact Fr.refl _ _) | (with_reducible assumption) | (with_reducible exact Fr.of_nil (by assumption)) | (with_reducible refine Fr.drew ?_) | (with_reducible refine Fr.drewN ?_ _) | (with_reducible refine Fr.alloc ?_ _) | (with_reducible refine Fr.set ?_ _ _ (by first | (intros; omega) | (simp; done) | (simp; omega))) | (with_reducible refine Fr.via ?_ (by assumption)) | (with_reducible refine Fr.comp ?_ (by assumption))))
  have l23_0 := b23_0.lt
  have c23_0 := b23_0.cell
  have z23_0 := b23_0.free
  have l23_1 := b23_1.lt
  have c23_1 := b23_1.cell
  have z23_1 := b23_1.free
  have l23_2 := b23_2.lt
  have c23_2 := b23_2.cell
  have z23_2 := b23_2.free
  have l23_3 := b23_3.lt
  have c23_3 := b23_3.cell
  have z23_3 := b23_3.free
  have l23_4 := b23_4.lt
  have c23_4 := b23_4.cell
  have z23_4 := b23_4.free
  have l23_5 := b23_5.lt
  have c23_5 := b23_5.cell
  have z23_5 := b23_5.free
  have y23 := F23.size
  clear b22_0 l22_0 c22_0 z22_0 b22_1 l22_1 c22_1 z22_1 b22_2 l22_2 c22_2 z22_2 b22_3 l22_3 c22_3 z22_3 b22_4 l22_4 c22_4 z22_4 F22 f23
  go_wp2_with fail
  refine (int_any _ _).mono ?_
  rw [Ua.out]
  rintro e w24 ⟨rfl, f24⟩
  have b24_0 := f24.blk (b := w1.heap.size) (c := #[.bool false, .int .u64 s, .bool false, .int .u64 d, .bool false, .int .u64 m, .bool false, .int .u64 0, .bool false, .int .u64 0]) (t := 26) (by (unfold Blk; simp (disch := first | omega | (simp; done) | (simp; omega)) only [hp_drew, hp_drewN, hp_alloc, hp_other, hp_same, hp_new, upd_cells, Option.map_some, (b23_0).eq]) <;> simp) (by simp [Nil])
  have b24_1 := f24.blk (b := g13) (c := #[.bool false, .int .u64 x]) (t := 25) (by (unfold Blk; simp (disch := first | omega | (simp; done) | (simp; omega)) only [hp_drew, hp_drewN, hp_alloc, hp_other, hp_same, hp_new, upd_cells, Option.map_some, (b23_1).eq]) <;> simp) (by simp [Nil])
  have b24_2 := f24.blk (b := g15) (c := #[.bool false, .int .u64 l]) (t := 25) (by (unfold Blk; simp (disch := first | omega | (simp; done) | (simp; omega)) only [hp_drew, hp_drewN, hp_alloc, hp_other, hp_same, hp_new, upd_cells, Option.map_some, (b23_2).eq]) <;> simp) (by simp [Nil])
  have b24_3 := f24.blk (b := w18.heap.size) (c := #[.bool false, .int .u64 p]) (t := 25) (by (unfold Blk; simp (disch := first | omega | (simp; done) | (simp; omega)) only [hp_drew, hp_drewN, hp_alloc, hp_other, hp_same, hp_new, upd_cells, Option.map_some, (b23_3).eq]) <;> simp) (by simp [Nil])
  have b24_4 := f24.blk (b := w21.heap.size) (c := #[.bool false, .int .u64 q]) (t := 25) (by (unfold Blk; simp (disch := first | omega | (simp; done) | (simp; omega)) only [hp_drew, hp_drewN, hp_alloc, hp_other, hp_same, hp_new, upd_cells, Option.map_some, (b23_4).eq]) <;> simp) (by simp [Nil])
  have b24_5 := f24.blk (b := w22.heap.size) (c := #[.bool false, .int .u64 l]) (t := 25) (by (unfold Blk; simp (disch := first | omega | (simp; done) | (simp; omega)) only [hp_drew, hp_drewN, hp_alloc, hp_other, hp_same, hp_new, upd_cells, Option.map_some, (b23_5).eq]) <;> simp) (by simp [Nil])
  have F24 : Fr Nil w w24 := by (repeat (first | (with_reducible exact Fr.refl _ _) | (with_reducible assumption) | (with_reducible exact Fr.of_nil (by assumption)) | (with_reducible refine Fr.drew ?_) | (with_reducible refine Fr.drewN ?_ _) | (with_reducible refine Fr.alloc ?_ _) | (with_reducible refine Fr.set ?_ _ _ (by first | (intros; omega) | (simp; done) | (simp; omega))) | (with_reducible refine Fr.via ?_ (by assumption)) | (with_reducible refine Fr.comp ?_ (by assumption))))
  have l24_0 := b24_0.lt
  have c24_0 := b24_0.cell
  have z24_0 := b24_0.free
  have l24_1 := b24_1.lt
  have c24_1 := b24_1.cell
  have z24_1 := b24_1.free
  have l24_2 := b24_2.lt
  have c24_2 := b24_2.cell
  have z24_2 := b24_2.free
  have l24_3 := b24_3.lt
  have c24_3 := b24_3.cell
  have z24_3 := b24_3.free
  have l24_4 := b24_4.lt
  have c24_4 := b24_4.cell
  have z24_4 := b24_4.free
  have l24_5 := b24_5.lt
  have c24_5 := b24_5.cell
  have z24_5 := b24_5.free
  have y24 := F24.size
  clear b23_0 l23_0 c23_0 z23_0 b23_1 l23_1 c23_1 z23_1 b23_2 l23_2 c23_2 z23_2 b23_3 l23_3 c23_3 z23_3 b23_4 l23_4 c23_4 z23_4 b23_5 l23_5 c23_5 z23_5 F23 f24
  go_wp2_with fail
  refine (calc_mul _ _ _).mono ?_
  rw [Wb.out, Wa.out, Hturn.out]
  rintro e w25 ⟨rfl, f25⟩
  have b25_0 := f25.blk (b := w1.heap.size) (c := #[.bool false, .int .u64 s, .bool false, .int .u64 d, .bool false, .int .u64 m, .bool false, .int .u64 0, .bool false, .int .u64 0]) (t := 26) (by (unfold Blk; simp (disch := first | omega | (simp; done) | (simp; omega)) only [hp_drew, hp_drewN, hp_alloc, hp_other, hp_same, hp_new, upd_cells, Option.map_some, (b24_0).eq]) <;> simp) (by simp [Nil])
  have b25_1 := f25.blk (b := g13) (c := #[.bool false, .int .u64 x]) (t := 25) (by (unfold Blk; simp (disch := first | omega | (simp; done) | (simp; omega)) only [hp_drew, hp_drewN, hp_alloc, hp_other, hp_same, hp_new, upd_cells, Option.map_some, (b24_1).eq]) <;> simp) (by simp [Nil])
  have b25_2 := f25.blk (b := g15) (c := #[.bool false, .int .u64 l]) (t := 25) (by (unfold Blk; simp (disch := first | omega | (simp; done) | (simp; omega)) only [hp_drew, hp_drewN, hp_alloc, hp_other, hp_same, hp_new, upd_cells, Option.map_some, (b24_2).eq]) <;> simp) (by simp [Nil])
  have b25_3 := f25.blk (b := w18.heap.size) (c := #[.bool false, .int .u64 p]) (t := 25) (by (unfold Blk; simp (disch := first | omega | (simp; done) | (simp; omega)) only [hp_drew, hp_drewN, hp_alloc, hp_other, hp_same, hp_new, upd_cells, Option.map_some, (b24_3).eq]) <;> simp) (by simp [Nil])
  have b25_4 := f25.blk (b := w21.heap.size) (c := #[.bool false, .int .u64 q]) (t := 25) (by (unfold Blk; simp (disch := first | omega | (simp; done) | (simp; omega)) only [hp_drew, hp_drewN, hp_alloc, hp_other, hp_same, hp_new, upd_cells, Option.map_some, (b24_4).eq]) <;> simp) (by simp [Nil])
  have b25_5 := f25.blk (b := w22.heap.size) (c := #[.bool false, .int .u64 l]) (t := 25) (by (unfold Blk; simp (disch := first | omega | (simp; done) | (simp; omega)) only [hp_drew, hp_drewN, hp_alloc, hp_other, hp_same, hp_new, upd_cells, Option.map_some, (b24_5).eq]) <;> simp) (by simp [Nil])
  have F25 : Fr Nil w w25 := by (repeat (first | (with_reducible exact Fr.refl _ _) | (with_reducible assumption) | (with_reducible exact Fr.of_nil (by assumption)) | (with_reducible refine Fr.drew ?_) | (with_reducible refine Fr.drewN ?_ _) | (with_reducible refine Fr.alloc ?_ _) | (with_reducible refine Fr.set ?_ _ _ (by first | (intros; omega) | (simp; done) | (simp; omega))) | (with_reducible refine Fr.via ?_ (by assumption)) | (with_reducible refine Fr.comp ?_ (by assumption))))
  have l25_0 := b25_0.lt
  have c25_0 := b25_0.cell
  have z25_0 := b25_0.free
  have l25_1 := b25_1.lt
  have c25_1 := b25_1.cell
  have z25_1 := b25_1.free
  have l25_2 := b25_2.lt
  have c25_2 := b25_2.cell
  have z25_2 := b25_2.free
  have l25_3 := b25_3.lt
  have c25_3 := b25_3.cell
  have z25_3 := b25_3.free
  have l25_4 := b25_4.lt
  have c25_4 := b25_4.cell
  have z25_4 := b25_4.free
  have l25_5 := b25_5.lt
  have c25_5 := b25_5.cell
  have z25_5 := b25_5.free
  have y25 := F25.size
  clear b24_0 l24_0 c24_0 z24_0 b24_1 l24_1 c24_1 z24_1 b24_2 l24_2 c24_2 z24_2 b24_3 l24_3 c24_3 z24_3 b24_4 l24_4 c24_4 z24_4 b24_5 l24_5 c24_5 z24_5 F24 f25
  go_wp2_with fail
  obtain ⟨w26, hV⟩ : ∃ V, V = w25.alloc (.cells #[.bool false, .int .u64 m] 25) := ⟨_, rfl⟩
  rw [← hV]
  have F26 : Fr Nil w w26 := by rw [hV]; (repeat (first | (with_reducible exact Fr.refl _ _) | (with_reducible assumption) | (with_reducible exact Fr.of_nil (by assumption)) | (with_reducible refine Fr.drew ?_) | (with_reducible refine Fr.drewN ?_ _) | (with_reducible refine Fr.alloc ?_ _) | (with_reducible refine Fr.set ?_ _ _ (by first | (intros; omega) | (simp; done) | (simp; omega))) | (with_reducible refine Fr.via ?_ (by assumption)) | (with_reducible refine Fr.comp ?_ (by assumption))))
  have b26_0 : Blk w26 (w1.heap.size) #[.bool false, .int .u64 s, .bool false, .int .u64 d, .bool false, .int .u64 m, .bool false, .int .u64 0, .bool false, .int .u64 0] 26 := by rw [hV]; (unfold Blk; simp (disch := first | omega | (simp; done) | (simp; omega)) only [hp_drew, hp_drewN, hp_alloc, hp_other, hp_same, hp_new, upd_cells, Option.map_some, (b25_0).eq]) <;> simp
  have b26_1 : Blk w26 (g13) #[.bool false, .int .u64 x] 25 := by rw [hV]; (unfold Blk; simp (disch := first | omega | (simp; done) | (simp; omega)) only [hp_drew, hp_drewN, hp_alloc, hp_other, hp_same, hp_new, upd_cells, Option.map_some, (b25_1).eq]) <;> simp
  have b26_2 : Blk w26 (g15) #[.bool false, .int .u64 l] 25 := by rw [hV]; (unfold Blk; simp (disch := first | omega | (simp; done) | (simp; omega)) only [hp_drew, hp_drewN, hp_alloc, hp_other, hp_same, hp_new, upd_cells, Option.map_some, (b25_2).eq]) <;> simp
  have b26_3 : Blk w26 (w18.heap.size) #[.bool false, .int .u64 p] 25 := by rw [hV]; (unfold Blk; simp (disch := first | omega | (simp; done) | (simp; omega)) only [hp_drew, hp_drewN, hp_alloc, hp_other, hp_same, hp_new, upd_cells, Option.map_some, (b25_3).eq]) <;> simp
  have b26_4 : Blk w26 (w21.heap.size) #[.bool false, .int .u64 q] 25 := by rw [hV]; (unfold Blk; simp (disch := first | omega | (simp; done) | (simp; omega)) only [hp_drew, hp_drewN, hp_alloc, hp_other, hp_same, hp_new, upd_cells, Option.map_some, (b25_4).eq]) <;> simp
  have b26_5 : Blk w26 (w22.heap.size) #[.bool false, .int .u64 l] 25 := by rw [hV]; (unfold Blk; simp (disch := first | omega | (simp; done) | (simp; omega)) only [hp_drew, hp_drewN, hp_alloc, hp_other, hp_same, hp_new, upd_cells, Option.map_some, (b25_5).eq]) <;> simp
  have b26_6 : Blk w26 (w25.heap.size) #[.bool false, .int .u64 m] 25 := by rw [hV]; (unfold Blk; simp (disch := first | omega | (simp; done) | (simp; omega)) only [hp_drew, hp_drewN, hp_alloc, hp_other, hp_same, hp_new, upd_cells, Option.map_some]) <;> simp
  clear hV F25 b25_0 l25_0 c25_0 z25_0 b25_1 l25_1 c25_1 z25_1 b25_2 l25_2 c25_2 z25_2 b25_3 l25_3 c25_3 z25_3 b25_4 l25_4 c25_4 z25_4 b25_5 l25_5 c25_5 z25_5
  have l26_0 := b26_0.lt
  have c26_0 := b26_0.cell
  have z26_0 := b26_0.free
  have l26_1 := b26_1.lt
  have c26_1 := b26_1.cell
  have z26_1 := b26_1.free
  have l26_2 := b26_2.lt
  have c26_2 := b26_2.cell
  have z26_2 := b26_2.free
  have l26_3 := b26_3.lt
  have c26_3 := b26_3.cell
  have z26_3 := b26_3.free
  have l26_4 := b26_4.lt
  have c26_4 := b26_4.cell
  have z26_4 := b26_4.free
  have l26_5 := b26_5.lt
  have c26_5 := b26_5.cell
  have z26_5 := b26_5.free
  have l26_6 := b26_6.lt
  have c26_6 := b26_6.cell
  have z26_6 := b26_6.free
  have y26 := F26.size
  have r0_0 := b26_0.cell 0
  have r0_1 := b26_0.cell 1
  have r0_2 := b26_0.cell 2
  have r0_3 := b26_0.cell 3
  have r0_4 := b26_0.cell 4
  have r0_5 := b26_0.cell 5
  have r0_6 := b26_0.cell 6
  have r0_7 := b26_0.cell 7
  have r0_8 := b26_0.cell 8
  have r0_9 := b26_0.cell 9
  have r1_0 := b26_1.cell 0
  have r1_1 := b26_1.cell 1
  have r2_0 := b26_2.cell 0
  have r2_1 := b26_2.cell 1
  have r3_0 := b26_3.cell 0
  have r3_1 := b26_3.cell 1
  have r4_0 := b26_4.cell 0
  have r4_1 := b26_4.cell 1
  have r5_0 := b26_5.cell 0
  have r5_1 := b26_5.cell 1
  have r6_0 := b26_6.cell 0
  have r6_1 := b26_6.cell 1
  simp at r0_0 r0_1 r0_2 r0_3 r0_4 r0_5 r0_6 r0_7 r0_8 r0_9 r1_0 r1_1 r2_0 r2_1 r3_0 r3_1 r4_0 r4_1 r5_0 r5_1 r6_0 r6_1
  clear l26_0 c26_0 z26_0 l26_1 c26_1 z26_1 l26_2 c26_2 z26_2 l26_3 c26_3 z26_3 l26_4 c26_4 z26_4 l26_5 c26_5 z26_5 l26_6 c26_6 z26_6
  go_cut [114] (fun sv wx => sv = .bool false ∧ Fr Nil w wx)
  case first =>
    as_aux_lemma =>
    go_region_held3 (fun w' => w'.cell? ⟨w1.heap.size, 0, none⟩ = some (.bool false) ∧ w'.cell? ⟨w1.heap.size, 1, none⟩ = some (.int .u64 s) ∧ w'.cell? ⟨w1.heap.size, 2, none⟩ = some (.bool false) ∧ w'.cell? ⟨w1.heap.size, 3, none⟩ = some (.int .u64 d) ∧ w'.cell? ⟨w1.heap.size, 4, none⟩ = some (.bool false) ∧ w'.cell? ⟨w1.heap.size, 5, none⟩ = some (.int .u64 m) ∧ w'.cell? ⟨w1.heap.size, 6, none⟩ = some (.bool false) ∧ w'.cell? ⟨w1.heap.size, 7, none⟩ = some (.int .u64 0) ∧ w'.cell? ⟨w1.heap.size, 8, none⟩ = some (.bool false) ∧ w'.cell? ⟨w1.heap.size, 9, none⟩ = some (.int .u64 0) ∧ w'.cell? ⟨g13, 0, none⟩ = some (.bool false) ∧ w'.cell? ⟨g13, 1, none⟩ = some (.int .u64 x) ∧ w'.cell? ⟨g15, 0, none⟩ = some (.bool false) ∧ w'.cell? ⟨g15, 1, none⟩ = some (.int .u64 l) ∧ w'.cell? ⟨w18.heap.size, 0, none⟩ = some (.bool false) ∧ w'.cell? ⟨w18.heap.size, 1, none⟩ = some (.int .u64 p) ∧ w'.cell? ⟨w21.heap.size, 0, none⟩ = some (.bool false) ∧ w'.cell? ⟨w21.heap.size, 1, none⟩ = some (.int .u64 q) ∧ w'.cell? ⟨w22.heap.size, 0, none⟩ = some (.bool false) ∧ w'.cell? ⟨w22.heap.size, 1, none⟩ = some (.int .u64 l) ∧ w'.cell? ⟨w25.heap.size, 0, none⟩ = some (.bool false) ∧ w'.cell? ⟨w25.heap.size, 1, none⟩ = some (.int .u64 m)) (first | go_keep | exact ⟨r0_0, r0_1, r0_2, r0_3, r0_4, r0_5, r0_6, r0_7, r0_8, r0_9, r1_0, r1_1, r2_0, r2_1, r3_0, r3_1, r4_0, r4_1, r5_0, r5_1, r6_0, r6_1⟩ | exact ⟨tr0_0, tr0_1, tr0_2, tr0_3, tr0_4, tr0_5, tr0_6, tr0_7, tr0_8, tr0_9, tr1_0, tr1_1, tr2_0, tr2_1, tr3_0, tr3_1, tr4_0, tr4_1, tr5_0, tr5_1, tr6_0, tr6_1⟩) (first
      | (go_at_call 14; refine (int_any _ _).mono ?_; rw [Ua.out]; rintro e wa ⟨rfl, fa⟩; have ba0 := fa.blk b26_0.drew (fun q => q); have ba1 := fa.blk b26_1.drew (fun q => q); have ba2 := fa.blk b26_2.drew (fun q => q); have ba3 := fa.blk b26_3.drew (fun q => q); have ba4 := fa.blk b26_4.drew (fun q => q); have ba5 := fa.blk b26_5.drew (fun q => q); have ba6 := fa.blk b26_6.drew (fun q => q); have tr0_0 := ba0.cell 0; have tr0_1 := ba0.cell 1; have tr0_2 := ba0.cell 2; have tr0_3 := ba0.cell 3; have tr0_4 := ba0.cell 4; have tr0_5 := ba0.cell 5; have tr0_6 := ba0.cell 6; have tr0_7 := ba0.cell 7; have tr0_8 := ba0.cell 8; have tr0_9 := ba0.cell 9; have tr1_0 := ba1.cell 0; have tr1_1 := ba1.cell 1; have tr2_0 := ba2.cell 0; have tr2_1 := ba2.cell 1; have tr3_0 := ba3.cell 0; have tr3_1 := ba3.cell 1; have tr4_0 := ba4.cell 0; have tr4_1 := ba4.cell 1; have tr5_0 := ba5.cell 0; have tr5_1 := ba5.cell 1; have tr6_0 := ba6.cell 0; have tr6_1 := ba6.cell 1; simp at tr0_0 tr0_1 tr0_2 tr0_3 tr0_4 tr0_5 tr0_6 tr0_7 tr0_8 tr0_9 tr1_0 tr1_1 tr2_0 tr2_1 tr3_0 tr3_1 tr4_0 tr4_1 tr5_0 tr5_1 tr6_0 tr6_1))
    all_goals (go_wp2_with fail; go_meet; refine ⟨rfl, ?_⟩)
    all_goals (show Fr _ _ _; (repeat (first | (with_reducible exact Fr.refl _ _) | (with_reducible assumption) | (with_reducible exact Fr.of_nil (by assumption)) | (with_reducible refine Fr.drew ?_) | (with_reducible refine Fr.drewN ?_ _) | (with_reducible refine Fr.alloc ?_ _) | (with_reducible refine Fr.set ?_ _ _ (by first | (intros; omega) | (simp; done) | (simp; omega))) | (with_reducible refine Fr.via ?_ (by assumption)) | (with_reducible refine Fr.comp ?_ (by assumption)))); done)
  case rest =>
  as_aux_lemma =>
  obtain ⟨rfl, F27⟩ := hcut
  obtain ⟨w27, rfl⟩ : ∃ V, V = wc := ⟨_, rfl⟩
  clear b26_0 b26_1 b26_2 b26_3 b26_4 b26_5 b26_6 F26 r0_0 r0_1 r0_2 r0_3 r0_4 r0_5 r0_6 r0_7 r0_8 r0_9 r1_0 r1_1 r2_0 r2_1 r3_0 r3_1 r4_0 r4_1 r5_0 r5_1 r6_0 r6_1
  have y27 := F27.size
  by_cases hb0 : b = 0
  · have eb : (b == 0) = true := by simpa using hb0
    have HB := Lib.hid hb0
    clear hb0
    go_wp2_with fail
    refine (int_any _ _).mono ?_
    rw [Ua.out]
    rintro e w28 ⟨rfl, f28⟩
    have F28 : Fr Nil w w28 := by (repeat (first | (with_reducible exact Fr.refl _ _) | (with_reducible assumption) | (with_reducible exact Fr.of_nil (by assumption)) | (with_reducible refine Fr.drew ?_) | (with_reducible refine Fr.drewN ?_ _) | (with_reducible refine Fr.alloc ?_ _) | (with_reducible refine Fr.set ?_ _ _ (by first | (intros; omega) | (simp; done) | (simp; omega))) | (with_reducible refine Fr.via ?_ (by assumption)) | (with_reducible refine Fr.comp ?_ (by assumption))))
    have y28 := F28.size
    clear F27 f28
    go_wp2_with fail
    refine (int_any _ _).mono ?_
    rw [Ub.out]
    rintro e w29 ⟨rfl, f29⟩
    have F29 : Fr Nil w w29 := by (repeat (first | (with_reducible exact Fr.refl _ _) | (with_reducible assumption) | (with_reducible exact Fr.of_nil (by assumption)) | (with_reducible refine Fr.drew ?_) | (with_reducible refine Fr.drewN ?_ _) | (with_reducible refine Fr.alloc ?_ _) | (with_reducible refine Fr.set ?_ _ _ (by first | (intros; omega) | (simp; done) | (simp; omega))) | (with_reducible refine Fr.via ?_ (by assumption)) | (with_reducible refine Fr.comp ?_ (by assumption))))
    have y29 := F29.size
    clear F28 f29
    go_wp2_with fail
    refine (calc_div_zero _ _ _ (by rw [Wb.out]; exact HB.out)).mono ?_
    rintro e w30 ⟨rfl, f30⟩
    have F30 : Fr Nil w w30 := by (repeat (first | (with_reducible exact Fr.refl _ _) | (with_reducible assumption) | (with_reducible exact Fr.of_nil (by assumption)) | (with_reducible refine Fr.drew ?_) | (with_reducible refine Fr.drewN ?_ _) | (with_reducible refine Fr.alloc ?_ _) | (with_reducible refine Fr.set ?_ _ _ (by first | (intros; omega) | (simp; done) | (simp; omega))) | (with_reducible refine Fr.via ?_ (by assumption)) | (with_reducible refine Fr.comp ?_ (by assumption))))
    have y30 := F30.size
    clear F29 f30
    go_wp2_with fail
    refine (int_any _ _).mono ?_
    rw [Ua.out]
    rintro e w31 ⟨rfl, f31⟩
    have F31 : Fr Nil w w31 := by (repeat (first | (with_reducible exact Fr.refl _ _) | (with_reducible assumption) | (with_reducible exact Fr.of_nil (by assumption)) | (with_reducible refine Fr.drew ?_) | (with_reducible refine Fr.drewN ?_ _) | (with_reducible refine Fr.alloc ?_ _) | (with_reducible refine Fr.set ?_ _ _ (by first | (intros; omega) | (simp; done) | (simp; omega))) | (with_reducible refine Fr.via ?_ (by assumption)) | (with_reducible refine Fr.comp ?_ (by assumption))))
    have y31 := F31.size
    clear F30 f31
    go_wp2_with fail
    refine (int_any _ _).mono ?_
    rw [Ub.out]
    rintro e w32 ⟨rfl, f32⟩
    have F32 : Fr Nil w w32 := by (repeat (first | (with_reducible exact Fr.refl _ _) | (with_reducible assumption) | (with_reducible exact Fr.of_nil (by assumption)) | (with_reducible refine Fr.drew ?_) | (with_reducible refine Fr.drewN ?_ _) | (with_reducible refine Fr.alloc ?_ _) | (with_reducible refine Fr.set ?_ _ _ (by first | (intros; omega) | (simp; done) | (simp; omega))) | (with_reducible refine Fr.via ?_ (by assumption)) | (with_reducible refine Fr.comp ?_ (by assumption))))
    have y32 := F32.size
    clear F31 f32
    go_wp2_with fail
    refine (calc_rem_zero _ _ _ (by rw [Wb.out]; exact HB.out)).mono ?_
    rintro e w33 ⟨rfl, f33⟩
    have F33 : Fr Nil w w33 := by (repeat (first | (with_reducible exact Fr.refl _ _) | (with_reducible assumption) | (with_reducible exact Fr.of_nil (by assumption)) | (with_reducible refine Fr.drew ?_) | (with_reducible refine Fr.drewN ?_ _) | (with_reducible refine Fr.alloc ?_ _) | (with_reducible refine Fr.set ?_ _ _ (by first | (intros; omega) | (simp; done) | (simp; omega))) | (with_reducible refine Fr.via ?_ (by assumption)) | (with_reducible refine Fr.comp ?_ (by assumption))))
    have y33 := F33.size
    clear F32 f33
    go_wp2_with fail
    go_ret
    exact ⟨rfl, by (repeat (first | (with_reducible exact Fr.refl _ _) | (with_reducible assumption) | (with_reducible exact Fr.of_nil (by assumption)) | (with_reducible refine Fr.drew ?_) | (with_reducible refine Fr.drewN ?_ _) | (with_reducible refine Fr.alloc ?_ _) | (with_reducible refine Fr.set ?_ _ _ (by first | (intros; omega) | (simp; done) | (simp; omega))) | (with_reducible refine Fr.via ?_ (by assumption)) | (with_reducible refine Fr.comp ?_ (by assumption))))⟩
  by_cases hov : a = -9223372036854775808 ∧ b = -1
  · have eb : (b == 0) = false := by simpa using hb0
    have ea : (a == -9223372036854775808) = true := by simpa using hov.1
    have eb1 : (b == -1) = true := by simpa using hov.2
    have HO := Lib.hid hov
    clear hb0 hov
    go_wp2_with fail
    refine (int_any _ _).mono ?_
    rw [Ua.out]
    rintro e w28 ⟨rfl, f28⟩
    have F28 : Fr Nil w w28 := by (repeat (first | (with_reducible exact Fr.refl _ _) | (with_reducible assumption) | (with_reducible exact Fr.of_nil (by assumption)) | (with_reducible refine Fr.drew ?_) | (with_reducible refine Fr.drewN ?_ _) | (with_reducible refine Fr.alloc ?_ _) | (with_reducible refine Fr.set ?_ _ _ (by first | (intros; omega) | (simp; done) | (simp; omega))) | (with_reducible refine Fr.via ?_ (by assumption)) | (with_reducible refine Fr.comp ?_ (by assumption))))
    have y28 := F28.size
    clear F27 f28
    go_wp2_with fail
    refine (int_any _ _).mono ?_
    rw [Ub.out]
    rintro e w29 ⟨rfl, f29⟩
    have F29 : Fr Nil w w29 := by (repeat (first | (with_reducible exact Fr.refl _ _) | (with_reducible assumption) | (with_reducible exact Fr.of_nil (by assumption)) | (with_reducible refine Fr.drew ?_) | (with_reducible refine Fr.drewN ?_ _) | (with_reducible refine Fr.alloc ?_ _) | (with_reducible refine Fr.set ?_ _ _ (by first | (intros; omega) | (simp; done) | (simp; omega))) | (with_reducible refine Fr.via ?_ (by assumption)) | (with_reducible refine Fr.comp ?_ (by assumption))))
    have y29 := F29.size
    clear F28 f29
    go_wp2_with fail
    refine (calc_div_over _ _ _ (by rw [Wa.out]; exact HO.out.1) (by rw [Wb.out]; exact HO.out.2)).mono ?_
    rintro e w30 ⟨rfl, f30⟩
    have F30 : Fr Nil w w30 := by (repeat (first | (with_reducible exact Fr.refl _ _) | (with_reducible assumption) | (with_reducible exact Fr.of_nil (by assumption)) | (with_reducible refine Fr.drew ?_) | (with_reducible refine Fr.drewN ?_ _) | (with_reducible refine Fr.alloc ?_ _) | (with_reducible refine Fr.set ?_ _ _ (by first | (intros; omega) | (simp; done) | (simp; omega))) | (with_reducible refine Fr.via ?_ (by assumption)) | (with_reducible refine Fr.comp ?_ (by assumption))))
    have y30 := F30.size
    clear F29 f30
    go_wp2_with fail
    refine (int_any _ _).mono ?_
    rw [Ua.out]
    rintro e w31 ⟨rfl, f31⟩
    have F31 : Fr Nil w w31 := by (repeat (first | (with_reducible exact Fr.refl _ _) | (with_reducible assumption) | (with_reducible exact Fr.of_nil (by assumption)) | (with_reducible refine Fr.drew ?_) | (with_reducible refine Fr.drewN ?_ _) | (with_reducible refine Fr.alloc ?_ _) | (with_reducible refine Fr.set ?_ _ _ (by first | (intros; omega) | (simp; done) | (simp; omega))) | (with_reducible refine Fr.via ?_ (by assumption)) | (with_reducible refine Fr.comp ?_ (by assumption))))
    have y31 := F31.size
    clear F30 f31
    go_wp2_with fail
    refine (int_any _ _).mono ?_
    rw [Ub.out]
    rintro e w32 ⟨rfl, f32⟩
    have F32 : Fr Nil w w32 := by (repeat (first | (with_reducible exact Fr.refl _ _) | (with_reducible assumption) | (with_reducible exact Fr.of_nil (by assumption)) | (with_reducible refine Fr.drew ?_) | (with_reducible refine Fr.drewN ?_ _) | (with_reducible refine Fr.alloc ?_ _) | (with_reducible refine Fr.set ?_ _ _ (by first | (intros; omega) | (simp; done) | (simp; omega))) | (with_reducible refine Fr.via ?_ (by assumption)) | (with_reducible refine Fr.comp ?_ (by assumption))))
    have y32 := F32.size
    clear F31 f32
    go_wp2_with fail
    refine (calc_rem_over _ _ _ (by rw [Wa.out]; exact HO.out.1) (by rw [Wb.out]; exact HO.out.2)).mono ?_
    rintro e w33 ⟨rfl, f33⟩
    have F33 : Fr Nil w w33 := by (repeat (first | (with_reducible exact Fr.refl _ _) | (with_reducible assumption) | (with_reducible exact Fr.of_nil (by assumption)) | (with_reducible refine Fr.drew ?_) | (with_reducible refine Fr.drewN ?_ _) | (with_reducible refine Fr.alloc ?_ _) | (with_reducible refine Fr.set ?_ _ _ (by first | (intros; omega) | (simp; done) | (simp; omega))) | (with_reducible refine Fr.via ?_ (by assumption)) | (with_reducible refine Fr.comp ?_ (by assumption))))
    have y33 := F33.size
    clear F32 f33
    go_wp2_with fail
    go_ret
    exact ⟨rfl, by (repeat (first | (with_reducible exact Fr.refl _ _) | (with_reducible assumption) | (with_reducible exact Fr.of_nil (by assumption)) | (with_reducible refine Fr.drew ?_) | (with_reducible refine Fr.drewN ?_ _) | (with_reducible refine Fr.alloc ?_ _) | (with_reducible refine Fr.set ?_ _ _ (by first | (intros; omega) | (simp; done) | (simp; omega))) | (with_reducible refine Fr.via ?_ (by assumption)) | (with_reducible refine Fr.comp ?_ (by assumption))))⟩
  have eb : (b == 0) = false := by simpa using hb0
  have HB := Lib.hid hb0
  have HO : Hid (a ≠ -9223372036854775808 ∨ b ≠ -1) := Lib.hid (by omega)
  obtain ⟨t, ht⟩ : ∃ t, IntKind.u64.wrap (wrap64 (a.tdiv b)) = t := ⟨_, rfl⟩
  obtain ⟨r, hr⟩ : ∃ r, IntKind.u64.wrap (a.tmod b) = r := ⟨_, rfl⟩
  obtain ⟨u, hu⟩ : ∃ u, IntKind.u64.wrap (wrap64 (wrap64 t * b)) = u := ⟨_, rfl⟩
  have Hwhole : Hid (IntKind.u64.wrap (wrap64 (wrap64 u + wrap64 r)) = (x : Int)) := Lib.hid (by rw [← hu, ← hr, ← ht]; exact ring_whole a b x Wa.out lx)
  obtain ⟨ρ, hρ⟩ : ∃ ρ, a.tmod b = ρ := ⟨_, rfl⟩
  obtain ⟨s1, s2, s3, s4, s5⟩ := tmod_facts a b hb0
  rw [hρ] at s1 s2 s3 s4 s5
  have HRho : Hid (wrap64 r = ρ) := Lib.hid (by rw [← hr, w64_u64, hρ]; exact wrap_id (by omega) (by omega))
  have HSS := Lib.hid (And.intro s1 (And.intro s2 (And.intro s3 (And.intro s4 s5))))
  have Ht := Lib.hid ht
  have Hr := Lib.hid hr
  have Hu := Lib.hid hu
  clear ht hr hu hρ hov s1 s2 s3 s4 s5
  go_wp2_with fail
  refine (int_any _ _).mono ?_
  rw [Ua.out]
  rintro e w28 ⟨rfl, f28⟩
  have F28 : Fr Nil w w28 := by (repeat (first | (with_reducible exact Fr.refl _ _) | (with_reducible assumption) | (with_reducible exact Fr.of_nil (by assumption)) | (with_reducible refine Fr.drew ?_) | (with_reducible refine Fr.drewN ?_ _) | (with_reducible refine Fr.alloc ?_ _) | (with_reducible refine Fr.set ?_ _ _ (by first | (intros; omega) | (simp; done) | (simp; omega))) | (with_reducible refine Fr.via ?_ (by assumption)) | (with_reducible refine Fr.comp ?_ (by assumption))))
  have y28 := F28.size
  clear F27 f28
  go_wp2_with fail
  refine (int_any _ _).mono ?_
  rw [Ub.out]
  rintro e w29 ⟨rfl, f29⟩
  have F29 : Fr Nil w w29 := by (repeat (first | (with_reducible exact Fr.refl _ _) | (with_reducible assumption) | (with_reducible exact Fr.of_nil (by assumption)) | (with_reducible refine Fr.drew ?_) | (with_reducible refine Fr.drewN ?_ _) | (with_reducible refine Fr.alloc ?_ _) | (with_reducible refine Fr.set ?_ _ _ (by first | (intros; omega) | (simp; done) | (simp; omega))) | (with_reducible refine Fr.via ?_ (by assumption)) | (with_reducible refine Fr.comp ?_ (by assumption))))
  have y29 := F29.size
  clear F28 f29
  go_wp2_with fail
  refine (calc_div_in _ _ _ (by rw [Wb.out]; exact HB.out) (by rw [Wa.out, Wb.out]; exact HO.out)).mono ?_
  rw [Wa.out, Wb.out, Ht.out]
  rintro e w30 ⟨rfl, f30⟩
  have F30 : Fr Nil w w30 := by (repeat (first | (with_reducible exact Fr.refl _ _) | (with_reducible assumption) | (with_reducible exact Fr.of_nil (by assumption)) | (with_reducible refine Fr.drew ?_) | (with_reducible refine Fr.drewN ?_ _) | (with_reducible refine Fr.alloc ?_ _) | (with_reducible refine Fr.set ?_ _ _ (by first | (intros; omega) | (simp; done) | (simp; omega))) | (with_reducible refine Fr.via ?_ (by assumption)) | (with_reducible refine Fr.comp ?_ (by assumption))))
  have y30 := F30.size
  clear F29 f30
  go_wp2_with fail
  refine (int_any _ _).mono ?_
  rw [Ua.out]
  rintro e w31 ⟨rfl, f31⟩
  have b31_0 := f31.blk (b := w30.heap.size) (c := #[.bool false, .int .u64 t]) (t := 25) (by (unfold Blk; simp (disch := first | omega | (simp; done) | (simp; omega)) only [hp_drew, hp_drewN, hp_alloc, hp_other, hp_same, hp_new, upd_cells, Option.map_some]) <;> simp) (by simp [Nil])
  have F31 : Fr Nil w w31 := by (repeat (first | (with_reducible exact Fr.refl _ _) | (with_reducible assumption) | (with_reducible exact Fr.of_nil (by assumption)) | (with_reducible refine Fr.drew ?_) | (with_reducible refine Fr.drewN ?_ _) | (with_reducible refine Fr.alloc ?_ _) | (with_reducible refine Fr.set ?_ _ _ (by first | (intros; omega) | (simp; done) | (simp; omega))) | (with_reducible refine Fr.via ?_ (by assumption)) | (with_reducible refine Fr.comp ?_ (by assumption))))
  have l31_0 := b31_0.lt
  have c31_0 := b31_0.cell
  have z31_0 := b31_0.free
  have y31 := F31.size
  clear F30 f31
  go_wp2_with fail
  refine (int_any _ _).mono ?_
  rw [Ub.out]
  rintro e w32 ⟨rfl, f32⟩
  have b32_0 := f32.blk (b := w30.heap.size) (c := #[.bool false, .int .u64 t]) (t := 25) (by (unfold Blk; simp (disch := first | omega | (simp; done) | (simp; omega)) only [hp_drew, hp_drewN, hp_alloc, hp_other, hp_same, hp_new, upd_cells, Option.map_some, (b31_0).eq]) <;> simp) (by simp [Nil])
  have F32 : Fr Nil w w32 := by (repeat (first | (with_reducible exact Fr.refl _ _) | (with_reducible assumption) | (with_reducible exact Fr.of_nil (by assumption)) | (with_reducible refine Fr.drew ?_) | (with_reducible refine Fr.drewN ?_ _) | (with_reducible refine Fr.alloc ?_ _) | (with_reducible refine Fr.set ?_ _ _ (by first | (intros; omega) | (simp; done) | (simp; omega))) | (with_reducible refine Fr.via ?_ (by assumption)) | (with_reducible refine Fr.comp ?_ (by assumption))))
  have l32_0 := b32_0.lt
  have c32_0 := b32_0.cell
  have z32_0 := b32_0.free
  have y32 := F32.size
  clear b31_0 l31_0 c31_0 z31_0 F31 f32
  go_wp2_with fail
  refine (calc_rem_in _ _ _ (by rw [Wb.out]; exact HB.out) (by rw [Wa.out, Wb.out]; exact HO.out)).mono ?_
  rw [Wa.out, Wb.out, Hr.out]
  rintro e w33 ⟨rfl, f33⟩
  have b33_0 := f33.blk (b := w30.heap.size) (c := #[.bool false, .int .u64 t]) (t := 25) (by (unfold Blk; simp (disch := first | omega | (simp; done) | (simp; omega)) only [hp_drew, hp_drewN, hp_alloc, hp_other, hp_same, hp_new, upd_cells, Option.map_some, (b32_0).eq]) <;> simp) (by simp [Nil])
  have F33 : Fr Nil w w33 := by (repeat (first | (with_reducible exact Fr.refl _ _) | (with_reducible assumption) | (with_reducible exact Fr.of_nil (by assumption)) | (with_reducible refine Fr.drew ?_) | (with_reducible refine Fr.drewN ?_ _) | (with_reducible refine Fr.alloc ?_ _) | (with_reducible refine Fr.set ?_ _ _ (by first | (intros; omega) | (simp; done) | (simp; omega))) | (with_reducible refine Fr.via ?_ (by assumption)) | (with_reducible refine Fr.comp ?_ (by assumption))))
  have l33_0 := b33_0.lt
  have c33_0 := b33_0.cell
  have z33_0 := b33_0.free
  have y33 := F33.size
  clear b32_0 l32_0 c32_0 z32_0 F32 f33
  go_upto_region 21 with fail
  obtain ⟨w34, hV⟩ : ∃ V, V = w33.alloc (.cells #[.bool false, .int .u64 r] 25) := ⟨_, rfl⟩
  rw [← hV]
  have F34 : Fr Nil w w34 := by rw [hV]; (repeat (first | (with_reducible exact Fr.refl _ _) | (with_reducible assumption) | (with_reducible exact Fr.of_nil (by assumption)) | (with_reducible refine Fr.drew ?_) | (with_reducible refine Fr.drewN ?_ _) | (with_reducible refine Fr.alloc ?_ _) | (with_reducible refine Fr.set ?_ _ _ (by first | (intros; omega) | (simp; done) | (simp; omega))) | (with_reducible refine Fr.via ?_ (by assumption)) | (with_reducible refine Fr.comp ?_ (by assumption))))
  have b34_0 : Blk w34 (w30.heap.size) #[.bool false, .int .u64 t] 25 := by rw [hV]; (unfold Blk; simp (disch := first | omega | (simp; done) | (simp; omega)) only [hp_drew, hp_drewN, hp_alloc, hp_other, hp_same, hp_new, upd_cells, Option.map_some, (b33_0).eq]) <;> simp
  have b34_1 : Blk w34 (w33.heap.size) #[.bool false, .int .u64 r] 25 := by rw [hV]; (unfold Blk; simp (disch := first | omega | (simp; done) | (simp; omega)) only [hp_drew, hp_drewN, hp_alloc, hp_other, hp_same, hp_new, upd_cells, Option.map_some]) <;> simp
  clear hV F33 b33_0 l33_0 c33_0 z33_0
  have l34_0 := b34_0.lt
  have c34_0 := b34_0.cell
  have z34_0 := b34_0.free
  have l34_1 := b34_1.lt
  have c34_1 := b34_1.cell
  have z34_1 := b34_1.free
  have y34 := F34.size
  go_cut [148] (fun sv wx => sv = .bool false ∧ wx = w34)
  case first =>
    by_cases hm : a = -9223372036854775808
    · have em : (a == -9223372036854775808) = true := by simpa using hm
      have em1 : (b == -1) = false := by simpa using HO.out.resolve_left (fun q => q hm)
      go_wp2_with fail
      go_meet
      exact ⟨rfl, rfl⟩
    · have em : (a == -9223372036854775808) = false := by simpa using hm
      go_wp2_with fail
      go_meet
      exact ⟨rfl, rfl⟩
  case rest =>
  obtain ⟨rfl, rfl⟩ := hcut
  obtain ⟨w34, rfl⟩ : ∃ V, V = wc := ⟨_, rfl⟩
  go_upto_region 25 with fail
  have p0 := b34_0.cell 0
  have p1 := b34_0.cell 1
  simp at p0 p1
  clear c34_0 z34_0 c34_1 z34_1
  go_cut [27] (fun sv wx => ∃ g : Nat, sv = .pointer (some ⟨g, 0, none⟩) ∧ Blk wx g #[.bool false, .int .u64 u] 25 ∧ Fr Nil w34 wx)
  case first =>
    clear b34_1 l34_1
    as_aux_lemma =>
    go_region_held3 (fun w' => w'.cell? ⟨w30.heap.size, 0, none⟩ = some (.bool false) ∧ w'.cell? ⟨w30.heap.size, 1, none⟩ = some (.int .u64 t)) (first | go_keep | exact ⟨p0, p1⟩ | exact ⟨p2, p3⟩ | exact ⟨p4, p5⟩ | exact ⟨((bb.other (a := ⟨wa.heap.size, 0, none⟩) ne1 _).other (a := ⟨wa.heap.size, 1, none⟩) ne1 _).cell 0, ((bb.other (a := ⟨wa.heap.size, 0, none⟩) ne1 _).other (a := ⟨wa.heap.size, 1, none⟩) ne1 _).cell 1⟩ | exact ⟨((bb.other (a := ⟨w34.heap.size, 0, none⟩) ne2 _).other (a := ⟨w34.heap.size, 1, none⟩) ne2 _).cell 0, ((bb.other (a := ⟨w34.heap.size, 0, none⟩) ne2 _).other (a := ⟨w34.heap.size, 1, none⟩) ne2 _).cell 1⟩) (first
      | (go_at_call 14; refine (int_any _ _).mono ?_; rw [Ub.out]; rintro e wa ⟨rfl, fa⟩; have za : w34.heap.size ≤ wa.heap.size := (by have := fa.size; (try simp at this); omega); have ba := fa.blk (by first | exact b34_0.drew | exact (b34_0.drew).alloc _) (by simp [Nil]); have lba := ba.lt; have p2 := ba.cell 0; have p3 := ba.cell 1; simp at p2 p3)
      | (go_at_call 13; refine (calc_mul t (y : Int) _).mono ?_; rw [Wb.out, Hu.out]; rintro e wb ⟨rfl, fb⟩; have zb : wa.heap.size ≤ wb.heap.size := (by have := fb.size; (try simp at this); omega); have bb := fb.blk (by first | exact ba | exact (ba).alloc _) (by simp [Nil]); have lbb := bb.lt; have p4 := bb.cell 0; have p5 := bb.cell 1; simp at p4 p5; (first | (have nb := Fr.new fb; have n1 := nb.cell; have n2 := nb.free; have n3 := nb.lt) | (have nb := fb.blk (Fr.new (Fr.comp (Fr.drew (Fr.refl Nil _)) fa)) (fun q => q); have n1 : ∀ i, wb.cell? ⟨w34.heap.size, i, none⟩ = (#[.bool false, .int .u64 0] : Array Value)[i]? := nb.cell; have n2 : ∀ i, wb.frozen? ⟨w34.heap.size, i, none⟩ = false := nb.free; have n3 : w34.heap.size < wb.heap.size := nb.lt) | skip); have ne1 := Nat.ne_of_lt ba.lt; have ne2 := Nat.ne_of_lt b34_0.lt))
    all_goals (go_wp2_with fail; go_meet; refine ⟨_, rfl, ?_, ?_⟩)
    all_goals first
      | (show Fr _ _ _; (repeat (first | (with_reducible exact Fr.refl _ _) | (with_reducible assumption) | (with_reducible exact Fr.of_nil (by assumption)) | (with_reducible refine Fr.drew ?_) | (with_reducible refine Fr.drewN ?_ _) | (with_reducible refine Fr.alloc ?_ _) | (with_reducible refine Fr.set ?_ _ _ (by first | (intros; omega) | (simp; done) | (simp; omega))) | (with_reducible refine Fr.via ?_ (by assumption)) | (with_reducible refine Fr.comp ?_ (by assumption)))); done)
      | ((unfold Blk; simp (disch := first | omega | (simp; done) | (simp; omega)) only [hp_drew, hp_drewN, hp_alloc, hp_other, hp_same, hp_new, upd_cells, Option.map_some]); done)
      | ((unfold Blk; simp (disch := first | omega | (simp; done) | (simp; omega)) only [hp_drew, hp_drewN, hp_alloc, hp_other, hp_same, hp_new, upd_cells, Option.map_some, (nb).eq]) <;> simp; done)
  case rest =>
  as_aux_lemma =>
  obtain ⟨g36, rfl, bg, fg⟩ := hcut
  obtain ⟨w36, rfl⟩ : ∃ V, V = wc := ⟨_, rfl⟩
  have b36_0 := fg.blk b34_0 (fun q => q)
  have b36_1 := fg.blk b34_1 (fun q => q)
  have b36_2 := bg
  have F36 := F34.comp fg
  clear b34_0 l34_0 b34_1 l34_1 F34 p0 p1 fg bg
  have l36_0 := b36_0.lt
  have c36_0 := b36_0.cell
  have z36_0 := b36_0.free
  have l36_1 := b36_1.lt
  have c36_1 := b36_1.cell
  have z36_1 := b36_1.free
  have l36_2 := b36_2.lt
  have c36_2 := b36_2.cell
  have z36_2 := b36_2.free
  have y36 := F36.size
  go_wp2_with fail
  refine (calc_add _ _ _).mono ?_
  rw [Hwhole.out]
  rintro e w37 ⟨rfl, f37⟩
  have b37_0 := f37.blk (b := w30.heap.size) (c := #[.bool false, .int .u64 t]) (t := 25) (by (unfold Blk; simp (disch := first | omega | (simp; done) | (simp; omega)) only [hp_drew, hp_drewN, hp_alloc, hp_other, hp_same, hp_new, upd_cells, Option.map_some, (b36_0).eq]) <;> simp) (by simp [Nil])
  have b37_1 := f37.blk (b := w33.heap.size) (c := #[.bool false, .int .u64 r]) (t := 25) (by (unfold Blk; simp (disch := first | omega | (simp; done) | (simp; omega)) only [hp_drew, hp_drewN, hp_alloc, hp_other, hp_same, hp_new, upd_cells, Option.map_some, (b36_1).eq]) <;> simp) (by simp [Nil])
  have b37_2 := f37.blk (b := g36) (c := #[.bool false, .int .u64 u]) (t := 25) (by (unfold Blk; simp (disch := first | omega | (simp; done) | (simp; omega)) only [hp_drew, hp_drewN, hp_alloc, hp_other, hp_same, hp_new, upd_cells, Option.map_some, (b36_2).eq]) <;> simp) (by simp [Nil])
  have F37 : Fr Nil w w37 := by (repeat (first | (with_reducible exact Fr.refl _ _) | (with_reducible assumption) | (with_reducible exact Fr.of_nil (by assumption)) | (with_reducible refine Fr.drew ?_) | (with_reducible refine Fr.drewN ?_ _) | (with_reducible refine Fr.alloc ?_ _) | (with_reducible refine Fr.set ?_ _ _ (by first | (intros; omega) | (simp; done) | (simp; omega))) | (with_reducible refine Fr.via ?_ (by assumption)) | (with_reducible refine Fr.comp ?_ (by assumption))))
  have l37_0 := b37_0.lt
  have c37_0 := b37_0.cell
  have z37_0 := b37_0.free
  have l37_1 := b37_1.lt
  have c37_1 := b37_1.cell
  have z37_1 := b37_1.free
  have l37_2 := b37_2.lt
  have c37_2 := b37_2.cell
  have z37_2 := b37_2.free
  have y37 := F37.size
  clear b36_0 l36_0 c36_0 z36_0 b36_1 l36_1 c36_1 z36_1 b36_2 l36_2 c36_2 z36_2 F36 f37
  have er := HRho.out
  go_upto_region 28 with fail
  obtain ⟨w38, hV⟩ : ∃ V, V = w37.alloc (.cells #[.bool false, .int .u64 (x : Int)] 25) := ⟨_, rfl⟩
  rw [← hV]
  have F38 : Fr Nil w w38 := by rw [hV]; (repeat (first | (with_reducible exact Fr.refl _ _) | (with_reducible assumption) | (with_reducible exact Fr.of_nil (by assumption)) | (with_reducible refine Fr.drew ?_) | (with_reducible refine Fr.drewN ?_ _) | (with_reducible refine Fr.alloc ?_ _) | (with_reducible refine Fr.set ?_ _ _ (by first | (intros; omega) | (simp; done) | (simp; omega))) | (with_reducible refine Fr.via ?_ (by assumption)) | (with_reducible refine Fr.comp ?_ (by assumption))))
  have b38_0 : Blk w38 (w30.heap.size) #[.bool false, .int .u64 t] 25 := by rw [hV]; (unfold Blk; simp (disch := first | omega | (simp; done) | (simp; omega)) only [hp_drew, hp_drewN, hp_alloc, hp_other, hp_same, hp_new, upd_cells, Option.map_some, (b37_0).eq]) <;> simp
  have b38_1 : Blk w38 (w33.heap.size) #[.bool false, .int .u64 r] 25 := by rw [hV]; (unfold Blk; simp (disch := first | omega | (simp; done) | (simp; omega)) only [hp_drew, hp_drewN, hp_alloc, hp_other, hp_same, hp_new, upd_cells, Option.map_some, (b37_1).eq]) <;> simp
  have b38_2 : Blk w38 (g36) #[.bool false, .int .u64 u] 25 := by rw [hV]; (unfold Blk; simp (disch := first | omega | (simp; done) | (simp; omega)) only [hp_drew, hp_drewN, hp_alloc, hp_other, hp_same, hp_new, upd_cells, Option.map_some, (b37_2).eq]) <;> simp
  have b38_3 : Blk w38 (w37.heap.size) #[.bool false, .int .u64 x] 25 := by rw [hV]; (unfold Blk; simp (disch := first | omega | (simp; done) | (simp; omega)) only [hp_drew, hp_drewN, hp_alloc, hp_other, hp_same, hp_new, upd_cells, Option.map_some]) <;> simp
  clear hV F37 b37_0 l37_0 c37_0 z37_0 b37_1 l37_1 c37_1 z37_1 b37_2 l37_2 c37_2 z37_2
  have l38_0 := b38_0.lt
  have c38_0 := b38_0.cell
  have z38_0 := b38_0.free
  have l38_1 := b38_1.lt
  have c38_1 := b38_1.cell
  have z38_1 := b38_1.free
  have l38_2 := b38_2.lt
  have c38_2 := b38_2.cell
  have z38_2 := b38_2.free
  have l38_3 := b38_3.lt
  have c38_3 := b38_3.cell
  have z38_3 := b38_3.free
  have y38 := F38.size
  obtain ⟨s1, s2, s3, s4, s5⟩ := HSS.out
  go_cut [32] (fun sv wx => sv = .bool true ∧ wx = w38)
  case first =>
    rcases Int.lt_or_gt_of_ne HB.out with hbn | hbn
    · have k1 : decide (ρ < b) = false := by have := s2 hbn; simp; omega
      have k2 : decide (b < 0) = true := by simp; omega
      have k3 : decide (b < ρ) = true := by have := s2 hbn; simp; omega
      have HN := Lib.hid hbn
      clear hbn s1 s2 s3 s4 s5
      go_wp2_with fail
      go_meet
      exact ⟨rfl, rfl⟩
    · have k1 : decide (ρ < b) = true := by simp; omega
      have k2 : decide (b < 0) = false := by simp; omega
      have HN := Lib.hid hbn
      clear hbn s1 s2 s3 s4 s5
      go_wp2_with fail
      go_meet
      exact ⟨rfl, rfl⟩
  case rest =>
  obtain ⟨rfl, rfl⟩ := hcut
  have hk : (ρ = 0) ∨ (ρ < 0 ∧ a < 0) ∨ (0 < ρ ∧ 0 ≤ a) := by omega
  have hbb : (decide (b < 0) = true ∧ decide (b < ρ) = true) ∨ decide (b < 0) = false := by
    rcases Int.lt_or_gt_of_ne HB.out with hbn | hbn
    · exact .inl ⟨by simp; omega, by have := s2 hbn; simp; omega⟩
    · exact .inr (by simp; omega)
  clear s1 s2 s3 s4 s5
  rcases hk with hk | ⟨hk, hk'⟩ | ⟨hk, hk'⟩
  · have k1 : (ρ == 0) = true := by simpa using hk
    have HK := Lib.hid hk
    clear hk
    clear b38_0 l38_0 c38_0 z38_0 b38_1 l38_1 c38_1 z38_1 b38_2 l38_2 c38_2 z38_2
    rcases hbb with ⟨j1, j2⟩ | j1
    all_goals
      go_upto_region 31 with fail
      have q0 := b38_3.cell 0
      have q1 := b38_3.cell 1
      simp at q0 q1
      clear c38_3 z38_3
      apply wp_via (F := fun V => Fr Nil w V)
      · first | (go_region_held (fun w' => w'.cell? ⟨w37.heap.size, 0, none⟩ = some (.bool false) ∧ w'.cell? ⟨w37.heap.size, 1, none⟩ = some (.int .u64 (x : Int))) (first | go_keep | exact ⟨q0, q1⟩ | exact ⟨q2, q3⟩) (first
          | (go_at_call 14; refine (int_any _ _).mono ?_; rw [Ua.out]; rintro e wa ⟨rfl, fa⟩; have ba := fa.blk b38_3.drew (fun q => q); have q2 := ba.cell 0; have q3 := ba.cell 1; simp at q2 q3))) | fail
        all_goals (refine Via.mk ?_; (repeat (first | (with_reducible exact Fr.refl _ _) | (with_reducible assumption) | (with_reducible exact Fr.of_nil (by assumption)) | (with_reducible refine Fr.drew ?_) | (with_reducible refine Fr.drewN ?_ _) | (with_reducible refine Fr.alloc ?_ _) | (with_reducible refine Fr.set ?_ _ _ (by first | (intros; omega) | (simp; done) | (simp; omega))) | (with_reducible refine Fr.via ?_ (by assumption)) | (with_reducible refine Fr.comp ?_ (by assumption)))))
      rintro V fV
      go_wp2
      go_ret
      exact ⟨rfl, fV⟩
  · have k1 : (ρ == 0) = false := by simp; omega
    have k2 : decide (ρ < 0) = true := by simpa using hk
    have k3 : decide (a < 0) = true := by simpa using hk'
    clear b38_0 l38_0 c38_0 z38_0 b38_1 l38_1 c38_1 z38_1 b38_2 l38_2 c38_2 z38_2
    rcases hbb with ⟨j1, j2⟩ | j1
    all_goals
      go_upto_region 31 with fail
      have q0 := b38_3.cell 0
      have q1 := b38_3.cell 1
      simp at q0 q1
      clear c38_3 z38_3
      apply wp_via (F := fun V => Fr Nil w V)
      · first | (go_region_held (fun w' => w'.cell? ⟨w37.heap.size, 0, none⟩ = some (.bool false) ∧ w'.cell? ⟨w37.heap.size, 1, none⟩ = some (.int .u64 (x : Int))) (first | go_keep | exact ⟨q0, q1⟩ | exact ⟨q2, q3⟩) (first
          | (go_at_call 14; refine (int_any _ _).mono ?_; rw [Ua.out]; rintro e wa ⟨rfl, fa⟩; have ba := fa.blk b38_3.drew (fun q => q); have q2 := ba.cell 0; have q3 := ba.cell 1; simp at q2 q3))) | fail
        all_goals (refine Via.mk ?_; (repeat (first | (with_reducible exact Fr.refl _ _) | (with_reducible assumption) | (with_reducible exact Fr.of_nil (by assumption)) | (with_reducible refine Fr.drew ?_) | (with_reducible refine Fr.drewN ?_ _) | (with_reducible refine Fr.alloc ?_ _) | (with_reducible refine Fr.set ?_ _ _ (by first | (intros; omega) | (simp; done) | (simp; omega))) | (with_reducible refine Fr.via ?_ (by assumption)) | (with_reducible refine Fr.comp ?_ (by assumption)))))
      rintro V fV
      go_wp2
      go_ret
      exact ⟨rfl, fV⟩
  · have k1 : (ρ == 0) = false := by simp; omega
    have k2 : decide (ρ < 0) = false := by simp; omega
    have k3 : decide (a < 0) = false := by simp; omega
    clear b38_0 l38_0 c38_0 z38_0 b38_1 l38_1 c38_1 z38_1 b38_2 l38_2 c38_2 z38_2
    rcases hbb with ⟨j1, j2⟩ | j1
    all_goals
      go_upto_region 31 with fail
      have q0 := b38_3.cell 0
      have q1 := b38_3.cell 1
      simp at q0 q1
      clear c38_3 z38_3
      apply wp_via (F := fun V => Fr Nil w V)
      · first | (go_region_held (fun w' => w'.cell? ⟨w37.heap.size, 0, none⟩ = some (.bool false) ∧ w'.cell? ⟨w37.heap.size, 1, none⟩ = some (.int .u64 (x : Int))) (first | go_keep | exact ⟨q0, q1⟩ | exact ⟨q2, q3⟩) (first
          | (go_at_call 14; refine (int_any _ _).mono ?_; rw [Ua.out]; rintro e wa ⟨rfl, fa⟩; have ba := fa.blk b38_3.drew (fun q => q); have q2 := ba.cell 0; have q3 := ba.cell 1; simp at q2 q3))) | fail
        all_goals (refine Via.mk ?_; (repeat (first | (with_reducible exact Fr.refl _ _) | (with_reducible assumption) | (with_reducible exact Fr.of_nil (by assumption)) | (with_reducible refine Fr.drew ?_) | (with_reducible refine Fr.drewN ?_ _) | (with_reducible refine Fr.alloc ?_ _) | (with_reducible refine Fr.set ?_ _ _ (by first | (intros; omega) | (simp; done) | (simp; omega))) | (with_reducible refine Fr.via ?_ (by assumption)) | (with_reducible refine Fr.comp ?_ (by assumption)))))
      rintro V fV
      go_wp2
      go_ret
      exact ⟨rfl, fV⟩
end Go.Proofs.YtcadbidccmiflaaDoor
