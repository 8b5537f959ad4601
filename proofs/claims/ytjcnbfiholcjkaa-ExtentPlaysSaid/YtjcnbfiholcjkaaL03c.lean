/-
  The statement 'ExtentPlays', walked. No conditions.
-/
import Derived.Test.YtjcnbfiholcjkaaRef3c
import Derived.Deep.RegionHeld3
import Derived.Deep.DeepCutAuto
import Derived.Laws.StructEq
namespace Go.Proofs.Ytjcnbfiholcjkaa
set_option linter.unusedSimpArgs false
set_option linter.unusedVariables false
open Go.RowKit Go.Shelf

theorem told_fields : (Try.prog.fieldsOf 32).toList.map (fun f => (f.name, f.type, f.offset)) = [("At", 3, 0), ("Err", 3, 1)] := by kernel_rfl
theorem told_under : Try.prog.underlying 32 = some (.struct (Try.prog.fieldsOf 32)) := by kernel_rfl
theorem told_held : Try.prog.stoodInHeld 32 = false := by kernel_rfl
theorem run_neq_told (w : World) (x y : Int) : (binOp .neq 32 (.agg #[.int .i64 x, .int .i64 y]) (.agg #[.int .i64 x, .int .i64 y])).run Try.prog w = .ok (.bool false) w := by
  have hp : Try.prog.plainKey 3 = true := by kernel_rfl
  have p0 := run_part_plain w hp (xs := #[.int .i64 x, .int .i64 y]) (off := 0) (v := .int .i64 x) rfl
  have p1 := run_part_plain w hp (xs := #[.int .i64 x, .int .i64 y]) (off := 1) (v := .int .i64 y) rfl
  have h : ∀ d : Nat, (Op.equalIn (d + 1 + 1) 32 (.agg #[.int .i64 x, .int .i64 y]) (.agg #[.int .i64 x, .int .i64 y])).run Try.prog w = .ok true w := fun d => by
    rw [run_equalIn_struct w (d + 1) _ _ _ told_under told_held]
    have hf := told_fields
    generalize (Try.prog.fieldsOf 32).toList = fs at hf
    have hl : fs.length = 2 := by have := congrArg List.length hf; simpa using this
    match fs, hl with
    | [f0, f1], _ =>
      simp at hf
      obtain ⟨⟨a1, a2, a3⟩, b1, b2, b3⟩ := hf
      have e1 := run_equalIn_int (P := Try.prog) w d 3 .i64 .i64 x x Try.underlying3
      have e2 := run_equalIn_int (P := Try.prog) w d 3 .i64 .i64 y y Try.underlying3
      simp [Op.eqFields, a1, a2, a3, b1, b2, b3, p0, p1, e1, e2]
  simp only [binOp]
  simp [Op.equal, Op.maxDepth, h 9998]
theorem plays_wide (f p : Int) (v : Value) (zs : List Act3) (w : World) (hv : RowActs w v zs) (ho : (300 < p ∧ p ≤ 65536) ∨ 60 < zs.length) :
    Calls Try.prog 3 #[.int .i64 f, .int .i64 p, v] w fun e w' => e = .returned (.bool true) ∧ Fr Nil w w' := by
  obtain ⟨a, cap, rfl, hrow⟩ := hv
  clear hrow
  by_cases c1 : 300 < p
  · have d1 := decide_eq_true c1
    by_cases c2 : p ≤ 65536
    · have d2 := decide_eq_true c2
      clear ho
      go_enter Try.func3, Try.ntmps3
      go_wp2_with fail
      refine (awake_any _).mono ?_
      rintro e w0 ⟨rfl, f0⟩
      go_wp2
      go_ret
      exact ⟨rfl, f0⟩
    · have d2 := decide_eq_false c2
      have c3 : (60 : Int) < (zs.length : Int) := by omega
      have d3 := decide_eq_true c3
      clear ho
      go_enter Try.func3, Try.ntmps3
      go_wp2_with fail
      refine (awake_any _).mono ?_
      rintro e w0 ⟨rfl, f0⟩
      go_wp2
      go_ret
      exact ⟨rfl, f0⟩
  · have d1 := decide_eq_false c1
    have c3 : (60 : Int) < (zs.length : Int) := by omega
    have d3 := decide_eq_true c3
    clear ho
    go_enter Try.func3, Try.ntmps3
    go_wp2_with fail
    refine (awake_any _).mono ?_
    rintro e w0 ⟨rfl, f0⟩
    go_wp2
    go_ret
    exact ⟨rfl, f0⟩
theorem plays_out (f p : Int) (v : Value) (zs : List Act3) (w : World) (hv : RowActs w v zs) (hn : ¬ ((300 < p ∧ p ≤ 65536) ∨ 60 < zs.length)) (ho : f < 0 ∨ 65536 < f ∨ p < 0 ∨ 65536 < p) :
    Calls Try.prog 3 #[.int .i64 f, .int .i64 p, v] w fun e w' => e = .returned (.bool true) ∧ Fr Nil w w' := by
  obtain ⟨a, cap, rfl, hrow⟩ := hv
  clear hrow
  have c3 : ¬ (60 : Int) < (zs.length : Int) := by omega
  have d3 := decide_eq_false c3
  have HO := Lib.hid ho
  by_cases c1 : 300 < p
  · have d1 := decide_eq_true c1
    have c2 : ¬ p ≤ 65536 := by omega
    have d2 := decide_eq_false c2
    clear ho hn
    go_enter Try.func3, Try.ntmps3
    go_wp2_with fail
    refine (awake_any _).mono ?_
    rintro e w0 ⟨rfl, f0⟩
    go_wp2_with fail
    refine (new_out f p HO.out _).mono ?_
    rintro e w1 ⟨rfl, f1⟩
    go_wp2_with fail
    refine (rnew_out f p HO.out _).mono ?_
    rintro e w2 ⟨rfl, f2⟩
    go_wp2
    go_ret
    exact ⟨rfl, (f0.comp f1).comp f2⟩
  · have d1 := decide_eq_false c1
    clear ho hn
    go_enter Try.func3, Try.ntmps3
    go_wp2_with fail
    refine (awake_any _).mono ?_
    rintro e w0 ⟨rfl, f0⟩
    go_wp2_with fail
    refine (new_out f p HO.out _).mono ?_
    rintro e w1 ⟨rfl, f1⟩
    go_wp2_with fail
    refine (rnew_out f p HO.out _).mono ?_
    rintro e w2 ⟨rfl, f2⟩
    go_wp2
    go_ret
    exact ⟨rfl, (f0.comp f1).comp f2⟩
set_option maxRecDepth 100000 in
set_option maxHeartbeats 8000000 in
theorem plays_in (f p : Nat) (hf : f ≤ 65536) (hp : p ≤ 300) (v : Value) (zs : List Act3) (w : World) (hv : RowActs w v zs) (hn : zs.length ≤ 60) (hx : ∀ x ∈ zs, IntKind.i64.wrap x.at_ = x.at_) :
    Calls Try.prog 3 #[.int .i64 (f : Int), .int .i64 (p : Int), v] w fun e w' => e = .returned (.bool true) ∧ Fr Nil w w' := by
  obtain ⟨a, cap, rfl, hrow⟩ := hv
  have n1 : ¬ (300 : Int) < (p : Int) := by omega
  have n2 : ¬ (60 : Int) < (zs.length : Int) := by omega
  have d1 := decide_eq_false n1
  have d2 := decide_eq_false n2
  have HX := Lib.hid (And.intro hrow hx)
  have hnt := run_neq_told
  clear hrow hx
  go_enter Try.func3, Try.ntmps3
  go_wp2_with fail
  refine (awake_any _).mono ?_
  rintro e w0 ⟨rfl, f0⟩
  go_wp2_with fail
  refine (new_in f p (by omega) (by omega) _).mono ?_
  rintro e w1 ⟨v1, rfl, h1, f1⟩
  obtain ⟨br, hbr⟩ : ∃ br, w0.heap.size = br := ⟨_, rfl⟩
  rw [hbr] at h1 ⊢
  have hbw : w.heap.size ≤ br := by rw [← hbr]; exact f0.size
  have hf1 : Fr Nil w w1 := f0.comp f1
  have H1 := Lib.hid (And.intro h1 hf1)
  clear hbr f0 f1 h1 hf1
  go_wp2_with fail
  refine (rnew_in f p (by omega) (by omega) _).mono ?_
  rintro e w2 ⟨u, rfl, h2, f2⟩
  obtain ⟨rb, hrb⟩ : ∃ rb, w1.heap.size = rb := ⟨_, rfl⟩
  rw [hrb] at h2 ⊢
  have hR2 : RoomAt w2 br f p v1 (newL f p) := H1.out.1.fr (S := Nil) (by (repeat (first | (with_reducible exact Fr.refl _ _) | (with_reducible assumption) | (with_reducible exact Fr.of_nil (by assumption)) | (with_reducible refine Fr.drew ?_) | (with_reducible refine Fr.drewN ?_ _) | (with_reducible refine Fr.alloc ?_ _) | (with_reducible refine Fr.set ?_ _ _ (by first | (intros; omega) | (simp; done) | (simp; omega))) | (with_reducible refine Fr.via ?_ (by assumption)) | (with_reducible refine Fr.comp ?_ (by assumption))))) (fun _ _ q => q)
  have hw2 : Fr Nil w w2 := H1.out.2.comp (by (repeat (first | (with_reducible exact Fr.refl _ _) | (with_reducible assumption) | (with_reducible exact Fr.of_nil (by assumption)) | (with_reducible refine Fr.drew ?_) | (with_reducible refine Fr.drewN ?_ _) | (with_reducible refine Fr.alloc ?_ _) | (with_reducible refine Fr.set ?_ _ _ (by first | (intros; omega) | (simp; done) | (simp; omega))) | (with_reducible refine Fr.via ?_ (by assumption)) | (with_reducible refine Fr.comp ?_ (by assumption)))))
  have hbrb : br < rb := by have := H1.out.1.blk.lt; omega
  have hts1 : ∀ k, TS br v1 k → k < rb := fun k q => by
    rcases q with q | q
    · omega
    · have := (H1.out.1.pairs.own q).2; omega
  have hu : ∀ k, TS rb u k → rb ≤ k ∧ k < w2.heap.size := fun k q => ⟨h2.ge k q, by
    rcases q with q | q
    · have := h2.blk.lt; omega
    · exact (h2.row.own q).2⟩
  have hfr := RefIs.fresh f p
  have HU := Lib.hid (And.intro hts1 hu)
  have H2 := Lib.hid (And.intro hR2 (And.intro h2 (And.intro hw2 hfr)))
  clear hR2 hw2 h2 hfr hts1 hu f2 hrb H1
  go_wp2_with fail
  go_loopg [11] zs.length (fun g iv wr => ∃ (j : Nat) (v' : Value) (L : List (Nat × Nat)) (bs : List Bool), g = zs.length - j ∧ j ≤ zs.length ∧ iv = .int .i64 j ∧ RoomAt wr br f p v' L ∧ RefAt wr rb f u bs ∧ Hid (bs.length = p ∧ RefIs f bs p L ∧ ∀ k, v'.ownBlock = some k → v1.ownBlock = some k ∨ w2.heap.size ≤ k) ∧ Fr Nil w wr ∧ w2.heap.size ≤ wr.heap.size)
  case atStart => exact ⟨0, _, _, _, rfl, by omega, rfl, H2.out.1, H2.out.2.1, Lib.hid ⟨by simp, H2.out.2.2.2, fun k q => .inl q⟩, H2.out.2.2.1, Nat.le_refl _⟩
  case round =>
    obtain ⟨j, v', L, bs, rfl, hj, rfl, hR, hD, HB, hw, hsz⟩ := hrel
    have hbl := hR.blk.lt
    have hrl := hD.blk.lt
    have HR := Lib.hid (And.intro hR (And.intro hD hw))
    have HTS : Hid (∀ k, TS br v' k → ¬ TS rb u k) := fun k q e => by
      have h1 := HU.out.2 k e
      rcases q with q | q
      · omega
      · rcases HB.out.2.2 k q with r | r
        · have := HU.out.1 k (.inr r); omega
        · omega
    clear hR hD H2
    by_cases hlt : j < zs.length
    · obtain ⟨b, off, rfl, hcell⟩ := HX.out.1 (by omega)
      obtain ⟨x, hxj⟩ : ∃ x, zs[j]? = some x := ⟨_, List.getElem?_eq_getElem hlt⟩
      obtain ⟨e0, e1, e2⟩ := hcell j x hxj
      have hxw : Hid (IntKind.i64.wrap x.at_ = x.at_) := HX.out.2 x (List.mem_of_getElem? hxj)
      have r0 := hw.cell e0 (by simp [Nil])
      have r1 := hw.cell e1 (by simp [Nil])
      have r2 := hw.cell e2 (by simp [Nil])
      have b1 : (0 : Int) ≤ (j : Int) := by omega
      have b2 : (j : Int) < (zs.length : Int) := by omega
      have hb0 : b < w.heap.size := World.block_lt_of_cell? _ _ e0
      have hbl2 : b < wr.heap.size := World.block_lt_of_cell? _ _ r0
      obtain ⟨T, hT⟩ : ∃ T, doR f p x L = T := ⟨_, rfl⟩
      have HT := Lib.hid hT
      clear hcell hxj e0 e1 e2 hw hT
      go_upto_if 82 with fail
      go_cut [82] (fun sv wx => sv = .bool false ∧ ∃ (v' : Value) (L : List (Nat × Nat)) (bs : List Bool), RoomAt wx br f p v' L ∧ RefAt wx rb f u bs ∧ Hid (bs.length = p ∧ RefIs f bs p L ∧ ∀ k, v'.ownBlock = some k → v1.ownBlock = some k ∨ w2.heap.size ≤ k) ∧ Fr Nil w wx ∧ w2.heap.size ≤ wx.heap.size)
      case first =>
        go_region_held3 (fun w' => w'.cell? ⟨b, off + j * 3, none⟩ = some (.int .i64 x.kind) ∧ w'.cell? ⟨b, off + j * 3 + 1, none⟩ = some (.int .i64 x.at_) ∧ w'.cell? ⟨b, off + j * 3 + 2, none⟩ = some (.int .i64 x.word)) (first | go_keep | exact ⟨r0, r1, r2⟩ | exact ⟨s0, s1, s2⟩ | exact ⟨t0, t1, t2⟩) (first
          | (go_at_call 10; refine (do_any br f p v' L _ (HR.out.1.fr (S := Nil) (by (repeat (first | (with_reducible exact Fr.refl _ _) | (with_reducible assumption) | (with_reducible exact Fr.of_nil (by assumption)) | (with_reducible refine Fr.drew ?_) | (with_reducible refine Fr.drewN ?_ _) | (with_reducible refine Fr.alloc ?_ _) | (with_reducible refine Fr.set ?_ _ _ (by first | (intros; omega) | (simp; done) | (simp; omega))) | (with_reducible refine Fr.via ?_ (by assumption)) | (with_reducible refine Fr.comp ?_ (by assumption))))) (fun _ _ q => q)) x hxw.out).mono ?_; rw [HT.out]; rintro e w3 ⟨v3, rfl, h3, g3, f3⟩; have f3' : Fr (TS br v') wr w3 := Fr.trans (by (repeat (first | (with_reducible exact Fr.refl _ _) | (with_reducible assumption) | (with_reducible exact Fr.of_nil (by assumption)) | (with_reducible refine Fr.drew ?_) | (with_reducible refine Fr.drewN ?_ _) | (with_reducible refine Fr.alloc ?_ _) | (with_reducible refine Fr.set ?_ _ _ (by first | (intros; omega) | (simp; done) | (simp; omega))) | (with_reducible refine Fr.via ?_ (by assumption)) | (with_reducible refine Fr.comp ?_ (by assumption))))) f3 (fun _ _ q => q); have s0 := f3'.cell r0 (fun q => by have := HR.out.1.ge _ q; simp at this; omega); have s1 := f3'.cell r1 (fun q => by have := HR.out.1.ge _ q; simp at this; omega); have s2 := f3'.cell r2 (fun q => by have := HR.out.1.ge _ q; simp at this; omega); have hs3 := f3'.size; have hD3 := HR.out.2.1.fr f3' (fun k hk q => HTS.out k q hk); have hw3 : Fr Nil w w3 := HR.out.2.2.trans f3' (fun k hk q => by have := HR.out.1.ge k q; omega); have H3 := Lib.hid (And.intro h3 (And.intro g3 (And.intro hD3 hw3))); have hbl3 : b < w3.heap.size := (by omega); clear h3 g3 f3 f3' hD3 hw3)
          | (go_at_call 11; refine (rdo_any rb f p u bs L _ (H3.out.2.2.1.fr (S := Nil) (by (repeat (first | (with_reducible exact Fr.refl _ _) | (with_reducible assumption) | (with_reducible exact Fr.of_nil (by assumption)) | (with_reducible refine Fr.drew ?_) | (with_reducible refine Fr.drewN ?_ _) | (with_reducible refine Fr.alloc ?_ _) | (with_reducible refine Fr.set ?_ _ _ (by first | (intros; omega) | (simp; done) | (simp; omega))) | (with_reducible refine Fr.via ?_ (by assumption)) | (with_reducible refine Fr.comp ?_ (by assumption))))) (fun _ _ q => q)) HB.out.1 HB.out.2.1 (by omega) hf x hxw.out).mono ?_; rw [HT.out]; rintro e w4 ⟨bs', rfl, h4, l4, i4, f4⟩; have f4' : Fr (TS rb u) w3 w4 := Fr.trans (by (repeat (first | (with_reducible exact Fr.refl _ _) | (with_reducible assumption) | (with_reducible exact Fr.of_nil (by assumption)) | (with_reducible refine Fr.drew ?_) | (with_reducible refine Fr.drewN ?_ _) | (with_reducible refine Fr.alloc ?_ _) | (with_reducible refine Fr.set ?_ _ _ (by first | (intros; omega) | (simp; done) | (simp; omega))) | (with_reducible refine Fr.via ?_ (by assumption)) | (with_reducible refine Fr.comp ?_ (by assumption))))) f4 (fun _ _ q => q); have t0 := f4'.cell s0 (fun q => by have := (HU.out.2 _ q).1; simp at this; omega); have t1 := f4'.cell s1 (fun q => by have := (HU.out.2 _ q).1; simp at this; omega); have t2 := f4'.cell s2 (fun q => by have := (HU.out.2 _ q).1; simp at this; omega); have hs4 := f4'.size; have hown4 : ∀ k, v3.ownBlock = some k → v1.ownBlock = some k ∨ w2.heap.size ≤ k := (fun k q => by rcases H3.out.2.1 k q with r | r; exact HB.out.2.2 k r; simp at r; exact .inr (by omega)); have hR4 := H3.out.1.fr f4' (fun k hk q => by have h1 := HU.out.2 k q; rcases hk with hk | hk; omega; rcases hown4 k hk with r | r; have := HU.out.1 k (.inr r); omega; omega); have hw4 : Fr Nil w w4 := H3.out.2.2.2.trans f4' (fun k hk q => by have := (HU.out.2 _ q).1; omega); have H4 := Lib.hid (And.intro hR4 (And.intro h4 (And.intro l4 (And.intro i4 (And.intro hown4 hw4))))); have hbl4 : b < w4.heap.size := (by omega); clear h4 l4 i4 f4 f4' hR4 hw4 hown4)
          | (go_at_call 13; refine (list_any br f p v3 T.2.2 _ (H4.out.1.fr (S := Nil) (by (repeat (first | (with_reducible exact Fr.refl _ _) | (with_reducible assumption) | (with_reducible exact Fr.of_nil (by assumption)) | (with_reducible refine Fr.drew ?_) | (with_reducible refine Fr.drewN ?_ _) | (with_reducible refine Fr.alloc ?_ _) | (with_reducible refine Fr.set ?_ _ _ (by first | (intros; omega) | (simp; done) | (simp; omega))) | (with_reducible refine Fr.via ?_ (by assumption)) | (with_reducible refine Fr.comp ?_ (by assumption))))) (fun _ _ q => q))).mono ?_; rintro e w5 ⟨v5, rfl, h5, f5⟩; obtain ⟨a5, c5, rfl⟩ := h5.shape; have f5' : Fr Nil w4 w5 := Fr.trans (by (repeat (first | (with_reducible exact Fr.refl _ _) | (with_reducible assumption) | (with_reducible exact Fr.of_nil (by assumption)) | (with_reducible refine Fr.drew ?_) | (with_reducible refine Fr.drewN ?_ _) | (with_reducible refine Fr.alloc ?_ _) | (with_reducible refine Fr.set ?_ _ _ (by first | (intros; omega) | (simp; done) | (simp; omega))) | (with_reducible refine Fr.via ?_ (by assumption)) | (with_reducible refine Fr.comp ?_ (by assumption))))) f5 (fun _ _ q => q); have H5 := Lib.hid (And.intro h5 f5'); have t0 := f5'.cell t0 (fun q => q); have t1 := f5'.cell t1 (fun q => q); have t2 := f5'.cell t2 (fun q => q); have hbl5 := f5'.lt hbl4; clear h5 f5 f5')
          | (go_at_call 14; refine (rlist_any rb f p u bs' T.2.2 _ (H4.out.2.1.fr (S := Nil) (H5.out.2.comp (by (repeat (first | (with_reducible exact Fr.refl _ _) | (with_reducible assumption) | (with_reducible exact Fr.of_nil (by assumption)) | (with_reducible refine Fr.drew ?_) | (with_reducible refine Fr.drewN ?_ _) | (with_reducible refine Fr.alloc ?_ _) | (with_reducible refine Fr.set ?_ _ _ (by first | (intros; omega) | (simp; done) | (simp; omega))) | (with_reducible refine Fr.via ?_ (by assumption)) | (with_reducible refine Fr.comp ?_ (by assumption)))))) (fun _ _ q => q)) H4.out.2.2.1 H4.out.2.2.2.1 (by omega) hf).mono ?_; rintro e w6 ⟨v6, rfl, h6, f6⟩; obtain ⟨a6, c6, rfl⟩ := h6.shape; have f6' : Fr Nil w5 w6 := Fr.trans (by (repeat (first | (with_reducible exact Fr.refl _ _) | (with_reducible assumption) | (with_reducible exact Fr.of_nil (by assumption)) | (with_reducible refine Fr.drew ?_) | (with_reducible refine Fr.drewN ?_ _) | (with_reducible refine Fr.alloc ?_ _) | (with_reducible refine Fr.set ?_ _ _ (by first | (intros; omega) | (simp; done) | (simp; omega))) | (with_reducible refine Fr.via ?_ (by assumption)) | (with_reducible refine Fr.comp ?_ (by assumption))))) f6 (fun _ _ q => q); have H6 := Lib.hid (And.intro h6 f6'); have t0 := f6'.cell t0 (fun q => q); have t1 := f6'.cell t1 (fun q => q); have t2 := f6'.cell t2 (fun q => q); have hbl6 := f6'.lt hbl5; clear h6 f6 f6')
          | (go_at_call 12; refine (same_any T.2.2 T.2.2 _ _ _ _ _ (H5.out.1.fr (H6.out.2.comp (by (repeat (first | (with_reducible exact Fr.refl _ _) | (with_reducible assumption) | (with_reducible exact Fr.of_nil (by assumption)) | (with_reducible refine Fr.drew ?_) | (with_reducible refine Fr.drewN ?_ _) | (with_reducible refine Fr.alloc ?_ _) | (with_reducible refine Fr.set ?_ _ _ (by first | (intros; omega) | (simp; done) | (simp; omega))) | (with_reducible refine Fr.via ?_ (by assumption)) | (with_reducible refine Fr.comp ?_ (by assumption))))))) (H6.out.1.fr (by (repeat (first | (with_reducible exact Fr.refl _ _) | (with_reducible assumption) | (with_reducible exact Fr.of_nil (by assumption)) | (with_reducible refine Fr.drew ?_) | (with_reducible refine Fr.drewN ?_ _) | (with_reducible refine Fr.alloc ?_ _) | (with_reducible refine Fr.set ?_ _ _ (by first | (intros; omega) | (simp; done) | (simp; omega))) | (with_reducible refine Fr.via ?_ (by assumption)) | (with_reducible refine Fr.comp ?_ (by assumption)))))) (by have := H4.out.1.len; omega) (by have := H4.out.1.len; omega)).mono ?_; rw [show decide (T.2.2 = T.2.2) = true from by simp]; rintro e w7 ⟨rfl, f7⟩; have f7' : Fr Nil w6 w7 := Fr.trans (by (repeat (first | (with_reducible exact Fr.refl _ _) | (with_reducible assumption) | (with_reducible exact Fr.of_nil (by assumption)) | (with_reducible refine Fr.drew ?_) | (with_reducible refine Fr.drewN ?_ _) | (with_reducible refine Fr.alloc ?_ _) | (with_reducible refine Fr.set ?_ _ _ (by first | (intros; omega) | (simp; done) | (simp; omega))) | (with_reducible refine Fr.via ?_ (by assumption)) | (with_reducible refine Fr.comp ?_ (by assumption))))) f7 (fun _ _ q => q); have H7 := Lib.hid ((H5.out.2.comp H6.out.2).comp f7'); have t0 := f7'.cell t0 (fun q => q); have t1 := f7'.cell t1 (fun q => q); have t2 := f7'.cell t2 (fun q => q); have hbl7 := f7'.lt hbl6; clear f7 f7')
          | (go_at_call 15; refine (free_any br f p v3 T.2.2 _ (H4.out.1.fr (S := Nil) (H7.out.comp (by (repeat (first | (with_reducible exact Fr.refl _ _) | (with_reducible assumption) | (with_reducible exact Fr.of_nil (by assumption)) | (with_reducible refine Fr.drew ?_) | (with_reducible refine Fr.drewN ?_ _) | (with_reducible refine Fr.alloc ?_ _) | (with_reducible refine Fr.set ?_ _ _ (by first | (intros; omega) | (simp; done) | (simp; omega))) | (with_reducible refine Fr.via ?_ (by assumption)) | (with_reducible refine Fr.comp ?_ (by assumption)))))) (fun _ _ q => q))).mono ?_; rintro e w8 ⟨rfl, f8⟩; have f8' : Fr Nil w7 w8 := Fr.trans (by (repeat (first | (with_reducible exact Fr.refl _ _) | (with_reducible assumption) | (with_reducible exact Fr.of_nil (by assumption)) | (with_reducible refine Fr.drew ?_) | (with_reducible refine Fr.drewN ?_ _) | (with_reducible refine Fr.alloc ?_ _) | (with_reducible refine Fr.set ?_ _ _ (by first | (intros; omega) | (simp; done) | (simp; omega))) | (with_reducible refine Fr.via ?_ (by assumption)) | (with_reducible refine Fr.comp ?_ (by assumption))))) f8 (fun _ _ q => q); have H8 := Lib.hid (H7.out.comp f8'); have t0 := f8'.cell t0 (fun q => q); have t1 := f8'.cell t1 (fun q => q); have t2 := f8'.cell t2 (fun q => q); have hbl8 := f8'.lt hbl7; clear f8 f8')
          | (go_at_call 16; refine (rcount_any rb f p u bs' T.2.2 _ (H4.out.2.1.fr (S := Nil) (H8.out.comp (by (repeat (first | (with_reducible exact Fr.refl _ _) | (with_reducible assumption) | (with_reducible exact Fr.of_nil (by assumption)) | (with_reducible refine Fr.drew ?_) | (with_reducible refine Fr.drewN ?_ _) | (with_reducible refine Fr.alloc ?_ _) | (with_reducible refine Fr.set ?_ _ _ (by first | (intros; omega) | (simp; done) | (simp; omega))) | (with_reducible refine Fr.via ?_ (by assumption)) | (with_reducible refine Fr.comp ?_ (by assumption)))))) (fun _ _ q => q)) H4.out.2.2.1 H4.out.2.2.2.1 (by omega)).mono ?_; rintro e w9 ⟨rfl, f9⟩; have f9' : Fr Nil w8 w9 := Fr.trans (by (repeat (first | (with_reducible exact Fr.refl _ _) | (with_reducible assumption) | (with_reducible exact Fr.of_nil (by assumption)) | (with_reducible refine Fr.drew ?_) | (with_reducible refine Fr.drewN ?_ _) | (with_reducible refine Fr.alloc ?_ _) | (with_reducible refine Fr.set ?_ _ _ (by first | (intros; omega) | (simp; done) | (simp; omega))) | (with_reducible refine Fr.via ?_ (by assumption)) | (with_reducible refine Fr.comp ?_ (by assumption))))) f9 (fun _ _ q => q); have H9 := Lib.hid (H8.out.comp f9'); have t0 := f9'.cell t0 (fun q => q); have t1 := f9'.cell t1 (fun q => q); have t2 := f9'.cell t2 (fun q => q); have hbl9 := f9'.lt hbl8; clear f9 f9'))
        all_goals
          have hfin := H9.out.size
          go_wp2_with fail
          go_meet
          exact ⟨rfl, _, _, _, H4.out.1.fr (S := Nil) (H9.out.comp (by (repeat (first | (with_reducible exact Fr.refl _ _) | (with_reducible assumption) | (with_reducible exact Fr.of_nil (by assumption)) | (with_reducible refine Fr.drew ?_) | (with_reducible refine Fr.drewN ?_ _) | (with_reducible refine Fr.alloc ?_ _) | (with_reducible refine Fr.set ?_ _ _ (by first | (intros; omega) | (simp; done) | (simp; omega))) | (with_reducible refine Fr.via ?_ (by assumption)) | (with_reducible refine Fr.comp ?_ (by assumption)))))) (fun _ _ q => q), H4.out.2.1.fr (S := Nil) (H9.out.comp (by (repeat (first | (with_reducible exact Fr.refl _ _) | (with_reducible assumption) | (with_reducible exact Fr.of_nil (by assumption)) | (with_reducible refine Fr.drew ?_) | (with_reducible refine Fr.drewN ?_ _) | (with_reducible refine Fr.alloc ?_ _) | (with_reducible refine Fr.set ?_ _ _ (by first | (intros; omega) | (simp; done) | (simp; omega))) | (with_reducible refine Fr.via ?_ (by assumption)) | (with_reducible refine Fr.comp ?_ (by assumption)))))) (fun _ _ q => q), Lib.hid ⟨H4.out.2.2.1, H4.out.2.2.2.1, H4.out.2.2.2.2.1⟩, (H4.out.2.2.2.2.2.comp H9.out).comp (by (repeat (first | (with_reducible exact Fr.refl _ _) | (with_reducible assumption) | (with_reducible exact Fr.of_nil (by assumption)) | (with_reducible refine Fr.drew ?_) | (with_reducible refine Fr.drewN ?_ _) | (with_reducible refine Fr.alloc ?_ _) | (with_reducible refine Fr.set ?_ _ _ (by first | (intros; omega) | (simp; done) | (simp; omega))) | (with_reducible refine Fr.via ?_ (by assumption)) | (with_reducible refine Fr.comp ?_ (by assumption))))), by first | omega | (simp; omega)⟩
      case rest =>
        obtain ⟨rfl, v3, L3, bs3, hR3, hD3, hB3, hw3, hs3⟩ := hcut
        clear HR r0 r1 r2
        go_wp2
        go_roundg (zs.length - (j + 1))
        case rel => exact ⟨j + 1, v3, L3, bs3, rfl, by omega, by go_num, hR3, hD3, hB3, hw3, hs3⟩
        case measure => omega
    · obtain rfl : j = zs.length := by omega
      have i1 : ¬ ((zs.length : Int) < (zs.length : Int)) := by omega
      clear HX hw
      go_wp2_with fail
      refine (list_any br f p v' L _ HR.out.1).mono ?_
      rintro e w5 ⟨v5, rfl, h5, f5⟩
      obtain ⟨a5, c5, rfl⟩ := h5.shape
      go_wp2_with fail
      refine (rlist_any rb f p u bs L _ (HR.out.2.1.fr (S := Nil) (by (repeat (first | (with_reducible exact Fr.refl _ _) | (with_reducible assumption) | (with_reducible exact Fr.of_nil (by assumption)) | (with_reducible refine Fr.drew ?_) | (with_reducible refine Fr.drewN ?_ _) | (with_reducible refine Fr.alloc ?_ _) | (with_reducible refine Fr.set ?_ _ _ (by first | (intros; omega) | (simp; done) | (simp; omega))) | (with_reducible refine Fr.via ?_ (by assumption)) | (with_reducible refine Fr.comp ?_ (by assumption))))) (fun _ _ q => q)) HB.out.1 HB.out.2.1 (by omega) hf).mono ?_
      rintro e w6 ⟨v6, rfl, h6, f6⟩
      obtain ⟨a6, c6, rfl⟩ := h6.shape
      go_wp2_with fail
      refine (same_any L L _ _ _ _ _ (h5.fr (by (repeat (first | (with_reducible exact Fr.refl _ _) | (with_reducible assumption) | (with_reducible exact Fr.of_nil (by assumption)) | (with_reducible refine Fr.drew ?_) | (with_reducible refine Fr.drewN ?_ _) | (with_reducible refine Fr.alloc ?_ _) | (with_reducible refine Fr.set ?_ _ _ (by first | (intros; omega) | (simp; done) | (simp; omega))) | (with_reducible refine Fr.via ?_ (by assumption)) | (with_reducible refine Fr.comp ?_ (by assumption)))))) (h6.fr (by (repeat (first | (with_reducible exact Fr.refl _ _) | (with_reducible assumption) | (with_reducible exact Fr.of_nil (by assumption)) | (with_reducible refine Fr.drew ?_) | (with_reducible refine Fr.drewN ?_ _) | (with_reducible refine Fr.alloc ?_ _) | (with_reducible refine Fr.set ?_ _ _ (by first | (intros; omega) | (simp; done) | (simp; omega))) | (with_reducible refine Fr.via ?_ (by assumption)) | (with_reducible refine Fr.comp ?_ (by assumption)))))) (by have := HR.out.1.len; omega) (by have := HR.out.1.len; omega)).mono ?_
      rw [show decide (L = L) = true from by simp]
      rintro e w7 ⟨rfl, f7⟩
      go_wp2
      go_ret
      exact ⟨rfl, HR.out.2.2.comp (by (repeat (first | (with_reducible exact Fr.refl _ _) | (with_reducible assumption) | (with_reducible exact Fr.of_nil (by assumption)) | (with_reducible refine Fr.drew ?_) | (with_reducible refine Fr.drewN ?_ _) | (with_reducible refine Fr.alloc ?_ _) | (with_reducible refine Fr.set ?_ _ _ (by first | (intros; omega) | (simp; done) | (simp; omega))) | (with_reducible refine Fr.via ?_ (by assumption)) | (with_reducible refine Fr.comp ?_ (by assumption)))))⟩
theorem plays_any (f p : Int) (v : Value) (zs : List Act3) (w : World) (hv : RowActs w v zs) (hx : ∀ x ∈ zs, IntKind.i64.wrap x.at_ = x.at_) :
    Calls Try.prog 3 #[.int .i64 f, .int .i64 p, v] w fun e w' => e = .returned (.bool true) ∧ Fr Nil w w' := by
  by_cases h1 : (300 < p ∧ p ≤ 65536) ∨ 60 < zs.length
  · exact plays_wide f p v zs w hv h1
  · by_cases h2 : f < 0 ∨ 65536 < f ∨ p < 0 ∨ 65536 < p
    · exact plays_out f p v zs w hv h1 h2
    · obtain ⟨f, rfl⟩ := Int.eq_ofNat_of_zero_le (by omega : 0 ≤ f)
      obtain ⟨p, rfl⟩ := Int.eq_ofNat_of_zero_le (by omega : 0 ≤ p)
      exact plays_in f p (by omega) (by omega) v zs w hv (by omega) hx
end Go.Proofs.Ytjcnbfiholcjkaa
