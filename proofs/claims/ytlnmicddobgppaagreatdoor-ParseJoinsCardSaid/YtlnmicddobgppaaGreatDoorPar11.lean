/-
  An expression (layer 8): a lambda, rows and operations. No conditions.
-/
import Derived.Test.YtlnmicddobgppaaGreatDoorPar10
namespace Go.Proofs.YtlnmicddobgppaaGreatDoor
set_option linter.unusedSimpArgs false
set_option linter.unusedVariables false
open Go.RowKit

section
variable {w : World} {pb : Nat} {vT : Value} {L : List TokV} {s : PS} {deep : Nat} {ex : PS → TE × PS}
set_option maxRecDepth 100000 in
set_option maxHeartbeats 8000000 in
theorem pexpr_lam (h : PAt w pb vT L s) (he : s.e = 0) (hd : deep ≤ 200) (hl : seesF L [108, 101, 116] s = false) (hc : seesF L [99, 97, 115, 101] s = false) (hm : seesF L [92] s = true) (hex : Reads pb vT L 61 ((deep : Int) + 1) ex) :
    Calls Tryz.prog 61 #[.pointer (some ⟨pb, 0, none⟩), .int .i64 (deep : Int)] w fun r w' => ∃ v, r = .returned v ∧ EVal (fun b => b < w.heap.size) w' v (lamF L ex s).1 ∧ PAt w' pb vT L (lamF L ex s).2 ∧ Fr (fun b => b = pb) w w' := by
  obtain ⟨p0, p1, p2, p3, pf, pl⟩ := h.facts
  have hpl := h.blk.lt
  have HP := Lib.hid h
  obtain ⟨T, hT⟩ : ∃ T, w.heap.size = T := ⟨_, rfl⟩
  rw [hT] at hpl ⊢
  have hne : T ≠ pb := by omega
  have i2 : (s.e : Int) = 0 := by omega
  rw [i2] at p2
  have i3 : ¬ (200 : Int) < (deep : Int) := by omega
  have hlt := sees_lt hm
  have hszL := h.sz
  have j2 : IntKind.i64.wrap ((s.at_ : Int) + 1) = (s.at_ : Int) + 1 := by rw [IntKind.wrap_i64]; omega
  have j1 : IntKind.i64.wrap ((deep : Int) + 1) = (deep : Int) + 1 := by rw [IntKind.wrap_i64]; omega
  obtain ⟨ns, s1, hN⟩ : ∃ ns s1, namesF L (fuelP L) true [] { s with at_ := s.at_ + 1 } = (ns, s1) := ⟨_, _, rfl⟩
  have e0 : lamF L ex s = (.mk 8 [] false 0 ns [(ex (needF L [45, 62] s1)).1] [] [], (ex (needF L [45, 62] s1)).2) := by unfold lamF; rw [hN]
  rw [e0]
  have HN := Lib.hid hN
  clear hN e0
  clear h
  go_enter Tryz.func61, Tryz.ntmps61
  go_upto_region 1 with fail
  obtain ⟨W0, hW0⟩ : ∃ W0, w.alloc (.cells #[.int .i64 0, .string ⟨#[]⟩, .bool false, .int .u64 0, .slice none 0 0, .slice none 0 0, .slice none 0 0, .slice none 0 0] 49) = W0 := ⟨_, rfl⟩
  have f0 : Fr Nil w W0 := by rw [← hW0]; (repeat (first | (with_reducible exact Fr.refl _ _) | (with_reducible assumption) | (with_reducible exact Fr.of_nil (by assumption)) | (with_reducible refine Fr.drew ?_) | (with_reducible refine Fr.drewN ?_ _) | (with_reducible refine Fr.alloc ?_ _) | (with_reducible refine Fr.set ?_ _ _ (by first | (intros; omega) | (simp; done) | (simp; omega))) | (with_reducible refine Fr.via ?_ (by assumption)) | (with_reducible refine Fr.comp ?_ (by assumption))))
  have bT0 : Blk W0 T #[.int .i64 0, .string ⟨#[]⟩, .bool false, .int .u64 0, .slice none 0 0, .slice none 0 0, .slice none 0 0, .slice none 0 0] 49 := by
    rw [← hW0]
    have h := Blk.new w #[.int .i64 0, .string ⟨#[]⟩, .bool false, .int .u64 0, .slice none 0 0, .slice none 0 0, .slice none 0 0, .slice none 0 0] 49
    rw [hT] at h
    exact h
  have h0 := HP.out.fr f0
  rw [hW0]
  have p2 := f0.cell p2 (by simp [Nil])
  have pl0 := f0.lt pl
  clear hW0 p0 p1 p3 pf
  go_wp2_with fail
  refine (psees_any [108, 101, 116] h0).mono ?_
  rw [hl]
  rintro e w1 ⟨rfl, f1⟩
  have h1 := h0.fr f1
  have bT1 := f1.blk bT0 (fun q => q)
  have F1 : Fr (fun b => b = pb) w w1 := Fr.of_nil (f0.comp f1)
  clear p2 pl0 pl f0 h0 bT0 f1
  go_wp2_with fail
  refine (psees_any [99, 97, 115, 101] h1).mono ?_
  rw [hc]
  rintro e w2 ⟨rfl, f2⟩
  have h2 := h1.fr f2
  have bT2 := f2.blk bT1 (fun q => q)
  have F2 : Fr (fun b => b = pb) w w2 := F1.via f2
  clear F1 h1 bT1 f2
  go_wp2_with fail
  refine (psees_any [92] h2).mono ?_
  rw [hm]
  rintro e w3 ⟨rfl, f3⟩
  have h3 := h2.fr f3
  have bT3 := f3.blk bT2 (fun q => q)
  have F3 : Fr (fun b => b = pb) w w3 := F2.via f3
  clear F2 h2 bT2 f3
  go_upto_region 20 with fail
  obtain ⟨p0, p1, p2, p3, pf, pl⟩ := h3.facts
  go_upto_region 21 with fail
  obtain ⟨V, hV⟩ : ∃ V, w3.setCell ⟨pb, 1, none⟩ (.int .i64 ((s.at_ : Int) + 1)) = V := ⟨_, rfl⟩
  rw [hV]
  have fV : Fr (fun b => b = pb) w3 V := by rw [← hV]; (repeat (first | (with_reducible exact Fr.refl _ _) | (with_reducible assumption) | (with_reducible exact Fr.of_nil (by assumption)) | (with_reducible refine Fr.drew ?_) | (with_reducible refine Fr.drewN ?_ _) | (with_reducible refine Fr.alloc ?_ _) | (with_reducible refine Fr.set ?_ _ _ (by first | (intro _; exact rfl) | (intro _; exact .inl rfl) | (intro _; exact .inr rfl) | (intro q; exact absurd q (Nat.lt_irrefl _)) | (intro q; simp at q; omega))) | (with_reducible refine Fr.via ?_ (by assumption)) | (with_reducible refine Fr.comp ?_ (by assumption))))
  have bV : Blk V pb #[vT, .int .i64 ((s.at_ : Int) + 1), .int .i64 (s.e : Int), .int .i64 (s.line : Int)] 76 := by
    rw [← hV]
    (unfold Blk; simp (disch := first | omega | (simp; done) | (simp; omega)) only [hp_drew, hp_drewN, hp_alloc, hp_other, hp_same, hp_new, upd_cells, Option.map_some, (h3.blk).eq])
    simp
  have hPV : PAt V pb vT L { s with at_ := s.at_ + 1 } := h3.to fV bV hlt
  have bTV := fV.blk bT3 hne
  have FV := F3.comp fV
  have hTV := bTV.lt
  clear hV bV fV h3 bT3 F3 p0 p1 p2 p3 pf pl
  go_wp2_with fail
  refine (pnames_any true hPV).mono ?_
  rw [HN.out]
  rintro e w4 ⟨vl, rfl, hl4, h4, f4⟩
  have hl4 : RowS (fun b => b < V.heap.size) w4 vl ns := hl4
  have h4 : PAt w4 pb vT L s1 := h4
  obtain ⟨av, cv, rfl⟩ := RowC.shape hl4
  have F4 := FV.comp f4
  have bT4 := f4.blk bTV hne
  have hs4 := f4.size
  clear hPV bTV FV f4
  go_upto_region 22 with fail
  obtain ⟨Te, hTe⟩ : ∃ Te, w4.heap.size = Te := ⟨_, rfl⟩
  rw [hTe]
  obtain ⟨W4, hW4⟩ : ∃ W4, w4.alloc (.cells #[.int .i64 8, .string ⟨#[]⟩, .bool false, .int .u64 0, .slice av ns.length cv, .slice none 0 0, .slice none 0 0, .slice none 0 0] 49) = W4 := ⟨_, rfl⟩
  rw [hW4]
  have g4 : Fr Nil w4 W4 := by rw [← hW4]; (repeat (first | (with_reducible exact Fr.refl _ _) | (with_reducible assumption) | (with_reducible exact Fr.of_nil (by assumption)) | (with_reducible refine Fr.drew ?_) | (with_reducible refine Fr.drewN ?_ _) | (with_reducible refine Fr.alloc ?_ _) | (with_reducible refine Fr.set ?_ _ _ (by first | (intros; omega) | (simp; done) | (simp; omega))) | (with_reducible refine Fr.via ?_ (by assumption)) | (with_reducible refine Fr.comp ?_ (by assumption))))
  have bE4 : Blk W4 Te #[.int .i64 8, .string ⟨#[]⟩, .bool false, .int .u64 0, .slice av ns.length cv, .slice none 0 0, .slice none 0 0, .slice none 0 0] 49 := by
    rw [← hW4]
    have h := Blk.new w4 #[.int .i64 8, .string ⟨#[]⟩, .bool false, .int .u64 0, .slice av ns.length cv, .slice none 0 0, .slice none 0 0, .slice none 0 0] 49
    rw [hTe] at h
    exact h
  have hneE : Te ≠ pb := by omega
  have hTT : T < Te := by omega
  have hl5 := RowS.fr (RowC.mono (Y := fun b => b < T + 1 ∨ Te ≤ b) hl4 (by decide) (fun b hb q => by rcases q with q | q <;> omega)) g4 (fun _ q => q.elim)
  have h4' := h4.fr g4
  have bT4' := g4.blk bT4 (fun q => q)
  have F4' := F4.via g4
  have hE4s := bE4.lt
  clear hW4 g4 hl4 h4 bT4 F4
  go_wp2_with fail
  refine (pneed_any [45, 62] h4').mono ?_
  rintro e w5 ⟨rfl, h5, f5⟩
  have F5 := F4'.comp f5
  have bT5 := f5.blk bT4' hne
  have bE5 := f5.blk bE4 hneE
  have hl6 := RowC.fr hl5 f5 (fun b q => by have q' : b = pb := q; omega)
  have hE5s := bE5.lt
  clear h4' bT4' bE4 hl5 f5 F4'
  go_wp2_with fail
  refine (hex _ _ h5).mono ?_
  rintro e w6 ⟨ve, rfl, he2, h6, f6⟩
  obtain ⟨cs, rfl, hE⟩ := he2
  obtain ⟨k, nm, fl, bi, a0, n0, c0, a1, n1, c1, a2, n2, c2, a3, n3, c3, rfl⟩ := hE.form
  have F6 := F5.comp f6
  have bT6 := f6.blk bT5 hne
  have bE6 := f6.blk bE5 hneE
  have hl7 := RowC.fr hl6 f6 (fun b q => by have q' : b = pb := q; omega)
  have hs6 := f6.size
  clear f6 h5 bT5 bE5 hl6 F5
  unfold eC
  obtain ⟨Tk, hTk⟩ : ∃ Tk, w6.heap.size = Tk := ⟨_, rfl⟩
  have Ec := bE6.cell
  have Ef := bE6.free
  have El := bE6.lt
  have ElK : Te < Tk := by omega
  go_upto_region 24 with fail
  obtain ⟨W6, hW6⟩ : ∃ W6, (w6.setCell ⟨Te, 5, none⟩ (.slice (some ⟨Tk, 0, none⟩) 1 1)).alloc (.cells #[.int .i64 (k : Int), .string nm, .bool fl, .int .u64 (bi : Int), .slice a0 n0 c0, .slice a1 n1 c1, .slice a2 n2 c2, .slice a3 n3 c3] 49) = W6 := ⟨_, rfl⟩
  rw [hW6]
  have g6 : Fr (fun b => b = Te) w6 W6 := by rw [← hW6]; (repeat (first | (with_reducible exact Fr.refl _ _) | (with_reducible assumption) | (with_reducible exact Fr.of_nil (by assumption)) | (with_reducible refine Fr.drew ?_) | (with_reducible refine Fr.drewN ?_ _) | (with_reducible refine Fr.alloc ?_ _) | (with_reducible refine Fr.set ?_ _ _ (by first | (intro _; exact rfl) | (intro _; exact .inl rfl) | (intro _; exact .inr rfl) | (intro q; exact absurd q (Nat.lt_irrefl _)) | (intro q; simp at q; omega))) | (with_reducible refine Fr.via ?_ (by assumption)) | (with_reducible refine Fr.comp ?_ (by assumption))))
  have bK6 : Blk W6 Tk (eC k nm fl bi a0 n0 c0 a1 n1 c1 a2 n2 c2 a3 n3 c3).toArray 49 := by
    rw [← hW6]
    have h := Blk.new (w6.setCell ⟨Te, 5, none⟩ (.slice (some ⟨Tk, 0, none⟩) 1 1)) (eC k nm fl bi a0 n0 c0 a1 n1 c1 a2 n2 c2 a3 n3 c3).toArray 49
    rw [show (w6.setCell ⟨Te, 5, none⟩ (.slice (some ⟨Tk, 0, none⟩) 1 1)).heap.size = Tk by simp [World.setCell, hTk]] at h
    exact h
  have bE7 : Blk W6 Te #[.int .i64 8, .string ⟨#[]⟩, .bool false, .int .u64 0, .slice av ns.length cv, .slice (some ⟨Tk, 0, none⟩) 1 1, .slice none 0 0, .slice none 0 0] 49 := by
    rw [← hW6]
    (unfold Blk; simp (disch := first | omega | (simp; done) | (simp; omega)) only [hp_drew, hp_drewN, hp_alloc, hp_other, hp_same, hp_new, upd_cells, Option.map_some, (bE6).eq])
    simp
  have bT7 := g6.blk bT6 (fun q => by have q' : T = Te := q; omega)
  have hE7 := (hE.mono (Y := fun b => b < T + 1 ∨ b = Te) (fun b _ q => by rcases q with q | q <;> omega)).fr g6 (fun b q => by have q' : b = Te := q; omega)
  have hl8 := RowC.fr hl7 g6 (fun b q => by have q' : b = Te := q; omega)
  have h7 := HP.out.keep (F6.trans g6 (fun b hb q => by have q' : b = Te := q; omega)) h6 g6 (fun q => hneE q.symm)
  have F7 : Fr (fun b => b = pb) w W6 := F6.trans g6 (fun b hb q => by have q' : b = Te := q; omega)
  clear hW6 g6 Ec Ef El bE6 bT6 hE hl7 h6 F6
  have Ec := bE7.cell
  have Ef := bE7.free
  have El := bE7.lt
  have Tc := bT7.cell
  have Tf := bT7.free
  have Tl := bT7.lt
  have fin : Hid (∀ wf, Fr (fun b => b = T) W6 wf → ∃ v', Ending.returned (.agg #[.int .i64 8, .string ⟨#[]⟩, .bool false, .int .u64 0, .slice av ns.length cv, .slice (some ⟨Tk, 0, none⟩) 1 1, .slice none 0 0, .slice none 0 0]) = .returned v' ∧ EVal (fun b => b < T) wf v' (.mk 8 [] false 0 ns [(ex (needF L [45, 62] s1)).1] [] []) ∧ PAt wf pb vT L (ex (needF L [45, 62] s1)).2 ∧ Fr (fun b => b = pb) w wf) := fun wf g => by
    have FF : Fr (fun b => b = pb) w wf := F7.trans g (fun b hb q => by have q' : b = T := q; omega)
    have hk := g.blk bK6 (fun q => by have q' : Tk = T := q; omega)
    refine ⟨_, rfl, ⟨_, rfl, EAt.rows (kids := [(ex (needF L [45, 62] s1)).1]) (alts := []) (binds := []) (params := ns) (kc := fun _ => eC k nm fl bi a0 n0 c0 a1 n1 c1 a2 n2 c2 a3 n3 c3) (ac := fun _ => []) (bc := fun _ => []) 8 [] (RowC.mono (RowC.fr hl8 g (fun b q => by have q' : b = T := q; omega)) (by decide) (fun b _ q => by omega)) (RowC.one hk rfl (by omega)) (fun i hi => ?_) .nil (fun i h => absurd h (Nat.not_lt_zero i)) .nil (fun i h => absurd h (Nat.not_lt_zero i))⟩, HP.out.keep FF h7 g (fun q => hne q.symm), FF⟩
    have e : i = 0 := by simp at hi; exact hi
    subst e
    exact (hE7.fr g (fun b q => by have q' : b = T := q; omega)).mono (fun b _ q => by omega)
  clear bE7 bT7 bK6 hE7 hl8 h7 F7
  go_wp2
  (try simp only [Exit.inBlock, Exit.then])
  refine bodyPost_ret (v := .agg #[.int .i64 8, .string ⟨#[]⟩, .bool false, .int .u64 0, .slice av ns.length cv, .slice (some ⟨Tk, 0, none⟩) 1 1, .slice none 0 0, .slice none 0 0]) (by simp [results, Tryz.results61, go_sem, *]) rfl ?_
  exact fin.out _ (by (repeat (first | (with_reducible exact Fr.refl _ _) | (with_reducible assumption) | (with_reducible exact Fr.of_nil (by assumption)) | (with_reducible refine Fr.drew ?_) | (with_reducible refine Fr.drewN ?_ _) | (with_reducible refine Fr.alloc ?_ _) | (with_reducible refine Fr.set ?_ _ _ (by first | (intro _; exact rfl) | (intro _; exact .inl rfl) | (intro _; exact .inr rfl) | (intro q; exact absurd q (Nat.lt_irrefl _)) | (intro q; simp at q; omega))) | (with_reducible refine Fr.via ?_ (by assumption)) | (with_reducible refine Fr.comp ?_ (by assumption)))))
end
end Go.Proofs.YtlnmicddobgppaaGreatDoor
