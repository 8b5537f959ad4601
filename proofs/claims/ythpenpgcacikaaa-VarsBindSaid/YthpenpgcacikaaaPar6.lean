/-
  Atoms (layer 8), given what expr does one level deeper. No conditions.
-/
import Derived.Test.YthpenpgcacikaaaParR
namespace Go.Proofs.Ythpenpgcacikaaa
set_option linter.unusedSimpArgs false
set_option linter.unusedVariables false
open Go.RowKit

theorem run_tok2 (a b c d e : Value) (w : World) : (Instr.field 80 (.agg #[a, b, c, d, e]) 2).run Try.prog w = .ok (.agg #[c, d]) w := by kernel_rfl
theorem EAt.leaf {X : Nat → Prop} {w : World} (kind : Nat) (name : List UInt8) (flt : Bool) (bits : Nat) : EAt X w [.int .i64 (kind : Int), .string ⟨name.toArray⟩, .bool flt, .int .u64 (bits : Int), .slice none 0 0, .slice none 0 0, .slice none 0 0, .slice none 0 0] (.mk kind name flt bits [] [] [] []) :=
  .mk (params := []) (kids := []) (binds := []) (alts := []) (fun _ => []) (fun _ => []) (fun _ => []) (fun _ => []) (fun _ => []) (fun _ => .bool false) (fun _ => .bool false) .nil .nil (fun i h => absurd h (Nat.not_lt_zero i)) .nil (fun i h => absurd h (Nat.not_lt_zero i)) (fun i h => absurd h (Nat.not_lt_zero i)) (fun i h => absurd h (Nat.not_lt_zero i)) .nil (fun i h => absurd h (Nat.not_lt_zero i)) (fun i h => absurd h (Nat.not_lt_zero i)) (fun i h => absurd h (Nat.not_lt_zero i))
/-- A row of expressions as it is read. -/
def EsAt (X : Nat → Prop) (w : World) (v : Value) (l : List TE) : Prop := ∃ cs : Nat → List Value, RowC X w v l.length 8 cs ∧ ∀ i (h : i < l.length), EAt X w (cs i) l[i]
theorem push_end {α : Type} {R : (Nat → Prop) → World → List Value → α → Prop} {size : Nat} {t : TypeId} {w wr wi Wc w3 : World} {pb Te : Nat} {vT v v' : Value} {L : List TokV} {s st' : PS} {acc : List α} {c cl : List Value} {a : α} (law : ElemLaw R size)
    (h0 : PAt w pb vT L s) (hw : Fr (fun b => b = pb) w wr) (hR : RowsAt R size t w.heap.size wr v acc) (FW : Fr (fun b => b = pb) wr Wc) (hi : PAt wi pb vT L st') (gi : Fr (fun b => b = Te) wi Wc) (hTe : Te ≠ pb)
    (he : R (fun b => b < w.heap.size ∨ v.ownBlock = some b) Wc c a) (hcl : Wc.ownsRow w.heap.size t size v acc.length cl) (ho : w3.ownsRow w.heap.size t size v' (acc.length + 1) (cl ++ c)) (f3 : Fr (fun k => v.ownBlock = some k) Wc w3) (hk : ∀ k, v'.ownBlock = some k → v.ownBlock = some k ∨ Wc.heap.size ≤ k) :
    RowsAt R size t w.heap.size w3 v' (acc ++ [a]) ∧ PAt w3 pb vT L st' ∧ Fr (fun b => b = pb) w w3 := by
  have hpb := h0.blk.lt
  have hR2 := hR.fr law FW (fun b q => by omega)
  have hown : ∀ k, v.ownBlock = some k → w.heap.size ≤ k := fun k q => (hR.own k q).1
  have FF : Fr (fun b => b = pb) w w3 := (hw.comp FW).trans f3 (fun k hk2 q => by have := hown k q; omega)
  refine ⟨hR2.push law he hcl ho f3 hk, h0.keep FF hi (S := fun b => b = Te ∨ v.ownBlock = some b) ((gi.mono (fun _ _ q => .inl q)).trans (f3.mono (fun _ _ q => Or.inr q)) (fun _ _ q => q)) (fun q => ?_), FF⟩
  rcases q with q | q
  · exact hTe q.symm
  · have := hown pb q; omega
section
variable {w : World} {pb : Nat} {vT : Value} {L : List TokV} {s : PS} {deep : Nat} {ex : PS → TE × PS}
set_option maxRecDepth 100000 in
set_option maxHeartbeats 4000000 in
theorem patoms_any (h : PAt w pb vT L s) (hd : deep ≤ 1000) (hgo : ∀ s, Goes L s (ex s).2) (hex : Reads pb vT L 62 ((deep : Int) + 1) ex) :
    Calls Try.prog 83 #[.pointer (some ⟨pb, 0, none⟩), .int .i64 (deep : Int)] w fun r w' => ∃ v, r = .returned v ∧ RowsAt EAt 8 32 w.heap.size w' v (atomsF L ex (fuelP L) [] s).1 ∧ PAt w' pb vT L (atomsF L ex (fuelP L) [] s).2 ∧ Fr (fun b => b = pb) w w' := by
  obtain ⟨i0, hi, hz0, hz1, hz2⟩ := info_parts infoE
  obtain ⟨R, hR⟩ : ∃ R, atomsF L ex (fuelP L) [] s = R := ⟨_, rfl⟩
  rw [hR]
  obtain ⟨F, hF⟩ : ∃ F, fuelP L = F := ⟨_, rfl⟩
  have hm := measP_le L s
  rw [hF] at hR hm
  have hF2 : F ≤ 1000002 := by have := h.sz; unfold fuelP at hF; omega
  have hpl := h.blk.lt
  have hf1 := run_tok1
  have hf2 := run_tok2
  have j1 : IntKind.i64.wrap ((deep : Int) + 1) = (deep : Int) + 1 := by rw [IntKind.wrap_i64]; omega
  have HP := Lib.hid (And.intro h (And.intro hR (And.intro hm (And.intro hex hgo))))
  clear h hR hm hF hex hgo
  go_enter Try.func83, Try.ntmps83
  go_wp2_with fail
  go_loopg [5] F (fun g vo wr => ∃ (acc : List TE) (st : PS) (v : Value), v = vo ∧ acc.length + g = F ∧ Hid (atomsF L ex g acc st = R ∧ measP L st + 1 ≤ g ∧ RowsAt EAt 8 32 w.heap.size wr v acc ∧ PAt wr pb vT L st) ∧ Fr (fun b => b = pb) w wr)
  case atStart => exact ⟨[], s, _, rfl, by simp, Lib.hid ⟨HP.out.2.1, HP.out.2.2.1, .nil, HP.out.1⟩, Fr.refl _ _⟩
  case round =>
    obtain ⟨acc, st, v, rfl, hg, HS, hw⟩ := hrel
    obtain ⟨p0, p1, p2, p3, pf, pl⟩ := HS.out.2.2.2.facts
    obtain ⟨f, hf⟩ : ∃ f, gk = f + 1 := ⟨gk - 1, by have := HS.out.2.1; omega⟩
    by_cases he : st.e = 0
    · have i2 : (st.e : Int) = 0 := by omega
      rw [i2] at p2
      obtain ⟨kd, hkd⟩ : ∃ kd, kindP L st = kd := ⟨_, rfl⟩
      have HKD := Lib.hid (fun w' (f : Fr Nil wr w') => pkind_any (HS.out.2.2.2.fr f))
      rw [hkd] at HKD
      have hst := HS.out.1
      rw [hf] at hst
      unfold atomsF at hst
      rw [if_neg (by simpa using he), hkd] at hst
      have HST := Lib.hid (And.intro hst (And.intro he hkd))
      obtain ⟨cl, hcl⟩ := HS.out.2.2.1.cells
      have hown := HS.out.2.2.1.own
      have HCL := Lib.hid (And.intro hcl hown)
      obtain ⟨Te, hTe⟩ : ∃ Te, wr.heap.size = Te := ⟨_, rfl⟩
      have hne : Te ≠ pb := by omega
      have hwsz := hw.size
      clear hst hkd he i2 hcl hown p3
      go_wp2_with fail
      refine (HKD.out _ (by (repeat (first | (with_reducible exact Fr.refl _ _) | (with_reducible assumption) | (with_reducible exact Fr.of_nil (by assumption)) | (with_reducible refine Fr.drew ?_) | (with_reducible refine Fr.drewN ?_ _) | (with_reducible refine Fr.alloc ?_ _) | (with_reducible refine Fr.set ?_ _ _ (by first | (intros; omega) | (simp; done) | (simp; omega))) | (with_reducible refine Fr.via ?_ (by assumption)) | (with_reducible refine Fr.comp ?_ (by assumption)))))).mono ?_
      rintro e w1 ⟨rfl, f1⟩
      have bE1 : Blk w1 Te #[.int .i64 0, .string ⟨#[]⟩, .bool false, .int .u64 0, .slice none 0 0, .slice none 0 0, .slice none 0 0, .slice none 0 0] 32 := by
        have h := f1.new
        rw [hTe] at h
        exact h
      have F1 : Fr (fun b => b = pb) wr w1 := Fr.trans (S := fun b => b = pb) (S' := Nil) (by (repeat (first | (with_reducible exact Fr.refl _ _) | (with_reducible assumption) | (with_reducible exact Fr.of_nil (by assumption)) | (with_reducible refine Fr.drew ?_) | (with_reducible refine Fr.drewN ?_ _) | (with_reducible refine Fr.alloc ?_ _) | (with_reducible refine Fr.set ?_ _ _ (by first | (intro _; exact rfl) | (intro _; exact .inl rfl) | (intro _; exact .inr rfl) | (intro q; exact absurd q (Nat.lt_irrefl _)) | (intro q; simp at q; omega))) | (with_reducible refine Fr.via ?_ (by assumption)) | (with_reducible refine Fr.comp ?_ (by assumption))))) f1 (fun _ _ q => q.elim)
      have h1 := HP.out.1.keep (hw.comp F1) HS.out.2.2.2 (S := Nil) (Fr.trans (S := Nil) (by (repeat (first | (with_reducible exact Fr.refl _ _) | (with_reducible assumption) | (with_reducible exact Fr.of_nil (by assumption)) | (with_reducible refine Fr.drew ?_) | (with_reducible refine Fr.drewN ?_ _) | (with_reducible refine Fr.alloc ?_ _) | (with_reducible refine Fr.set ?_ _ _ (by first | (intros; omega) | (simp; done) | (simp; omega))) | (with_reducible refine Fr.via ?_ (by assumption)) | (with_reducible refine Fr.comp ?_ (by assumption))))) f1 (fun _ _ q => q)) (fun q => q)
      have H1 := Lib.hid (And.intro h1 bE1)
      clear HKD bE1 h1 f1 p0 p1 p2 pf pl
      by_cases hk1 : kd = 1
      · subst hk1
        have hst := HST.out.1
        rw [if_pos rfl] at hst
        have hT := token_meas (L := L) (k := 1) (by decide) HST.out.2.1
        obtain ⟨tk, st', hts⟩ : ∃ tk st', tokenF L 1 st = (tk, st') := ⟨_, _, rfl⟩
        rw [hts] at hst hT
        have HTS := Lib.hid hts
        have HST2 := Lib.hid (And.intro hst (show measP L st' + 1 ≤ f from by have := HS.out.2.1; simp only at hT; omega))
        clear hst hT hts
        go_wp2_with fail
        refine (ptoken_any 1 (by decide) H1.out.1).mono ?_
        rw [HTS.out]
        rintro e w2 ⟨rfl, h2, f2⟩
        unfold tokV
        have F2 : Fr (fun b => b = pb) wr w2 := F1.comp f2
        have bE2 := f2.blk H1.out.2 hne
        have hs2 := F2.size
        have Ec := bE2.cell
        have Ef := bE2.free
        have El := bE2.lt
        clear f2
        go_upto_region 18 with fail
        obtain ⟨W, hW⟩ : ∃ W, ((((((((w2).setCell ⟨Te, 0, none⟩ (.int .i64 1)).setCell ⟨Te, 1, none⟩ (.string ⟨tk.text.toArray⟩)).setCell ⟨Te, 2, none⟩ (.bool false)).setCell ⟨Te, 3, none⟩ (.int .u64 0)).setCell ⟨Te, 4, none⟩ (.slice none 0 0)).setCell ⟨Te, 5, none⟩ (.slice none 0 0)).setCell ⟨Te, 6, none⟩ (.slice none 0 0)).setCell ⟨Te, 7, none⟩ (.slice none 0 0) = W := ⟨_, rfl⟩
        rw [hW]
        have FW : Fr (fun b => b = pb) wr W := by rw [← hW]; (repeat (first | (with_reducible exact Fr.refl _ _) | (with_reducible assumption) | (with_reducible exact Fr.of_nil (by assumption)) | (with_reducible refine Fr.drew ?_) | (with_reducible refine Fr.drewN ?_ _) | (with_reducible refine Fr.alloc ?_ _) | (with_reducible refine Fr.set ?_ _ _ (by first | (intro _; exact rfl) | (intro _; exact .inl rfl) | (intro _; exact .inr rfl) | (intro q; exact absurd q (Nat.lt_irrefl _)) | (intro q; simp at q; omega))) | (with_reducible refine Fr.via ?_ (by assumption)) | (with_reducible refine Fr.comp ?_ (by assumption))))
        have GW : Fr (fun b => b = Te) w2 W := by rw [← hW]; (repeat (first | (with_reducible exact Fr.refl _ _) | (with_reducible assumption) | (with_reducible exact Fr.of_nil (by assumption)) | (with_reducible refine Fr.drew ?_) | (with_reducible refine Fr.drewN ?_ _) | (with_reducible refine Fr.alloc ?_ _) | (with_reducible refine Fr.set ?_ _ _ (by first | (intro _; exact rfl) | (intro _; exact .inl rfl) | (intro _; exact .inr rfl) | (intro q; exact absurd q (Nat.lt_irrefl _)) | (intro q; simp at q; omega))) | (with_reducible refine Fr.via ?_ (by assumption)) | (with_reducible refine Fr.comp ?_ (by assumption))))
        have bW : Blk W Te #[.int .i64 1, .string ⟨tk.text.toArray⟩, .bool false, .int .u64 0, .slice none 0 0, .slice none 0 0, .slice none 0 0, .slice none 0 0] 32 := by
          rw [← hW]
          (unfold Blk; simp (disch := first | omega | (simp; done) | (simp; omega)) only [hp_drew, hp_drewN, hp_alloc, hp_other, hp_same, hp_new, upd_cells, Option.map_some, (bE2).eq]) <;> simp
        clear hW
        have HW := Lib.hid (And.intro FW GW)
        have hWs := FW.size
        clear Ec Ef El
        have Ec := bW.cell
        have Ef := bW.free
        have El := bW.lt
        clear bW FW GW
        go_wp2_with (first
          | (at_builtin; refine wpList_push (w := W) rfl (.tmp 56) (.tmp 58) 29 rfl w.heap.size 32 i0 (.agg #[.int .i64 0, .string ⟨#[]⟩, .bool false, .int .u64 0, .slice none 0 0, .slice none 0 0, .slice none 0 0, .slice none 0 0]) 8 136 Try.underlying29 hi hz0 hz1 hz2 rfl (by decide) v acc.length cl rfl (owns_frS HCL.out.1 HW.out.1 (fun k q e => by have := (HCL.out.2 k q).1; omega)) [.int .i64 1, .string ⟨tk.text.toArray⟩, .bool false, .int .u64 0, .slice none 0 0, .slice none 0 0, .slice none 0 0, .slice none 0 0] rfl rfl (by simp [Value.oneCell']) (by unfold maxLen; omega) (by omega) (by omega) ?_; intro v' w9 hown9 f9 hk9; have HO := Lib.hid (And.intro hown9 (And.intro f9 hk9)); clear hown9 f9 hk9)
          | fail)
        have E := push_end (Te := Te) (a := (.mk 1 tk.text false 0 [] [] [] [])) lawE HP.out.1 hw HS.out.2.2.1 HW.out.1 h2 HW.out.2 hne (EAt.leaf 1 tk.text false 0) (owns_frS HCL.out.1 HW.out.1 (fun k q e => by have := (HCL.out.2 k q).1; omega)) HO.out.1 HO.out.2.1 HO.out.2.2
        go_roundg f
        case rel => exact ⟨acc ++ [(.mk 1 tk.text false 0 [] [] [] [])], st', v', rfl, by simp; omega, Lib.hid ⟨HST2.out.1, HST2.out.2, E.1, E.2.1⟩, E.2.2⟩
        case measure => omega
      by_cases hk2 : kd = 2
      · subst hk2
        have hst := HST.out.1
        rw [if_neg (by decide), if_pos rfl] at hst
        have hT := token_meas (L := L) (k := 2) (by decide) HST.out.2.1
        obtain ⟨tk, st', hts⟩ : ∃ tk st', tokenF L 2 st = (tk, st') := ⟨_, _, rfl⟩
        rw [hts] at hst hT
        have HTS := Lib.hid hts
        have HST2 := Lib.hid (And.intro hst (show measP L st' + 1 ≤ f from by have := HS.out.2.1; simp only at hT; omega))
        clear hst hT hts
        go_wp2_with fail
        refine (ptoken_any 2 (by decide) H1.out.1).mono ?_
        rw [HTS.out]
        rintro e w2 ⟨rfl, h2, f2⟩
        unfold tokV
        have F2 : Fr (fun b => b = pb) wr w2 := F1.comp f2
        have bE2 := f2.blk H1.out.2 hne
        have hs2 := F2.size
        have Ec := bE2.cell
        have Ef := bE2.free
        have El := bE2.lt
        clear f2
        go_upto_region 18 with fail
        obtain ⟨W, hW⟩ : ∃ W, ((((((((w2).setCell ⟨Te, 0, none⟩ (.int .i64 2)).setCell ⟨Te, 1, none⟩ (.string ⟨tk.text.toArray⟩)).setCell ⟨Te, 2, none⟩ (.bool false)).setCell ⟨Te, 3, none⟩ (.int .u64 0)).setCell ⟨Te, 4, none⟩ (.slice none 0 0)).setCell ⟨Te, 5, none⟩ (.slice none 0 0)).setCell ⟨Te, 6, none⟩ (.slice none 0 0)).setCell ⟨Te, 7, none⟩ (.slice none 0 0) = W := ⟨_, rfl⟩
        rw [hW]
        have FW : Fr (fun b => b = pb) wr W := by rw [← hW]; (repeat (first | (with_reducible exact Fr.refl _ _) | (with_reducible assumption) | (with_reducible exact Fr.of_nil (by assumption)) | (with_reducible refine Fr.drew ?_) | (with_reducible refine Fr.drewN ?_ _) | (with_reducible refine Fr.alloc ?_ _) | (with_reducible refine Fr.set ?_ _ _ (by first | (intro _; exact rfl) | (intro _; exact .inl rfl) | (intro _; exact .inr rfl) | (intro q; exact absurd q (Nat.lt_irrefl _)) | (intro q; simp at q; omega))) | (with_reducible refine Fr.via ?_ (by assumption)) | (with_reducible refine Fr.comp ?_ (by assumption))))
        have GW : Fr (fun b => b = Te) w2 W := by rw [← hW]; (repeat (first | (with_reducible exact Fr.refl _ _) | (with_reducible assumption) | (with_reducible exact Fr.of_nil (by assumption)) | (with_reducible refine Fr.drew ?_) | (with_reducible refine Fr.drewN ?_ _) | (with_reducible refine Fr.alloc ?_ _) | (with_reducible refine Fr.set ?_ _ _ (by first | (intro _; exact rfl) | (intro _; exact .inl rfl) | (intro _; exact .inr rfl) | (intro q; exact absurd q (Nat.lt_irrefl _)) | (intro q; simp at q; omega))) | (with_reducible refine Fr.via ?_ (by assumption)) | (with_reducible refine Fr.comp ?_ (by assumption))))
        have bW : Blk W Te #[.int .i64 2, .string ⟨tk.text.toArray⟩, .bool false, .int .u64 0, .slice none 0 0, .slice none 0 0, .slice none 0 0, .slice none 0 0] 32 := by
          rw [← hW]
          (unfold Blk; simp (disch := first | omega | (simp; done) | (simp; omega)) only [hp_drew, hp_drewN, hp_alloc, hp_other, hp_same, hp_new, upd_cells, Option.map_some, (bE2).eq]) <;> simp
        clear hW
        have HW := Lib.hid (And.intro FW GW)
        have hWs := FW.size
        clear Ec Ef El
        have Ec := bW.cell
        have Ef := bW.free
        have El := bW.lt
        clear bW FW GW
        go_wp2_with (first
          | (at_builtin; refine wpList_push (w := W) rfl (.tmp 56) (.tmp 58) 29 rfl w.heap.size 32 i0 (.agg #[.int .i64 0, .string ⟨#[]⟩, .bool false, .int .u64 0, .slice none 0 0, .slice none 0 0, .slice none 0 0, .slice none 0 0]) 8 136 Try.underlying29 hi hz0 hz1 hz2 rfl (by decide) v acc.length cl rfl (owns_frS HCL.out.1 HW.out.1 (fun k q e => by have := (HCL.out.2 k q).1; omega)) [.int .i64 2, .string ⟨tk.text.toArray⟩, .bool false, .int .u64 0, .slice none 0 0, .slice none 0 0, .slice none 0 0, .slice none 0 0] rfl rfl (by simp [Value.oneCell']) (by unfold maxLen; omega) (by omega) (by omega) ?_; intro v' w9 hown9 f9 hk9; have HO := Lib.hid (And.intro hown9 (And.intro f9 hk9)); clear hown9 f9 hk9)
          | fail)
        have E := push_end (Te := Te) (a := (.mk 2 tk.text false 0 [] [] [] [])) lawE HP.out.1 hw HS.out.2.2.1 HW.out.1 h2 HW.out.2 hne (EAt.leaf 2 tk.text false 0) (owns_frS HCL.out.1 HW.out.1 (fun k q e => by have := (HCL.out.2 k q).1; omega)) HO.out.1 HO.out.2.1 HO.out.2.2
        go_roundg f
        case rel => exact ⟨acc ++ [(.mk 2 tk.text false 0 [] [] [] [])], st', v', rfl, by simp; omega, Lib.hid ⟨HST2.out.1, HST2.out.2, E.1, E.2.1⟩, E.2.2⟩
        case measure => omega
      by_cases hk7 : kd = 7
      · subst hk7
        have hst := HST.out.1
        rw [if_neg (by decide), if_neg (by decide), if_pos rfl] at hst
        have hT := token_meas (L := L) (k := 7) (by decide) HST.out.2.1
        obtain ⟨tk, st', hts⟩ : ∃ tk st', tokenF L 7 st = (tk, st') := ⟨_, _, rfl⟩
        rw [hts] at hst hT
        have HTS := Lib.hid hts
        have HST2 := Lib.hid (And.intro hst (show measP L st' + 1 ≤ f from by have := HS.out.2.1; simp only at hT; omega))
        clear hst hT hts
        go_wp2_with fail
        refine (ptoken_any 7 (by decide) H1.out.1).mono ?_
        rw [HTS.out]
        rintro e w2 ⟨rfl, h2, f2⟩
        unfold tokV
        have F2 : Fr (fun b => b = pb) wr w2 := F1.comp f2
        have bE2 := f2.blk H1.out.2 hne
        have hs2 := F2.size
        have Ec := bE2.cell
        have Ef := bE2.free
        have El := bE2.lt
        clear f2
        go_upto_region 18 with fail
        obtain ⟨W, hW⟩ : ∃ W, ((((((((w2).setCell ⟨Te, 0, none⟩ (.int .i64 5)).setCell ⟨Te, 1, none⟩ (.string ⟨tk.text.toArray⟩)).setCell ⟨Te, 2, none⟩ (.bool false)).setCell ⟨Te, 3, none⟩ (.int .u64 0)).setCell ⟨Te, 4, none⟩ (.slice none 0 0)).setCell ⟨Te, 5, none⟩ (.slice none 0 0)).setCell ⟨Te, 6, none⟩ (.slice none 0 0)).setCell ⟨Te, 7, none⟩ (.slice none 0 0) = W := ⟨_, rfl⟩
        rw [hW]
        have FW : Fr (fun b => b = pb) wr W := by rw [← hW]; (repeat (first | (with_reducible exact Fr.refl _ _) | (with_reducible assumption) | (with_reducible exact Fr.of_nil (by assumption)) | (with_reducible refine Fr.drew ?_) | (with_reducible refine Fr.drewN ?_ _) | (with_reducible refine Fr.alloc ?_ _) | (with_reducible refine Fr.set ?_ _ _ (by first | (intro _; exact rfl) | (intro _; exact .inl rfl) | (intro _; exact .inr rfl) | (intro q; exact absurd q (Nat.lt_irrefl _)) | (intro q; simp at q; omega))) | (with_reducible refine Fr.via ?_ (by assumption)) | (with_reducible refine Fr.comp ?_ (by assumption))))
        have GW : Fr (fun b => b = Te) w2 W := by rw [← hW]; (repeat (first | (with_reducible exact Fr.refl _ _) | (with_reducible assumption) | (with_reducible exact Fr.of_nil (by assumption)) | (with_reducible refine Fr.drew ?_) | (with_reducible refine Fr.drewN ?_ _) | (with_reducible refine Fr.alloc ?_ _) | (with_reducible refine Fr.set ?_ _ _ (by first | (intro _; exact rfl) | (intro _; exact .inl rfl) | (intro _; exact .inr rfl) | (intro q; exact absurd q (Nat.lt_irrefl _)) | (intro q; simp at q; omega))) | (with_reducible refine Fr.via ?_ (by assumption)) | (with_reducible refine Fr.comp ?_ (by assumption))))
        have bW : Blk W Te #[.int .i64 5, .string ⟨tk.text.toArray⟩, .bool false, .int .u64 0, .slice none 0 0, .slice none 0 0, .slice none 0 0, .slice none 0 0] 32 := by
          rw [← hW]
          (unfold Blk; simp (disch := first | omega | (simp; done) | (simp; omega)) only [hp_drew, hp_drewN, hp_alloc, hp_other, hp_same, hp_new, upd_cells, Option.map_some, (bE2).eq]) <;> simp
        clear hW
        have HW := Lib.hid (And.intro FW GW)
        have hWs := FW.size
        clear Ec Ef El
        have Ec := bW.cell
        have Ef := bW.free
        have El := bW.lt
        clear bW FW GW
        go_wp2_with (first
          | (at_builtin; refine wpList_push (w := W) rfl (.tmp 56) (.tmp 58) 29 rfl w.heap.size 32 i0 (.agg #[.int .i64 0, .string ⟨#[]⟩, .bool false, .int .u64 0, .slice none 0 0, .slice none 0 0, .slice none 0 0, .slice none 0 0]) 8 136 Try.underlying29 hi hz0 hz1 hz2 rfl (by decide) v acc.length cl rfl (owns_frS HCL.out.1 HW.out.1 (fun k q e => by have := (HCL.out.2 k q).1; omega)) [.int .i64 5, .string ⟨tk.text.toArray⟩, .bool false, .int .u64 0, .slice none 0 0, .slice none 0 0, .slice none 0 0, .slice none 0 0] rfl rfl (by simp [Value.oneCell']) (by unfold maxLen; omega) (by omega) (by omega) ?_; intro v' w9 hown9 f9 hk9; have HO := Lib.hid (And.intro hown9 (And.intro f9 hk9)); clear hown9 f9 hk9)
          | fail)
        have E := push_end (Te := Te) (a := (.mk 5 tk.text false 0 [] [] [] [])) lawE HP.out.1 hw HS.out.2.2.1 HW.out.1 h2 HW.out.2 hne (EAt.leaf 5 tk.text false 0) (owns_frS HCL.out.1 HW.out.1 (fun k q e => by have := (HCL.out.2 k q).1; omega)) HO.out.1 HO.out.2.1 HO.out.2.2
        go_roundg f
        case rel => exact ⟨acc ++ [(.mk 5 tk.text false 0 [] [] [] [])], st', v', rfl, by simp; omega, Lib.hid ⟨HST2.out.1, HST2.out.2, E.1, E.2.1⟩, E.2.2⟩
        case measure => omega
      by_cases hk3 : kd = 3
      · subst hk3
        have hst := HST.out.1
        rw [if_neg (by decide), if_neg (by decide), if_neg (by decide), if_pos rfl] at hst
        have hT := token_meas (L := L) (k := 3) (by decide) HST.out.2.1
        obtain ⟨tk, st', hts⟩ : ∃ tk st', tokenF L 3 st = (tk, st') := ⟨_, _, rfl⟩
        rw [hts] at hst hT
        have HTS := Lib.hid hts
        have HST2 := Lib.hid (And.intro hst (show measP L st' + 1 ≤ f from by have := HS.out.2.1; simp only at hT; omega))
        clear hst hT hts
        go_wp2_with fail
        refine (ptoken_any 3 (by decide) H1.out.1).mono ?_
        rw [HTS.out]
        rintro e w2 ⟨rfl, h2, f2⟩
        unfold tokV
        have F2 : Fr (fun b => b = pb) wr w2 := F1.comp f2
        have bE2 := f2.blk H1.out.2 hne
        have hs2 := F2.size
        have Ec := bE2.cell
        have Ef := bE2.free
        have El := bE2.lt
        clear f2
        go_upto_region 18 with fail
        obtain ⟨W, hW⟩ : ∃ W, ((((((((w2).setCell ⟨Te, 0, none⟩ (.int .i64 3)).setCell ⟨Te, 1, none⟩ (.string ⟨#[]⟩)).setCell ⟨Te, 2, none⟩ (.bool tk.flt)).setCell ⟨Te, 3, none⟩ (.int .u64 (tk.bits : Int))).setCell ⟨Te, 4, none⟩ (.slice none 0 0)).setCell ⟨Te, 5, none⟩ (.slice none 0 0)).setCell ⟨Te, 6, none⟩ (.slice none 0 0)).setCell ⟨Te, 7, none⟩ (.slice none 0 0) = W := ⟨_, rfl⟩
        rw [hW]
        have FW : Fr (fun b => b = pb) wr W := by rw [← hW]; (repeat (first | (with_reducible exact Fr.refl _ _) | (with_reducible assumption) | (with_reducible exact Fr.of_nil (by assumption)) | (with_reducible refine Fr.drew ?_) | (with_reducible refine Fr.drewN ?_ _) | (with_reducible refine Fr.alloc ?_ _) | (with_reducible refine Fr.set ?_ _ _ (by first | (intro _; exact rfl) | (intro _; exact .inl rfl) | (intro _; exact .inr rfl) | (intro q; exact absurd q (Nat.lt_irrefl _)) | (intro q; simp at q; omega))) | (with_reducible refine Fr.via ?_ (by assumption)) | (with_reducible refine Fr.comp ?_ (by assumption))))
        have GW : Fr (fun b => b = Te) w2 W := by rw [← hW]; (repeat (first | (with_reducible exact Fr.refl _ _) | (with_reducible assumption) | (with_reducible exact Fr.of_nil (by assumption)) | (with_reducible refine Fr.drew ?_) | (with_reducible refine Fr.drewN ?_ _) | (with_reducible refine Fr.alloc ?_ _) | (with_reducible refine Fr.set ?_ _ _ (by first | (intro _; exact rfl) | (intro _; exact .inl rfl) | (intro _; exact .inr rfl) | (intro q; exact absurd q (Nat.lt_irrefl _)) | (intro q; simp at q; omega))) | (with_reducible refine Fr.via ?_ (by assumption)) | (with_reducible refine Fr.comp ?_ (by assumption))))
        have bW : Blk W Te #[.int .i64 3, .string ⟨#[]⟩, .bool tk.flt, .int .u64 (tk.bits : Int), .slice none 0 0, .slice none 0 0, .slice none 0 0, .slice none 0 0] 32 := by
          rw [← hW]
          (unfold Blk; simp (disch := first | omega | (simp; done) | (simp; omega)) only [hp_drew, hp_drewN, hp_alloc, hp_other, hp_same, hp_new, upd_cells, Option.map_some, (bE2).eq]) <;> simp
        clear hW
        have HW := Lib.hid (And.intro FW GW)
        have hWs := FW.size
        clear Ec Ef El
        have Ec := bW.cell
        have Ef := bW.free
        have El := bW.lt
        clear bW FW GW
        go_wp2_with (first
          | (at_builtin; refine wpList_push (w := W) rfl (.tmp 56) (.tmp 58) 29 rfl w.heap.size 32 i0 (.agg #[.int .i64 0, .string ⟨#[]⟩, .bool false, .int .u64 0, .slice none 0 0, .slice none 0 0, .slice none 0 0, .slice none 0 0]) 8 136 Try.underlying29 hi hz0 hz1 hz2 rfl (by decide) v acc.length cl rfl (owns_frS HCL.out.1 HW.out.1 (fun k q e => by have := (HCL.out.2 k q).1; omega)) [.int .i64 3, .string ⟨#[]⟩, .bool tk.flt, .int .u64 (tk.bits : Int), .slice none 0 0, .slice none 0 0, .slice none 0 0, .slice none 0 0] rfl rfl (by simp [Value.oneCell']) (by unfold maxLen; omega) (by omega) (by omega) ?_; intro v' w9 hown9 f9 hk9; have HO := Lib.hid (And.intro hown9 (And.intro f9 hk9)); clear hown9 f9 hk9)
          | fail)
        have E := push_end (Te := Te) (a := (.mk 3 [] tk.flt tk.bits [] [] [] [])) lawE HP.out.1 hw HS.out.2.2.1 HW.out.1 h2 HW.out.2 hne (EAt.leaf 3 [] tk.flt tk.bits) (owns_frS HCL.out.1 HW.out.1 (fun k q e => by have := (HCL.out.2 k q).1; omega)) HO.out.1 HO.out.2.1 HO.out.2.2
        go_roundg f
        case rel => exact ⟨acc ++ [(.mk 3 [] tk.flt tk.bits [] [] [] [])], st', v', rfl, by simp; omega, Lib.hid ⟨HST2.out.1, HST2.out.2, E.1, E.2.1⟩, E.2.2⟩
        case measure => omega
      have hst := HST.out.1
      rw [if_neg hk1, if_neg hk2, if_neg hk7, if_neg hk3] at hst
      have HX := Lib.hid hst
      have d1 : (kd == 1) = false := by simpa using hk1
      have d2 : (kd == 2) = false := by simpa using hk2
      have d3 : (kd == 7) = false := by simpa using hk7
      have d4 : (kd == 3) = false := by simpa using hk3
      have g1 := decide_eq_false hk1
      have g2 := decide_eq_false hk2
      have g3 := decide_eq_false hk7
      have g4 := decide_eq_false hk3
      obtain ⟨sx, hsx⟩ : ∃ sx, seesF L [40] st = sx := ⟨_, rfl⟩
      have HSX := Lib.hid hsx
      clear hst hsx hk1 hk2 hk7 hk3
      go_wp2_with fail
      refine (psees_any [40] H1.out.1).mono ?_
      rw [HSX.out]
      rintro e w2 ⟨rfl, f2⟩
      cases sx with
      | false =>
        have hx := HX.out
        rw [if_pos HSX.out] at hx
        have HX := Lib.hid hx
        have H2 := Lib.hid (And.intro (HS.out.2.2.1.fr lawE (F1.comp (Fr.of_nil f2)) (fun b q => by omega)) (And.intro (H1.out.1.fr f2) (hw.comp (F1.comp (Fr.of_nil f2)))))
        clear hx f2
        go_wp2
        go_ret
        rw [← HX.out]
        exact ⟨v, rfl, H2.out.1, H2.out.2.1, H2.out.2.2⟩
      | true =>
        have hlt := sees_lt HSX.out
        have hx := HX.out
        rw [if_neg (by rw [HSX.out]; decide)] at hx
        have hT : measP L (needF L [41] (ex { st with at_ := st.at_ + 1 }).2) < measP L st := measP_lt HST.out.2.1 hlt ((HP.out.2.2.2.2 _).trans (need_goes _ _))
        have HST2 := Lib.hid (And.intro hx (show measP L (needF L [41] (ex { st with at_ := st.at_ + 1 }).2) + 1 ≤ f from by have := HS.out.2.1; omega))
        have h2 := H1.out.1.fr f2
        obtain ⟨p0, p1, p2, p3, pf, pl⟩ := h2.facts
        have hszL := h2.sz
        have j2 : IntKind.i64.wrap ((st.at_ : Int) + 1) = (st.at_ : Int) + 1 := by rw [IntKind.wrap_i64]; omega
        go_upto_region 8 with fail
        obtain ⟨V, hV⟩ : ∃ V, w2.setCell ⟨pb, 1, none⟩ (.int .i64 ((st.at_ : Int) + 1)) = V := ⟨_, rfl⟩
        rw [hV]
        have fV : Fr (fun b => b = pb) w2 V := by rw [← hV]; (repeat (first | (with_reducible exact Fr.refl _ _) | (with_reducible assumption) | (with_reducible exact Fr.of_nil (by assumption)) | (with_reducible refine Fr.drew ?_) | (with_reducible refine Fr.drewN ?_ _) | (with_reducible refine Fr.alloc ?_ _) | (with_reducible refine Fr.set ?_ _ _ (by first | (intro _; exact rfl) | (intro _; exact .inl rfl) | (intro _; exact .inr rfl) | (intro q; exact absurd q (Nat.lt_irrefl _)) | (intro q; simp at q; omega))) | (with_reducible refine Fr.via ?_ (by assumption)) | (with_reducible refine Fr.comp ?_ (by assumption))))
        have bV : Blk V pb #[vT, .int .i64 ((st.at_ : Int) + 1), .int .i64 (st.e : Int), .int .i64 (st.line : Int)] 85 := by
          rw [← hV]
          (unfold Blk; simp (disch := first | omega | (simp; done) | (simp; omega)) only [hp_drew, hp_drewN, hp_alloc, hp_other, hp_same, hp_new, upd_cells, Option.map_some, (h2.blk).eq])
          simp
        have hPV : PAt V pb vT L { st with at_ := st.at_ + 1 } := h2.to fV bV hlt
        have FV : Fr (fun b => b = pb) wr V := F1.comp ((Fr.of_nil f2).comp fV)
        have bEV := fV.blk (f2.blk H1.out.2 (fun q => q)) hne
        have hVs := FV.size
        have hEV := bEV.lt
        have HV := Lib.hid (And.intro hPV bEV)
        clear hV fV bV hPV bEV h2 f2 p0 p1 p2 p3 pf pl hx hT
        go_wp2_with fail
        refine (HP.out.2.2.2.1 _ _ HV.out.1).mono ?_
        rintro e w3 ⟨ve, rfl, he, h3, f3⟩
        obtain ⟨cs, rfl, hE⟩ := he
        obtain ⟨k, nm, fl, bi, a0, n0, c0, a1, n1, c1, a2, n2, c2, a3, n3, c3, rfl⟩ := hE.form
        have bE3 := f3.blk HV.out.2 hne
        have F3 := FV.comp f3
        have H3 := Lib.hid (And.intro h3 hE)
        have Ec := bE3.cell
        have Ef := bE3.free
        have El := bE3.lt
        clear h3 hE f3
        unfold eC
        go_upto_region 9 with fail
        obtain ⟨W, hW⟩ : ∃ W, ((((((((w3).setCell ⟨Te, 0, none⟩ (.int .i64 (k : Int))).setCell ⟨Te, 1, none⟩ (.string nm)).setCell ⟨Te, 2, none⟩ (.bool fl)).setCell ⟨Te, 3, none⟩ (.int .u64 (bi : Int))).setCell ⟨Te, 4, none⟩ (.slice a0 n0 c0)).setCell ⟨Te, 5, none⟩ (.slice a1 n1 c1)).setCell ⟨Te, 6, none⟩ (.slice a2 n2 c2)).setCell ⟨Te, 7, none⟩ (.slice a3 n3 c3) = W := ⟨_, rfl⟩
        rw [hW]
        have GW : Fr (fun b => b = Te) w3 W := by rw [← hW]; (repeat (first | (with_reducible exact Fr.refl _ _) | (with_reducible assumption) | (with_reducible exact Fr.of_nil (by assumption)) | (with_reducible refine Fr.drew ?_) | (with_reducible refine Fr.drewN ?_ _) | (with_reducible refine Fr.alloc ?_ _) | (with_reducible refine Fr.set ?_ _ _ (by first | (intro _; exact rfl) | (intro _; exact .inl rfl) | (intro _; exact .inr rfl) | (intro q; exact absurd q (Nat.lt_irrefl _)) | (intro q; simp at q; omega))) | (with_reducible refine Fr.via ?_ (by assumption)) | (with_reducible refine Fr.comp ?_ (by assumption))))
        have FW : Fr (fun b => b = pb) wr W := by rw [← hW]; (repeat (first | (with_reducible exact Fr.refl _ _) | (with_reducible assumption) | (with_reducible exact Fr.of_nil (by assumption)) | (with_reducible refine Fr.drew ?_) | (with_reducible refine Fr.drewN ?_ _) | (with_reducible refine Fr.alloc ?_ _) | (with_reducible refine Fr.set ?_ _ _ (by first | (intro _; exact rfl) | (intro _; exact .inl rfl) | (intro _; exact .inr rfl) | (intro q; exact absurd q (Nat.lt_irrefl _)) | (intro q; simp at q; omega))) | (with_reducible refine Fr.via ?_ (by assumption)) | (with_reducible refine Fr.comp ?_ (by assumption))))
        have bW : Blk W Te #[.int .i64 (k : Int), .string nm, .bool fl, .int .u64 (bi : Int), .slice a0 n0 c0, .slice a1 n1 c1, .slice a2 n2 c2, .slice a3 n3 c3] 32 := by
          rw [← hW]
          (unfold Blk; simp (disch := first | omega | (simp; done) | (simp; omega)) only [hp_drew, hp_drewN, hp_alloc, hp_other, hp_same, hp_new, upd_cells, Option.map_some, (bE3).eq]) <;> simp
        have hPW := HP.out.1.keep (hw.comp FW) H3.out.1 GW (fun q => hne q.symm)
        have hEW := H3.out.2.fr GW (fun b q => by have q' : b = Te := q; omega)
        clear hW Ec Ef El bE3 F3
        go_wp2_with fail
        refine (pneed_any [41] hPW).mono ?_
        rintro e w4 ⟨rfl, h4, f4⟩
        have FX := FW.comp f4
        have bX := f4.blk bW hne
        have hEX : EAt (fun b => b < w.heap.size ∨ v.ownBlock = some b) w4 (eC k nm fl bi a0 n0 c0 a1 n1 c1 a2 n2 c2 a3 n3 c3) _ := (hEW.fr f4 (fun b q => by have q' : b = pb := q; omega)).mono (fun b _ q => by rcases q with q | q; omega; have := (HCL.out.2 b q).2; omega)
        have HX4 := Lib.hid (And.intro h4 (And.intro FX hEX))
        have hWs := FX.size
        have Ec := bX.cell
        have Ef := bX.free
        have El := bX.lt
        clear bW bX FW GW hPW hEW FX h4 hEX f4
        go_wp2_with (first
          | (at_builtin; refine wpList_push (w := w4) rfl (.tmp 56) (.tmp 58) 29 rfl w.heap.size 32 i0 (.agg #[.int .i64 0, .string ⟨#[]⟩, .bool false, .int .u64 0, .slice none 0 0, .slice none 0 0, .slice none 0 0, .slice none 0 0]) 8 136 Try.underlying29 hi hz0 hz1 hz2 rfl (by decide) v acc.length cl rfl (owns_frS HCL.out.1 HX4.out.2.1 (fun k q e => by have := (HCL.out.2 k q).1; omega)) [.int .i64 (k : Int), .string nm, .bool fl, .int .u64 (bi : Int), .slice a0 n0 c0, .slice a1 n1 c1, .slice a2 n2 c2, .slice a3 n3 c3] rfl rfl (by simp [Value.oneCell']) (by unfold maxLen; omega) (by omega) (by omega) ?_; intro v' w9 hown9 f9 hk9; have HO := Lib.hid (And.intro hown9 (And.intro f9 hk9)); clear hown9 f9 hk9)
          | fail)
        have E := push_end (Te := Te) (a := (ex { st with at_ := st.at_ + 1 }).1) lawE HP.out.1 hw HS.out.2.2.1 HX4.out.2.1 HX4.out.1 (Fr.refl _ _) hne HX4.out.2.2 (owns_frS HCL.out.1 HX4.out.2.1 (fun k q e => by have := (HCL.out.2 k q).1; omega)) HO.out.1 HO.out.2.1 HO.out.2.2
        go_roundg f
        case rel => exact ⟨acc ++ [(ex { st with at_ := st.at_ + 1 }).1], _, v', rfl, by simp; omega, Lib.hid ⟨HST2.out.1, HST2.out.2, E.1, E.2.1⟩, E.2.2⟩
        case measure => omega
    · have hst := HS.out.1
      rw [hf] at hst
      unfold atomsF at hst
      rw [if_pos (by simpa using he)] at hst
      have i2 : ¬ (st.e : Int) = 0 := by omega
      have d3 : ((st.e : Int) == 0) = false := by simpa using i2
      have HX := Lib.hid hst
      clear hst
      go_wp2
      go_ret
      rw [← HX.out]
      exact ⟨v, rfl, HS.out.2.2.1, HS.out.2.2.2, hw⟩
end
end Go.Proofs.Ythpenpgcacikaaa
