/-
  The law StackPlays: whatever is pushed, popped and scanned. No conditions.
-/
import Derived.Test.YtncncoakibilcaaStack17
import Derived.Test.YtncncoakibilcaaL15
import Derived.Deep.DeepCutAuto
namespace Go.Proofs.Ytncncoakibilcaa
set_option linter.unusedSimpArgs false
set_option linter.unusedVariables false
open Go.RowKit

theorem stepS_td {room td td' : Nat} {x : ActF} {l l' : List FrameV} {tv : TV} (h : StepS room x l td l' td' tv) (htd : td ≤ l.length) : td' ≤ l'.length := by
  cases h <;> simp_all <;> omega
theorem stepS_words {room td td' : Nat} {x : ActF} {l l' : List FrameV} {tv : TV} (h : StepS room x l td l' td' tv) (hl : ∀ f ∈ l, f.words.length ≤ 5000) : tv.f.words.length ≤ 5000 := by
  cases h with
  | popSome _ hk _ => exact hl _ (List.mem_of_getElem? hk)
  | topSome _ hk _ => exact hl _ (List.mem_of_getElem? hk)
  | scanSome _ _ _ _ hk => exact hl _ (List.mem_of_getElem? hk)
  | _ => simp [tv0, noF]
/-- The blocks that both stacks turn. -/
def XS (bs br : Nat) (w : World) : Nat → Prop := fun b => b = bs ∨ b = br ∨ TB w br b
theorem TB.lt {w : World} {br b : Nat} {X : Nat → Prop} {l : List FrameV} {room td : Nat} (h : RefAt X w br l room td) (q : TB w br b) : b < w.heap.size ∧ br < b ∧ ¬ X b := by
  obtain ⟨⟨v, u, h1, h2, h3, h4⟩, _⟩ := h
  obtain ⟨z, e1, e2⟩ := q
  have c : w.cell? ⟨br, 1, none⟩ = some u := by simpa using h1.cell 1
  rw [c] at e1
  cases e1
  have := h3.lt b e2
  exact ⟨this.2, by omega, h4 b e2⟩
theorem TB.same {w w' : World} {br b : Nat} {S : Nat → Prop} (f : Fr S w w') (hb : br < w.heap.size) (hn : ¬ S br) : TB w' br b ↔ TB w br b := by
  unfold TB
  rw [(f.atS br hb hn).1 1]
/-- Behind Do the other stack is as it was. -/
theorem stack_turn {bs br room td : Nat} {w w' : World} {l : List FrameV} (h : StackAt (XS bs br w) w bs l room td) (t : Turn br w w') (hne : bs ≠ br) (hT : ∀ b, TB w br b → b ≠ bs) : StackAt (XS bs br w') w' bs l room td := by
  have h1 : StackAt (fun b => XS bs br w b ∨ w.heap.size ≤ b) w bs l room td := h.mono (fun b hb q => q.elim id (fun q => by omega)) (.inl (.inl rfl))
  have h2 := h1.fr t.fr (fun b _ q => .inl (.inr q)) (fun q => q.elim hne (fun q => hT bs q rfl))
  exact h2.mono (fun b _ q => by
    rcases q with q | q | q
    · exact .inl (.inl q)
    · exact .inl (.inr (.inl q))
    · exact (t.tb b q).elim (fun q => .inl (.inr (.inr q))) .inr) (.inl rfl)

theorem XS.lt {bs br : Nat} {w w' : World} (h1 : bs < w.heap.size) (h2 : br < w.heap.size) (h3 : ∀ b, TB w br b → b < w.heap.size ∧ br < b ∧ ¬ b = bs) (f : Fr Nil w w') : ∀ b, XS bs br w b → b < w'.heap.size := fun b q => by
  have := f.size
  rcases q with q | q | q
  · omega
  · omega
  · have := h3 b q; omega
theorem XS.above {B bs br : Nat} {w w' : World} (h1 : B ≤ bs) (h2 : B ≤ br) (h3 : ∀ b, TB w br b → b < w.heap.size ∧ br < b ∧ ¬ b = bs) : ∀ b, b < w'.heap.size → XS bs br w b → B ≤ b := fun b _ q => by
  rcases q with q | q | q
  · omega
  · omega
  · have := h3 b q; omega

set_option maxRecDepth 100000 in
set_option maxHeartbeats 60000000 in
theorem plays_in (m : Nat) (v : Value) (l : List ActF) (w : World) (h : RowFrames w v l) (hlen : l.length ≤ 9223372036854775807) (hfew : fewB l = true) (hm : m ≤ 4096) :
    Calls Try.prog 6 #[.int .i64 m, v] w fun e w' => e = .returned (.bool true) ∧ Fr Nil w w' := by
  have hrow := h
  obtain ⟨h100, hshort⟩ := few_short hfew
  obtain ⟨a, cap, rfl, hc⟩ := h
  have hm' : (m : Int) ≤ 4096 := by omega
  go_enter Try.func6, Try.ntmps6
  go_wp2_with fail
  refine (awake_any _).mono ?_
  rintro e w1 ⟨rfl, f1⟩
  go_wp2_with fail
  refine (few_any _ l w1 (hrow.fr f1) hlen).mono ?_
  rintro e w2 ⟨rfl, rfl⟩
  rw [hfew]
  go_wp2_with fail
  refine (snew_in m _ (by omega) (by omega) (fun _ => False)).mono ?_
  rintro e w3 ⟨rfl, st, f3⟩
  obtain ⟨bs, hbs⟩ : ∃ bs, bs = w1.heap.size := ⟨_, rfl⟩
  rw [← hbs] at st
  rw [← hbs]
  simp at st
  have hB : w.heap.size ≤ bs := by rw [hbs]; exact f1.size
  have ff := f1.comp f3
  have hbsl := st.lt
  clear f1 f3 hbs
  have ST := Lib.hid st
  clear st
  go_wp2_with fail
  obtain ⟨br, hbr⟩ : ∃ br, br = w3.heap.size := ⟨_, rfl⟩
  obtain ⟨W, hW⟩ : ∃ W, W = w3.alloc (.cells #[.slice none 0 0, .slice none 0 0, .int .i64 m] 54) := ⟨_, rfl⟩
  have r0 : Blk W br #[.slice none 0 0, .slice none 0 0, .int .i64 m] 54 := by rw [hW, hbr]; (unfold Blk; simp (disch := first | omega | (simp; done) | (simp; omega)) only [hp_drew, hp_drewN, hp_alloc, hp_other, hp_same, hp_new, upd_cells, Option.map_some])
  have fW3 : Fr Nil w3 W := by rw [hW]; (repeat (first | (with_reducible exact Fr.refl _ _) | (with_reducible assumption) | (with_reducible exact Fr.of_nil (by assumption)) | (with_reducible refine Fr.drew ?_) | (with_reducible refine Fr.drewN ?_ _) | (with_reducible refine Fr.alloc ?_ _) | (with_reducible refine Fr.set ?_ _ _ (by first | (intros; omega) | (simp; done) | (simp; omega))) | (with_reducible refine Fr.via ?_ (by assumption)) | (with_reducible refine Fr.comp ?_ (by assumption))))
  rw [← hW, ← hbr]
  have hne : bs ≠ br := by omega
  have hne' : br ≠ bs := by omega
  have hBr : w.heap.size ≤ br := by omega
  have fW : Fr Nil w W := ff.comp fW3
  have hrf0 : RefAt (fun b => b = bs) W br [] m 0 := ⟨⟨_, _, r0, .inl ⟨rfl, rfl⟩, World.ownsRow_nil W _ _ _, fun b e => by cases e⟩, hne', Nat.zero_le _, by simp [usedOf], hm, by simp⟩
  have hst0 : StackAt (XS bs br W) W bs [] m 0 := (ST.out.mono (Y := XS bs br W) (fun b hb q => by
    rcases q with q | q | ⟨u, hu, hu'⟩
    · exact q
    · omega
    · have c1 := r0.cell 1
      simp at c1
      rw [c1] at hu
      cases hu
      cases hu') (.inl rfl)).fr fW3 (fun _ _ q => q.elim) (by simp [Nil])
  clear hW hbr ff fW3 r0 ST
  go_loopw [8] (fun i wr => ∃ (j td : Nat) (ls : List FrameV), j ≤ l.length ∧ i = .int .i64 j ∧ StackAt (XS bs br wr) wr bs ls m td ∧ RefAt (fun b => b = bs) wr br ls m td ∧ Fr Nil w wr) (fun i _ => l.length - (intOf i).toNat)
  case atStart => exact ⟨0, 0, [], Nat.zero_le _, rfl, hst0, hrf0, fW⟩
  case round =>
    obtain ⟨j, td, ls, hj, rfl, hst, hrf, hf⟩ := hrel
    clear hst0 hrf0 fW
    by_cases hlt : j < l.length
    · obtain ⟨b, o, rfl, hcells⟩ := hc (by omega)
      obtain ⟨x, hx⟩ : ∃ x, l[j]? = some x := ⟨_, List.getElem?_eq_getElem hlt⟩
      obtain ⟨e0, e1, e2, hwl, u, e3, hru⟩ := hcells j x hx
      have hi0 : IntsAt (fun b => w.heap.size ≤ b) w u x.f.words := IntsAt.of_row hru (fun b hb => by omega)
      obtain ⟨a', cap', rfl, _⟩ := hru
      have hxl := hshort j x hx
      have k0 := hf.cell e0 (by simp [Nil])
      have k1 := hf.cell e1 (by simp [Nil])
      have k2 := hf.cell e2 (by simp [Nil])
      have k3 := hf.cell e3 (by simp [Nil])
      have hbl : b < w.heap.size := World.block_lt_of_cell? _ _ e1
      have b1 : (0 : Int) ≤ (j : Int) := by omega
      have b2 : (j : Int) < (l.length : Int) := by omega
      have hbb : b ≠ bs := by omega
      obtain ⟨ls', td', tv, hstep⟩ := stepS_ex m x ls td hrf.htodo
      have HSTEP := Lib.hid hstep
      have hsl := stepS_words hstep hrf.hwords
      have HI := Lib.hid hi0
      have HST := Lib.hid hst
      have HRF := Lib.hid hrf
      have HTB := Lib.hid (fun b (q : TB wr br b) => TB.lt hrf q)
      have hbw := hst.lt
      have hrw := hrf.lt
      have k00 := Lib.hid e0
      have k01 := Lib.hid e1
      have k02 := Lib.hid e2
      have k03 := Lib.hid e3
      clear hcells hc hx e0 e1 e2 e3 hi0 hrow hstep hst hrf
      go_upto_if 93 with fail
      go_cut [93] (fun sv wx => sv = .bool false ∧ StackAt (XS bs br wx) wx bs ls' m td' ∧ RefAt (fun b => b = bs) wx br ls' m td' ∧ Fr Nil w wx)
      case first =>
        go_region_with (first
          | (go_at_call 18; refine (do_any (XS bs br wr) bs ls m td _ x _ ls' td' tv HSTEP.out ((HI.out.fr (S := Nil) (by (repeat (first | (with_reducible exact Fr.refl _ _) | (with_reducible assumption) | (with_reducible exact Fr.of_nil (by assumption)) | (with_reducible refine Fr.drew ?_) | (with_reducible refine Fr.drewN ?_ _) | (with_reducible refine Fr.alloc ?_ _) | (with_reducible refine Fr.set ?_ _ _ (by first | (intros; omega) | (simp; done) | (simp; omega))) | (with_reducible refine Fr.via ?_ (by assumption)) | (with_reducible refine Fr.comp ?_ (by assumption))))) (fun _ _ q => q.elim)).mono (XS.above hB hBr HTB.out)) hxl (XS.lt hbw hrw HTB.out (by (repeat (first | (with_reducible exact Fr.refl _ _) | (with_reducible assumption) | (with_reducible exact Fr.of_nil (by assumption)) | (with_reducible refine Fr.drew ?_) | (with_reducible refine Fr.drewN ?_ _) | (with_reducible refine Fr.alloc ?_ _) | (with_reducible refine Fr.set ?_ _ _ (by first | (intros; omega) | (simp; done) | (simp; omega))) | (with_reducible refine Fr.via ?_ (by assumption)) | (with_reducible refine Fr.comp ?_ (by assumption)))))) (HST.out.fr (S := Nil) (by (repeat (first | (with_reducible exact Fr.refl _ _) | (with_reducible assumption) | (with_reducible exact Fr.of_nil (by assumption)) | (with_reducible refine Fr.drew ?_) | (with_reducible refine Fr.drewN ?_ _) | (with_reducible refine Fr.alloc ?_ _) | (with_reducible refine Fr.set ?_ _ _ (by first | (intros; omega) | (simp; done) | (simp; omega))) | (with_reducible refine Fr.via ?_ (by assumption)) | (with_reducible refine Fr.comp ?_ (by assumption))))) (fun _ _ q => q.elim) (by simp [Nil]))).mono ?_; rintro e w7 ⟨vf, rfl, hvf, st7, f7⟩; have f7' : Fr (fun b => b = bs) wr w7 := Fr.trans (by (repeat (first | (with_reducible exact Fr.refl _ _) | (with_reducible assumption) | (with_reducible exact Fr.of_nil (by assumption)) | (with_reducible refine Fr.drew ?_) | (with_reducible refine Fr.drewN ?_ _) | (with_reducible refine Fr.alloc ?_ _) | (with_reducible refine Fr.set ?_ _ _ (by first | (intros; omega) | (simp; done) | (simp; omega))) | (with_reducible refine Fr.via ?_ (by assumption)) | (with_reducible refine Fr.comp ?_ (by assumption))))) f7 (fun _ _ q => q); have k70 := f7'.cell k0 (fun q => hbb q); have k71 := f7'.cell k1 (fun q => hbb q); have k72 := f7'.cell k2 (fun q => hbb q); have k73 := f7'.cell k3 (fun q => hbb q); have RF7 := Lib.hid (HRF.out.fr f7' (fun _ _ q => q)); have HTS := Lib.hid (fun c => TB.same (b := c) f7' hrw hne'); obtain ⟨af, cf, rfl, hvf'⟩ := hvf; have HVF := Lib.hid (show IntsAt (XS bs br wr) w7 (.slice af tv.f.words.length cf) tv.f.words from ⟨af, cf, rfl, hvf'⟩); have HI7 := Lib.hid (HI.out.fr (hf.of_nil.comp f7') (fun b _ q => by have q' : b = bs := q; omega)); have hrw7 := f7'.lt hrw; have hbw7 := f7'.lt hbw; have f07 := hf.of_nil.comp f7'; have ST7 := Lib.hid st7; clear hvf' st7 f7)
          | (go_at_call 23; refine (rdo_any (fun b => b = bs) br ls m td _ x _ ls' td' tv HSTEP.out ((HI7.out.fr (S := Nil) (by (repeat (first | (with_reducible exact Fr.refl _ _) | (with_reducible assumption) | (with_reducible exact Fr.of_nil (by assumption)) | (with_reducible refine Fr.drew ?_) | (with_reducible refine Fr.drewN ?_ _) | (with_reducible refine Fr.alloc ?_ _) | (with_reducible refine Fr.set ?_ _ _ (by first | (intros; omega) | (simp; done) | (simp; omega))) | (with_reducible refine Fr.via ?_ (by assumption)) | (with_reducible refine Fr.comp ?_ (by assumption))))) (fun _ _ q => q.elim)).mono (fun b _ q => by have q' : b = bs ∨ b = br := q; omega)) hxl (fun b q => by have q' : b = bs := q; rw [q']; exact hbw7) (RF7.out.fr (S := Nil) (by (repeat (first | (with_reducible exact Fr.refl _ _) | (with_reducible assumption) | (with_reducible exact Fr.of_nil (by assumption)) | (with_reducible refine Fr.drew ?_) | (with_reducible refine Fr.drewN ?_ _) | (with_reducible refine Fr.alloc ?_ _) | (with_reducible refine Fr.set ?_ _ _ (by first | (intros; omega) | (simp; done) | (simp; omega))) | (with_reducible refine Fr.via ?_ (by assumption)) | (with_reducible refine Fr.comp ?_ (by assumption))))) (fun _ _ q => q.elim))).mono ?_; rintro e w8 ⟨vr, rfl, hvr, rf8, t8⟩; have t8' : Turn br w7 w8 := ⟨Fr.trans (by (repeat (first | (with_reducible exact Fr.refl _ _) | (with_reducible assumption) | (with_reducible exact Fr.of_nil (by assumption)) | (with_reducible refine Fr.drew ?_) | (with_reducible refine Fr.drewN ?_ _) | (with_reducible refine Fr.alloc ?_ _) | (with_reducible refine Fr.set ?_ _ _ (by first | (intros; omega) | (simp; done) | (simp; omega))) | (with_reducible refine Fr.via ?_ (by assumption)) | (with_reducible refine Fr.comp ?_ (by assumption))))) t8.fr (fun _ _ q => q), t8.tb⟩; have st8 := stack_turn (ST7.out.mono (Y := XS bs br w7) (fun b _ q => q.elim .inl (fun q => q.elim (fun q => .inr (.inl q)) (fun q => .inr (.inr ((HTS.out b).1 q))))) (.inl rfl)) t8' hne (fun b q => (HTB.out b ((HTS.out b).1 q)).2.2); have VF8 := Lib.hid ((HVF.out.fr t8'.fr (fun b _ q => q.elim (fun q => .inr (.inl q)) (fun q => .inr (.inr ((HTS.out b).1 q))))).mono (Y := Nil) (fun _ _ q => (show False from q).elim)); obtain ⟨ar, cr, rfl, hvr'⟩ := hvr; have VR8 := Lib.hid ((show IntsAt (fun b => b = bs) w8 (.slice ar tv.f.words.length cr) tv.f.words from ⟨ar, cr, rfl, hvr'⟩).mono (Y := Nil) (fun _ _ q => (show False from q).elim)); have f08 : Fr Nil w w8 := f07.trans t8'.fr (fun k hk q => (show k = br ∨ TB w7 br k from q).elim (fun q' => by omega) (fun q' => by have := HTB.out k ((HTS.out k).1 q'); omega)) |>.mono (fun k hk q => by have q' : k = bs := q; omega); have k80 := f08.cell (a := ⟨b, o + j * 4, none⟩) k00.out (by simp [Nil]); have k81 := f08.cell (a := ⟨b, o + j * 4 + 1, none⟩) k01.out (by simp [Nil]); have k82 := f08.cell (a := ⟨b, o + j * 4 + 2, none⟩) k02.out (by simp [Nil]); have k83 := f08.cell (a := ⟨b, o + j * 4 + 3, none⟩) k03.out (by simp [Nil]); have ST8 := Lib.hid st8; have RF8 := Lib.hid rf8; have hbw8 := st8.lt; have hrw8 := rf8.lt; clear hvr' st8 rf8 t8 t8')
          | (go_at_call 22; refine (told_same Nil tv _ _ _ (VF8.out.fr (S := Nil) (by (repeat (first | (with_reducible exact Fr.refl _ _) | (with_reducible assumption) | (with_reducible exact Fr.of_nil (by assumption)) | (with_reducible refine Fr.drew ?_) | (with_reducible refine Fr.drewN ?_ _) | (with_reducible refine Fr.alloc ?_ _) | (with_reducible refine Fr.set ?_ _ _ (by first | (intros; omega) | (simp; done) | (simp; omega))) | (with_reducible refine Fr.via ?_ (by assumption)) | (with_reducible refine Fr.comp ?_ (by assumption))))) (fun _ _ q => q.elim)) (VR8.out.fr (S := Nil) (by (repeat (first | (with_reducible exact Fr.refl _ _) | (with_reducible assumption) | (with_reducible exact Fr.of_nil (by assumption)) | (with_reducible refine Fr.drew ?_) | (with_reducible refine Fr.drewN ?_ _) | (with_reducible refine Fr.alloc ?_ _) | (with_reducible refine Fr.set ?_ _ _ (by first | (intros; omega) | (simp; done) | (simp; omega))) | (with_reducible refine Fr.via ?_ (by assumption)) | (with_reducible refine Fr.comp ?_ (by assumption))))) (fun _ _ q => q.elim)) hsl).mono ?_; rintro e w9 ⟨rfl, f9⟩; have f89 : Fr Nil w8 w9 := Fr.trans (by (repeat (first | (with_reducible exact Fr.refl _ _) | (with_reducible assumption) | (with_reducible exact Fr.of_nil (by assumption)) | (with_reducible refine Fr.drew ?_) | (with_reducible refine Fr.drewN ?_ _) | (with_reducible refine Fr.alloc ?_ _) | (with_reducible refine Fr.set ?_ _ _ (by first | (intros; omega) | (simp; done) | (simp; omega))) | (with_reducible refine Fr.via ?_ (by assumption)) | (with_reducible refine Fr.comp ?_ (by assumption))))) f9 (fun _ _ q => q); have ST9 := Lib.hid (ST8.out.fr f89 (fun _ _ q => q.elim) (by simp [Nil])); have rf9 := RF8.out.fr f89 (fun _ _ q => q.elim); have RF9 := Lib.hid rf9; have hll : ls'.length ≤ 5000 := (by have := usedOf_len ls'; have := rf9.hused; have := rf9.hroom; omega); have HWS := Lib.hid rf9.hwords; obtain ⟨⟨vL, uL, r1, hFL, _⟩, _⟩ := rf9; obtain ⟨avL, capL, rfl⟩ := hFL.form; have d9 := r1.cell 0; simp at d9; have FL := Lib.hid (hFL.mono (Y := Nil) (fun _ _ q => (show False from q).elim)); have hrw9 := r1.lt; have k90 := f89.cell k80 (by simp [Nil]); have k91 := f89.cell k81 (by simp [Nil]); have k92 := f89.cell k82 (by simp [Nil]); have k93 := f89.cell k83 (by simp [Nil]); clear r1 hFL f9)
          | (go_at_call 12; refine (slen_any (XS bs br w8) bs ls' m td' _ (ST9.out.fr (S := Nil) (by (repeat (first | (with_reducible exact Fr.refl _ _) | (with_reducible assumption) | (with_reducible exact Fr.of_nil (by assumption)) | (with_reducible refine Fr.drew ?_) | (with_reducible refine Fr.drewN ?_ _) | (with_reducible refine Fr.alloc ?_ _) | (with_reducible refine Fr.set ?_ _ _ (by first | (intros; omega) | (simp; done) | (simp; omega))) | (with_reducible refine Fr.via ?_ (by assumption)) | (with_reducible refine Fr.comp ?_ (by assumption))))) (fun _ _ q => q.elim) (by simp [Nil]))).mono ?_; rintro e wq ⟨rfl, rfl⟩)
          | (go_at_call 11; refine (sused_any (XS bs br w8) bs ls' m td' _ (ST9.out.fr (S := Nil) (by (repeat (first | (with_reducible exact Fr.refl _ _) | (with_reducible assumption) | (with_reducible exact Fr.of_nil (by assumption)) | (with_reducible refine Fr.drew ?_) | (with_reducible refine Fr.drewN ?_ _) | (with_reducible refine Fr.alloc ?_ _) | (with_reducible refine Fr.set ?_ _ _ (by first | (intros; omega) | (simp; done) | (simp; omega))) | (with_reducible refine Fr.via ?_ (by assumption)) | (with_reducible refine Fr.comp ?_ (by assumption))))) (fun _ _ q => q.elim) (by simp [Nil]))).mono ?_; rintro e wq ⟨rfl, rfl⟩)
          | (go_at_call 15; refine (sleft_any (XS bs br w8) bs ls' m td' _ (ST9.out.fr (S := Nil) (by (repeat (first | (with_reducible exact Fr.refl _ _) | (with_reducible assumption) | (with_reducible exact Fr.of_nil (by assumption)) | (with_reducible refine Fr.drew ?_) | (with_reducible refine Fr.drewN ?_ _) | (with_reducible refine Fr.alloc ?_ _) | (with_reducible refine Fr.set ?_ _ _ (by first | (intros; omega) | (simp; done) | (simp; omega))) | (with_reducible refine Fr.via ?_ (by assumption)) | (with_reducible refine Fr.comp ?_ (by assumption))))) (fun _ _ q => q.elim) (by simp [Nil]))).mono ?_; rintro e wq ⟨rfl, rfl⟩)
          | (go_at_call 24; refine (rused_any (fun b => b = bs) br ls' m td' _ (RF9.out.fr (S := Nil) (by (repeat (first | (with_reducible exact Fr.refl _ _) | (with_reducible assumption) | (with_reducible exact Fr.of_nil (by assumption)) | (with_reducible refine Fr.drew ?_) | (with_reducible refine Fr.drewN ?_ _) | (with_reducible refine Fr.alloc ?_ _) | (with_reducible refine Fr.set ?_ _ _ (by first | (intros; omega) | (simp; done) | (simp; omega))) | (with_reducible refine Fr.via ?_ (by assumption)) | (with_reducible refine Fr.comp ?_ (by assumption))))) (fun _ _ q => q.elim))).mono ?_; rintro e wq ⟨rfl, rfl⟩)
          | (go_at_call 25; refine (rleft_any (fun b => b = bs) br ls' m td' _ (RF9.out.fr (S := Nil) (by (repeat (first | (with_reducible exact Fr.refl _ _) | (with_reducible assumption) | (with_reducible exact Fr.of_nil (by assumption)) | (with_reducible refine Fr.drew ?_) | (with_reducible refine Fr.drewN ?_ _) | (with_reducible refine Fr.alloc ?_ _) | (with_reducible refine Fr.set ?_ _ _ (by first | (intros; omega) | (simp; done) | (simp; omega))) | (with_reducible refine Fr.via ?_ (by assumption)) | (with_reducible refine Fr.comp ?_ (by assumption))))) (fun _ _ q => q.elim))).mono ?_; rintro e wq ⟨rfl, rfl⟩)
          | (go_at_call 20; refine (list_any (XS bs br w8) bs ls' m td' _ (ST9.out.fr (S := Nil) (by (repeat (first | (with_reducible exact Fr.refl _ _) | (with_reducible assumption) | (with_reducible exact Fr.of_nil (by assumption)) | (with_reducible refine Fr.drew ?_) | (with_reducible refine Fr.drewN ?_ _) | (with_reducible refine Fr.alloc ?_ _) | (with_reducible refine Fr.set ?_ _ _ (by first | (intros; omega) | (simp; done) | (simp; omega))) | (with_reducible refine Fr.via ?_ (by assumption)) | (with_reducible refine Fr.comp ?_ (by assumption))))) (fun _ _ q => q.elim) (by simp [Nil]))).mono ?_; rintro e w10 ⟨vo, rfl, ho, f10⟩; have fo := ho.frames; obtain ⟨ao, co, rfl⟩ := fo.form; have FO := Lib.hid fo; have f910 : Fr Nil w9 w10 := Fr.trans (by (repeat (first | (with_reducible exact Fr.refl _ _) | (with_reducible assumption) | (with_reducible exact Fr.of_nil (by assumption)) | (with_reducible refine Fr.drew ?_) | (with_reducible refine Fr.drewN ?_ _) | (with_reducible refine Fr.alloc ?_ _) | (with_reducible refine Fr.set ?_ _ _ (by first | (intros; omega) | (simp; done) | (simp; omega))) | (with_reducible refine Fr.via ?_ (by assumption)) | (with_reducible refine Fr.comp ?_ (by assumption))))) f10 (fun _ _ q => q); have d10 := f910.cell d9 (by simp [Nil]); have kA0 := f910.cell k90 (by simp [Nil]); have kA1 := f910.cell k91 (by simp [Nil]); have kA2 := f910.cell k92 (by simp [Nil]); have kA3 := f910.cell k93 (by simp [Nil]); clear fo ho f10)
          | (go_at_call 26; refine (same_list ls' _ _ _ (FO.out.fr (S := Nil) (by (repeat (first | (with_reducible exact Fr.refl _ _) | (with_reducible assumption) | (with_reducible exact Fr.of_nil (by assumption)) | (with_reducible refine Fr.drew ?_) | (with_reducible refine Fr.drewN ?_ _) | (with_reducible refine Fr.alloc ?_ _) | (with_reducible refine Fr.set ?_ _ _ (by first | (intros; omega) | (simp; done) | (simp; omega))) | (with_reducible refine Fr.via ?_ (by assumption)) | (with_reducible refine Fr.comp ?_ (by assumption))))) (fun _ _ q => q.elim)) ((FL.out.fr f910 (fun _ _ q => q.elim)).fr (S := Nil) (by (repeat (first | (with_reducible exact Fr.refl _ _) | (with_reducible assumption) | (with_reducible exact Fr.of_nil (by assumption)) | (with_reducible refine Fr.drew ?_) | (with_reducible refine Fr.drewN ?_ _) | (with_reducible refine Fr.alloc ?_ _) | (with_reducible refine Fr.set ?_ _ _ (by first | (intros; omega) | (simp; done) | (simp; omega))) | (with_reducible refine Fr.via ?_ (by assumption)) | (with_reducible refine Fr.comp ?_ (by assumption))))) (fun _ _ q => q.elim)) hll HWS.out).mono ?_; rintro e w11 ⟨rfl, f11⟩; have f1011 : Fr Nil w10 w11 := Fr.trans (by (repeat (first | (with_reducible exact Fr.refl _ _) | (with_reducible assumption) | (with_reducible exact Fr.of_nil (by assumption)) | (with_reducible refine Fr.drew ?_) | (with_reducible refine Fr.drewN ?_ _) | (with_reducible refine Fr.alloc ?_ _) | (with_reducible refine Fr.set ?_ _ _ (by first | (intros; omega) | (simp; done) | (simp; omega))) | (with_reducible refine Fr.via ?_ (by assumption)) | (with_reducible refine Fr.comp ?_ (by assumption))))) f11 (fun _ _ q => q); have kB0 := f1011.cell kA0 (by simp [Nil]); have kB1 := f1011.cell kA1 (by simp [Nil]); have kB2 := f1011.cell kA2 (by simp [Nil]); have kB3 := f1011.cell kA3 (by simp [Nil])))
        all_goals
          have f9V : Fr Nil w9 _ := Fr.trans f910 (Fr.trans (by (repeat (first | (with_reducible exact Fr.refl _ _) | (with_reducible assumption) | (with_reducible exact Fr.of_nil (by assumption)) | (with_reducible refine Fr.drew ?_) | (with_reducible refine Fr.drewN ?_ _) | (with_reducible refine Fr.alloc ?_ _) | (with_reducible refine Fr.set ?_ _ _ (by first | (intros; omega) | (simp; done) | (simp; omega))) | (with_reducible refine Fr.via ?_ (by assumption)) | (with_reducible refine Fr.comp ?_ (by assumption))))) f11 (fun _ _ q => q)) (fun _ _ q => q)
          have f8V := f89.comp f9V
          go_wp2_with fail
          go_meet
          refine ⟨rfl, ?_, RF9.out.fr f9V (fun _ _ q => q.elim), f08.comp f8V⟩
          exact (ST9.out.fr f9V (fun _ _ q => q.elim) (by simp [Nil])).mono (fun b _ q => q.elim .inl (fun q => q.elim (fun q => .inr (.inl q)) (fun q => .inr (.inr ((TB.same f8V hrw8 (by simp [Nil])).1 q))))) (.inl rfl)
      case rest =>
        obtain ⟨rfl, stV, rfV, fV⟩ := hcut
        obtain ⟨V, rfl⟩ : ∃ V, V = wc := ⟨_, rfl⟩
        clear k0 k1 k2 k3 hf
        go_wp2
        go_roundw
        case rel => exact ⟨j + 1, td', ls', by omega, by go_num, stV, rfV, fV⟩
        case measure => simp [intOf]; omega
    · obtain rfl : j = l.length := by omega
      have hus := hst.hused
      clear hc hrow
      go_wp2_with fail
      refine (sused_any (XS bs br wr) bs ls m td _ hst).mono ?_
      rintro e wq ⟨rfl, rfl⟩
      have hd : decide (((usedOf ls : Nat) : Int) ≤ (m : Int)) = true := by simp; omega
      go_wp2
      go_ret
      exact ⟨by simp [hus], hf⟩
end Go.Proofs.Ytncncoakibilcaa
