/-
  The laws on show (layer 9): a source's module as it is told; the document's example. Conditions: a source of at most 1000000 bytes; the tables that Go's library reads.
-/
import Derived.Test.YtpjlibbdngnnnaaDoorPsE
namespace Go.Proofs.YtpjlibbdngnnnaaDoor
set_option linter.unusedSimpArgs false
set_option linter.unusedVariables false
open Go.RowKit

theorem mval_modX {X : Nat → Prop} {w : World} {v : Value} {m : TM} (h : MVal X w v m) : ∃ c1 c2 b1 b2, v = .agg #[.slice c1 m.cons.length c2, .slice b1 m.binds.length b2] ∧ ModV X w c1 m.cons.length c2 b1 m.binds.length b2 m := by
  obtain ⟨cv, bv, ec, eb, rfl, h1, h2, h3, h4⟩ := h
  obtain ⟨ca, cc, rfl⟩ := h1.shape
  obtain ⟨ba, bc, rfl⟩ := h3.shape
  exact ⟨ca, cc, ba, bc, rfl, RowC.congr h1 (fun i hi => by rw [h2 i hi]; simp [List.getD, hi]), rfl, ⟨eb, h3, h4⟩, rfl⟩
set_option maxRecDepth 100000 in
set_option maxHeartbeats 4000000 in
/-- A source, told. -/
theorem told9_any (s : ByteArray) (w : World) (hs : s.size ≤ 1000000) {M : TM} {E1 : Int} {E2 : Nat} {nc nb : Nat} (hp : parseF s.data.toList = (M, E1, E2)) (hnc : M.cons.length = nc) (hnb : M.binds.length = nb) :
    Calls Tryd.prog 16 #[.string s] w fun r w' => ∃ c1 c2 b1 b2, r = .returned (.tuple #[.agg #[.slice c1 nc c2, .slice b1 nb b2], .bool (E1 == 0)]) ∧ ModV (fun _ => False) w' c1 nc c2 b1 nb b2 M ∧ Fr Nil w w' := by
  obtain ⟨T, hTT⟩ : ∃ T, w.heap.size = T := ⟨_, rfl⟩
  obtain ⟨W1, hW1⟩ : ∃ W1, w.alloc (.cells #[.slice none 0 0, .slice none 0 0] 26) = W1 := ⟨_, rfl⟩
  have f1 : Fr Nil w W1 := by rw [← hW1]; (repeat (first | (with_reducible exact Fr.refl _ _) | (with_reducible assumption) | (with_reducible exact Fr.of_nil (by assumption)) | (with_reducible refine Fr.drew ?_) | (with_reducible refine Fr.drewN ?_ _) | (with_reducible refine Fr.alloc ?_ _) | (with_reducible refine Fr.set ?_ _ _ (by first | (intros; omega) | (simp; done) | (simp; omega))) | (with_reducible refine Fr.via ?_ (by assumption)) | (with_reducible refine Fr.comp ?_ (by assumption))))
  have bT1 : Blk W1 T #[.slice none 0 0, .slice none 0 0] 26 := by
    rw [← hW1, ← hTT]
    exact Blk.new _ _ _
  have hP := rparse_src s W1 hs
  rw [hp] at hP
  have HP := Lib.hid hP
  have H1 := Lib.hid (And.intro f1 bT1)
  have hT1 : T < W1.heap.size := bT1.lt
  have hwT : w.heap.size ≤ T := Nat.le_of_eq hTT
  clear hP f1 bT1 hp
  go_enter Tryd.func16, Tryd.ntmps16
  go_wp2_with fail
  try rw [hTT]
  try rw [hW1]
  clear hTT hW1
  refine HP.out.mono ?_
  rintro e w2 ⟨v, rfl, hm, f2⟩
  obtain ⟨c1, c2, b1, b2, rfl, hm2⟩ := mval_modX hm
  rw [hnc, hnb] at hm2
  rw [hnc, hnb]
  have bT2 := f2.blk H1.out.2 (fun q => q)
  have Tc0 := bT2.cell 0
  have Tc1 := bT2.cell 1
  simp at Tc0 Tc1
  have Tf := bT2.free
  have Tl := bT2.lt
  have s2 := f2.size
  have fin : Hid (∀ wf, Fr (fun b => b = T) w2 wf → ∃ d1 d2 e1 e2, Ending.returned (.tuple #[.agg #[.slice c1 nc c2, .slice b1 nb b2], .bool (E1 == 0)]) = .returned (.tuple #[.agg #[.slice d1 nc d2, .slice e1 nb e2], .bool (E1 == 0)]) ∧ ModV (fun _ => False) wf d1 nc d2 e1 nb e2 M ∧ Fr Nil w wf) := Lib.hid (fun wf g => by
    have FF : Fr Nil w wf := (H1.out.1.comp f2).trans g (fun k hk q => by have q' : k = T := q; omega)
    exact ⟨_, _, _, _, rfl, (hm2.fr g (fun b q => by have q' : b = T := q; omega)).mono (fun b _ q => q.elim), FF⟩)
  clear f2 hm hm2 HP bT2 hnc hnb
  go_wp2
  (try simp only [Exit.inBlock, Exit.then])
  refine bodyPost_ret (v := .tuple #[.agg #[.slice c1 nc c2, .slice b1 nb b2], .bool (E1 == 0)]) (by simp [results, Tryd.results16, go_sem, *]) rfl ?_
  exact fin.out _ (by (repeat (first | (with_reducible exact Fr.refl _ _) | (with_reducible assumption) | (with_reducible exact Fr.of_nil (by assumption)) | (with_reducible refine Fr.drew ?_) | (with_reducible refine Fr.drewN ?_ _) | (with_reducible refine Fr.alloc ?_ _) | (with_reducible refine Fr.set ?_ _ _ (by first | (intro _; exact rfl) | (intro _; exact .inl rfl) | (intro _; exact .inr rfl) | (intro q; exact absurd q (Nat.lt_irrefl _)) | (intro q; simp at q; omega))) | (with_reducible refine Fr.via ?_ (by assumption)) | (with_reducible refine Fr.comp ?_ (by assumption)))))
/-- A source whose module can be shown. -/
theorem src_svm (s : List UInt8) (hs : s.length ≤ 5000) : SvM (parseF s).1 :=
  ⟨(src_show s hs).1, by have := (src_show s hs).2; omega, fun d hd => Nat.le_trans (parse_cn s d hd) hs, parse_ar s, (parse_few s).1⟩
def src9 : List UInt8 := [102, 32, 120, 61, 99, 97, 115, 101, 32, 120, 32, 111, 102, 123, 48, 45, 62, 40, 49, 41, 59, 121, 45, 62, 102, 40, 121, 45, 49, 41, 125, 59]
def mod9 : TM := ⟨[], [.mk [102] [[120]] (.mk 7 [] false 0 [] [.mk 1 [120] false 0 [] [] [] []] [] [.mk 1 [] false 0 [] (.mk 3 [] false 1 [] [] [] []), .mk 2 [121] false 0 [] (.mk 4 [] false 0 [] [.mk 1 [102] false 0 [] [] [] [], .mk 5 [45] false 0 [] [.mk 1 [121] false 0 [] [] [] [], .mk 3 [] false 1 [] [] [] []] [] []] [] [])])]⟩
theorem src9_parse : parseF src9 = (mod9, 0, 0) := by kernel_rfl
theorem src9_text : swM prF mod9 = [102, 32, 120, 32, 61, 32, 99, 97, 115, 101, 32, 120, 32, 111, 102, 32, 123, 48, 32, 45, 62, 32, 49, 59, 32, 121, 32, 45, 62, 32, 102, 32, 40, 121, 32, 45, 32, 49, 41, 125, 59, 10] := by
  have h0 : numT (prF false 0) = [48] := by rw [num_dec (by decide), Lib.decDigits]; rfl
  have h1 : numT (prF false 1) = [49] := by rw [num_dec (by decide), Lib.decDigits]; rfl
  simp [swM, mod9, consT, bindsT, swB1, swE, swK, swA, swX, atomF, bareE, parF, headF, nakedE, lowF, joinS, joinR, Lib.join, Lib.joinTail, h0, h1]
set_option maxRecDepth 100000 in
set_option maxHeartbeats 4000000 in
theorem awake9_any (w : World) (hT : Tabs w) :
    Calls Tryd.prog 15 #[] w fun r w' => r = .returned (.bool true) ∧ Fr Nil w w' := by
  have HP := Lib.hid (told9_any ⟨#[102, 32, 120, 61, 99, 97, 115, 101, 32, 120, 32, 111, 102, 123, 48, 45, 62, 40, 49, 41, 59, 121, 45, 62, 102, 40, 121, 45, 49, 41, 125, 59]⟩ w (by decide) (M := mod9) (E1 := 0) (E2 := 0) (nc := 0) (nb := 1) src9_parse rfl rfl)
  have hsv := src_svm src9 (by decide)
  rw [src9_parse] at hsv
  have HS := Lib.hid (And.intro hsv hT)
  clear hsv hT
  go_enter Tryd.func15, Tryd.ntmps15
  go_wp2_with fail
  refine HP.out.mono ?_
  rintro e w2 ⟨c1, c2, b1, b2, rfl, hm, f2⟩
  have H2 := Lib.hid (And.intro hm f2)
  clear hm f2 HP
  go_wp2_with fail
  obtain ⟨T, hT⟩ : ∃ T, w2.heap.size = T := ⟨_, rfl⟩
  try rw [hT]
  obtain ⟨W3, hW3⟩ : ∃ W3, w2.alloc (.cells #[.slice c1 0 c2, .slice b1 1 b2] 26) = W3 := ⟨_, rfl⟩
  rw [hW3]
  have f3 : Fr Nil w2 W3 := by rw [← hW3]; (repeat (first | (with_reducible exact Fr.refl _ _) | (with_reducible assumption) | (with_reducible exact Fr.of_nil (by assumption)) | (with_reducible refine Fr.drew ?_) | (with_reducible refine Fr.drewN ?_ _) | (with_reducible refine Fr.alloc ?_ _) | (with_reducible refine Fr.set ?_ _ _ (by first | (intros; omega) | (simp; done) | (simp; omega))) | (with_reducible refine Fr.via ?_ (by assumption)) | (with_reducible refine Fr.comp ?_ (by assumption))))
  have hck := pmod_any (H2.out.1.fr f3 (fun _ q => q.elim)) HS.out.1 (HS.out.2.fr (H2.out.2.comp f3))
  rw [src9_text] at hck
  have HK := Lib.hid hck
  have H3 := Lib.hid (H2.out.2.comp f3)
  clear hW3 f3 hck hT
  refine HK.out.mono ?_
  rintro e w4 ⟨rfl, f4⟩
  have HF := Lib.hid (H3.out.comp f4)
  clear f4 HK
  go_wp2
  go_ret
  exact ⟨rfl, HF.out⟩
end Go.Proofs.YtpjlibbdngnnnaaDoor
