/-
  A source's module as it lies; the document's example (layer 10). Conditions: a source of at most 1000000 bytes; the listed variable errors.errorType.
-/
import Derived.Test.YtpjlibbdngnnnaaDoorSpK
namespace Go.Proofs.YtpjlibbdngnnnaaDoor
set_option linter.unusedSimpArgs false
set_option linter.unusedVariables false
open Go.RowKit

theorem mval_mod {X : Nat → Prop} {w : World} {v : Value} {m : TM} (h : MVal X w v m) : ∃ c1 c2 b1 b2, v = .agg #[.slice c1 m.cons.length c2, .slice b1 m.binds.length b2] ∧ ModV (fun _ => False) w c1 m.cons.length c2 b1 m.binds.length b2 m := by
  obtain ⟨cv, bv, ec, eb, rfl, h1, h2, h3, h4⟩ := h
  obtain ⟨ca, cc, rfl⟩ := h1.shape
  obtain ⟨ba, bc, rfl⟩ := h3.shape
  exact ⟨ca, cc, ba, bc, rfl, RowC.congr (RowC.mono h1 (by decide) (fun b hb q => q.elim)) (fun i hi => by rw [h2 i hi]; simp [List.getD, hi]), rfl, ⟨eb, h3.mono (by decide) (fun b hb q => q.elim), fun i hi => lawB.mono (h4 i hi) (fun b hb q => q.elim)⟩, rfl⟩
/-- A source, parsed by the document. -/
theorem parse_mod (s : ByteArray) (w : World) (hs : s.size ≤ 1000000) {M : TM} {E1 : Int} {E2 : Nat} (hp : parseF s.data.toList = (M, E1, E2)) :
    Calls Tryd.prog 11 #[.string s] w fun r w' => ∃ c1 c2 b1 b2, r = .returned (.tuple #[.agg #[.slice c1 M.cons.length c2, .slice b1 M.binds.length b2], .int .i64 E1, .int .i64 (E2 : Int)]) ∧ ModV (fun _ => False) w' c1 M.cons.length c2 b1 M.binds.length b2 M ∧ Fr Nil w w' := by
  refine (rparse_src s w hs).mono ?_
  rintro e w2 ⟨v, rfl, hm, f2⟩
  rw [hp] at hm ⊢
  obtain ⟨c1, c2, b1, b2, rfl, h⟩ := mval_mod hm
  exact ⟨c1, c2, b1, b2, rfl, h, f2⟩
def src10 : List UInt8 := [109, 97, 105, 110, 32, 61, 32, 92, 120, 32, 45, 62, 32, 121, 59]
theorem awake10_chk : chkF (parseF src10).1 = (4, [121]) ∧ (parseF src10).1.cons.length = 0 ∧ (parseF src10).1.binds.length = 1 := ⟨by kernel_rfl, by kernel_rfl, by kernel_rfl⟩
set_option maxRecDepth 100000 in
set_option maxHeartbeats 4000000 in
theorem awake10_any (w : World) (hT : ErrT w) :
    Calls Tryd.prog 10 #[] w fun r w' => r = .returned (.bool true) ∧ Fr Nil w w' := by
  obtain ⟨⟨M, E1, E2⟩, hM⟩ : ∃ M, parseF src10 = M := ⟨_, rfl⟩
  have hchk := awake10_chk
  have hok := parse_src src10 (by decide)
  rw [hM] at hchk hok
  obtain ⟨h1, h2, h3⟩ := hchk
  have HP := Lib.hid (parse_mod ⟨#[109, 97, 105, 110, 32, 61, 32, 92, 120, 32, 45, 62, 32, 121, 59]⟩ w (by decide) (show parseF src10 = _ from hM))
  simp only [h2, h3] at HP
  have HO := Lib.hid (And.intro hok (And.intro h1 (And.intro h2 (And.intro h3 hT))))
  clear hM hok h1 h2 h3 hT
  go_enter Tryd.func10, Tryd.ntmps10
  go_wp2_with fail
  refine HP.out.mono ?_
  rintro e w2 ⟨c1, c2, b1, b2, rfl, hm, f2⟩
  have H2 := Lib.hid (And.intro hm f2)
  clear hm f2 HP
  go_wp2_with fail
  obtain ⟨T, hT⟩ : ∃ T, w2.heap.size = T := ⟨_, rfl⟩
  try rw [hT]
  obtain ⟨W3, hW3⟩ : ∃ W3, w2.alloc (.cells #[.slice c1 0 c2, .slice b1 1 b2] 26) = W3 := ⟨_, rfl⟩
  rw [hW3]
  have f3 : Fr Nil w2 W3 := by rw [← hW3]; (repeat (first | (with_reducible exact Fr.refl _ _) | (with_reducible assumption) | (with_reducible exact Fr.of_nil (by assumption)) | (with_reducible refine Fr.drew ?_) | (with_reducible refine Fr.drewN ?_ _) | (with_reducible refine Fr.alloc ?_ _) | (with_reducible refine Fr.set ?_ _ _ (by first | (intros; omega) | (simp; done) | (simp; omega))) | (with_reducible refine Fr.via ?_ (by assumption)) | (with_reducible refine Fr.comp ?_ (by assumption))))
  have b3 : Blk W3 T #[.slice c1 0 c2, .slice b1 1 b2] 26 := by rw [← hW3, ← hT]; exact Blk.new _ _ _
  have hck := scheck_any (H2.out.1.fr f3 (fun _ q => q.elim)) HO.out.1.cn HO.out.1.ok HO.out.1.ws HO.out.1.cons (by have := HO.out.1.len; omega) (HO.out.2.2.2.2.fr (H2.out.2.comp f3))
  rw [HO.out.2.1] at hck
  have H3 := Lib.hid (And.intro (H2.out.2.comp f3) (And.intro b3 (H2.out.1.fr f3 (fun _ q => q.elim))))
  have HK := Lib.hid hck
  clear hW3 f3 b3 hck hT
  refine HK.out.mono ?_
  rintro e w4 ⟨rfl, f4⟩
  have b4 := f4.blk H3.out.2.1 (fun q => q)
  have z0 := b4.cell 0
  have z1 := b4.cell 1
  simp at z0 z1
  have zl := b4.lt
  have hc1 := scons_any (m := M) (b1 := b1) (nb := 1) (b2 := b2) (RowC.frN H3.out.2.2.1 f4) HO.out.2.2.1 (by have := HO.out.2.2.1; omega)
  have HC := Lib.hid hc1
  have H4 := Lib.hid (H3.out.1.comp f4)
  have hlen : (fullD M).length = 4 := by simp [fullD, HO.out.2.2.1]
  have HN := Lib.hid hlen
  clear f4 b4 hc1 HK hlen
  go_wp2_with fail
  refine HC.out.mono ?_
  rintro e w5 ⟨v, rfl, own, f5⟩
  obtain ⟨va, vc, rfl⟩ := owns_shape own
  have H5 := Lib.hid (H4.out.comp f5)
  rw [HN.out]
  clear own f5
  go_wp2
  go_ret
  exact ⟨rfl, H5.out⟩
end Go.Proofs.YtpjlibbdngnnnaaDoor
