/-
  Contracts of package ring: the links, the counts. Conditions: cells lie within the words.
-/
import Derived.Test.YtlpdlhmdhlcdlaaArena
import Derived.Test.YtlpdlhmdhlcdlaaRingP
import Derived.Test.YtlpdlhmdhlcdlaaVia
import Derived.Deep.RegionWith
import Derived.Deep.RegionHeld3
import Derived.BigQuiet
namespace Go.Proofs.Ytlpdlhmdhlcdlaa
set_option linter.unusedSimpArgs false
set_option linter.unusedVariables false
open Go.RowKit

/-- A ring: its record in block rg, its arena. -/
structure RingRec (w : World) (rg ba bw : Nat) (l : List Int) (u f b n0 n1 n2 n3 : Nat) : Prop where
  blk : Blk w rg #[.pointer (some ⟨ba, 0, none⟩), .int .i64 (f : Int), .int .i64 (b : Int), .int .i64 (n0 : Int), .int .i64 (n1 : Int), .int .i64 (n2 : Int), .int .i64 (n3 : Int)] 68
  ar : Arena w ba bw l u
  hl : l.length ≤ 100000
  hu : u ≤ 1000000000000
theorem RingRec.ne {w : World} {rg ba bw u f b n0 n1 n2 n3 : Nat} {l : List Int} (h : RingRec w rg ba bw l u f b n0 n1 n2 n3) : rg ≠ ba ∧ rg ≠ bw ∧ ba ≠ bw :=
  ⟨h.blk.apart h.ar.box (by decide), h.blk.apart h.ar.words (by decide), h.ar.box.apart h.ar.words (by decide)⟩
theorem RingRec.fr {S : Nat → Prop} {w w' : World} {rg ba bw u f b n0 n1 n2 n3 : Nat} {l : List Int} (h : RingRec w rg ba bw l u f b n0 n1 n2 n3) (g : Fr S w w') (h1 : ¬ S rg) (h2 : ¬ S ba) (h3 : ¬ S bw) : RingRec w' rg ba bw l u f b n0 n1 n2 n3 :=
  ⟨g.blk h.blk h1, h.ar.fr g h2 h3, h.hl, h.hu⟩
theorem ldv_at {l : List Int} {k : Nat} (h : k < l.length) : ldv l (k : Int) = nth l k := by simp [ldv, inR, h]
theorem stl_at {l : List Int} {k : Nat} (x : Int) (h : k < l.length) : stl l (k : Int) x = l.set k x := by simp [stl, inR, h]
theorem hit_at {n k : Nat} (h : k < n) : hit n (k : Int) = 1 := by simp [hit, inR, h]
section
variable (rg ba bw : Nat) (l : List Int) (u f b n0 n1 n2 n3 : Nat) (w : World)
theorem rword_any (h : RingRec w rg ba bw l u f b n0 n1 n2 n3) (k : Nat) (hk : k < l.length) (hu : u < 1000000000000) :
    Calls Try.prog 50 #[.pointer (some ⟨rg, 0, none⟩), .int .i64 (k : Int)] w fun e w' => e = .returned (.int .i64 (nth l k)) ∧ RingRec w' rg ba bw l (u + 1) f b n0 n1 n2 n3 ∧ Fr (fun x => x = ba) w w' := by
  have c0 := h.blk.cell 0
  simp at c0
  have hlt := h.blk.lt
  obtain ⟨q1, q2, q3⟩ := h.ne
  have H := Lib.hid h
  clear h
  go_enter Try.func50, Try.ntmps50
  go_wp2_with fail
  refine (load_any ba bw l u (k : Int) _ H.out.ar (by omega)).mono ?_
  rw [ldv_at hk, hit_at hk]
  rintro e w1 ⟨rfl, h1, f1⟩
  go_wp2
  go_ret
  exact ⟨rfl, ⟨f1.blk H.out.blk q1, h1, H.out.hl, by omega⟩, f1⟩
theorem rnext_any (h : RingRec w rg ba bw l u f b n0 n1 n2 n3) (c : Nat) (hc : c + 3 ≤ l.length) (hu : u < 1000000000000) :
    Calls Try.prog 37 #[.pointer (some ⟨rg, 0, none⟩), .int .i64 (c : Int)] w fun e w' => e = .returned (.int .i64 (nth l (c + 1))) ∧ RingRec w' rg ba bw l (u + 1) f b n0 n1 n2 n3 ∧ Fr (fun x => x = ba) w w' := by
  have hl := h.hl
  have H := Lib.hid h
  have e1 : ((c + 1 : Nat) : Int) = (c : Int) + 1 := by omega
  have hk := rword_any rg ba bw l u f b n0 n1 n2 n3 w H.out (c + 1) (by omega) hu
  rw [e1] at hk
  have HK := Lib.hid hk
  clear h hk e1
  go_enter Try.func37, Try.ntmps37
  go_wp2_with fail
  refine HK.out.mono ?_
  rintro e w1 ⟨rfl, h1, f1⟩
  go_wp2
  go_ret
  exact ⟨rfl, h1, f1⟩
theorem rprev_any (h : RingRec w rg ba bw l u f b n0 n1 n2 n3) (c : Nat) (hc : c + 3 ≤ l.length) (hu : u < 1000000000000) :
    Calls Try.prog 45 #[.pointer (some ⟨rg, 0, none⟩), .int .i64 (c : Int)] w fun e w' => e = .returned (.int .i64 (nth l (c + 2))) ∧ RingRec w' rg ba bw l (u + 1) f b n0 n1 n2 n3 ∧ Fr (fun x => x = ba) w w' := by
  have hl := h.hl
  have H := Lib.hid h
  have e1 : ((c + 2 : Nat) : Int) = (c : Int) + 2 := by omega
  have hk := rword_any rg ba bw l u f b n0 n1 n2 n3 w H.out (c + 2) (by omega) hu
  rw [e1] at hk
  have HK := Lib.hid hk
  clear h hk e1
  go_enter Try.func45, Try.ntmps45
  go_wp2_with fail
  refine HK.out.mono ?_
  rintro e w1 ⟨rfl, h1, f1⟩
  go_wp2
  go_ret
  exact ⟨rfl, h1, f1⟩
/-- The blocks of an arena. -/
def AS (ba bw : Nat) : Nat → Prop := fun x => x = ba ∨ x = bw
theorem rlink_any (h : RingRec w rg ba bw l u f b n0 n1 n2 n3) (c d : Nat) (hc : c + 3 ≤ l.length) (hd : d + 3 ≤ l.length) (hu : u < 999999999999) :
    Calls Try.prog 33 #[.pointer (some ⟨rg, 0, none⟩), .int .i64 (c : Int), .int .i64 (d : Int)] w fun e w' => e = .returned (.tuple #[]) ∧ RingRec w' rg ba bw (lkL l c d) (u + 2) f b n0 n1 n2 n3 ∧ Fr (AS ba bw) w w' := by
  have hl := h.hl
  obtain ⟨q1, q2, q3⟩ := h.ne
  have c0 := h.blk.cell 0
  simp at c0
  have hlt := h.blk.lt
  have H := Lib.hid h
  clear h
  have s1 := fun w h => store_any ba bw l u ((c : Int) + 1) (d : Int) w h (by omega)
  have e1 : (c : Int) + 1 = ((c + 1 : Nat) : Int) := by omega
  rw [e1, stl_at _ (by omega), hit_at (by omega)] at s1
  have s2 := fun w h => store_any ba bw (l.set (c + 1) (d : Int)) (u + 1) ((d : Int) + 2) (c : Int) w h (by omega)
  have e2 : (d : Int) + 2 = ((d + 2 : Nat) : Int) := by omega
  rw [e2, stl_at _ (by rw [List.length_set]; omega), hit_at (by rw [List.length_set]; omega)] at s2
  rw [← e1] at s1
  rw [← e2] at s2
  have S := Lib.hid (And.intro s1 s2)
  clear s1 s2 e1 e2
  go_enter Try.func33, Try.ntmps33
  go_wp2_with fail
  refine (S.out.1 _ H.out.ar).mono ?_
  rintro e w1 ⟨rfl, h1, f1⟩
  have c1 := f1.cell c0 (fun q => by rcases q with q | q; exact q1 q; exact q2 q)
  have hlt1 := f1.lt hlt
  have H1 := Lib.hid (And.intro h1 f1)
  clear h1 f1 c0
  go_wp2_with fail
  refine (S.out.2 _ H1.out.1).mono ?_
  rintro e w2 ⟨rfl, h2, f2⟩
  have ff : Fr (AS ba bw) w w2 := H1.out.2.comp f2
  go_wp2
  go_end0
  exact ⟨rfl, ⟨ff.blk H.out.blk (fun q => by rcases q with q | q; exact q1 q; exact q2 q), h2, by rw [lkL_len]; exact hl, by omega⟩, ff⟩
theorem rput_any (h : RingRec w rg ba bw l u f b n0 n1 n2 n3) (c a p : Nat) (hc : c + 3 ≤ l.length) (ha : a + 3 ≤ l.length) (hp : p + 3 ≤ l.length) (hpa : nth l (a + 2) = (p : Int)) (hu : u < 999999999000) :
    Calls Try.prog 34 #[.pointer (some ⟨rg, 0, none⟩), .int .i64 (c : Int), .int .i64 (a : Int)] w fun e w' => e = .returned (.tuple #[]) ∧ RingRec w' rg ba bw (lkL (lkL l p c) c a) (u + 5) f b n0 n1 n2 n3 ∧ Fr (AS ba bw) w w' := by
  have H := Lib.hid h
  have HP := Lib.hid hpa
  clear h hpa
  go_enter Try.func34, Try.ntmps34
  go_wp2_with fail
  refine (rprev_any rg ba bw l u f b n0 n1 n2 n3 _ H.out a ha (by omega)).mono ?_
  rw [HP.out]
  rintro e w1 ⟨rfl, h1, f1⟩
  go_wp2_with fail
  refine (rlink_any rg ba bw l _ f b n0 n1 n2 n3 _ h1 p c hp hc (by omega)).mono ?_
  rintro e w2 ⟨rfl, h2, f2⟩
  go_wp2_with fail
  refine (rlink_any rg ba bw _ _ f b n0 n1 n2 n3 _ h2 c a (by rw [lkL_len]; omega) (by rw [lkL_len]; omega) (by omega)).mono ?_
  rintro e w3 ⟨rfl, h3, f3⟩
  go_wp2
  go_end0
  exact ⟨rfl, h3, ((f1.mono (fun _ _ q => .inl q)).comp f2).comp f3⟩
theorem rcut_any (h : RingRec w rg ba bw l u f b n0 n1 n2 n3) (c p q : Nat) (hc : c + 3 ≤ l.length) (hp : p + 3 ≤ l.length) (hq : q + 3 ≤ l.length) (hpc : nth l (c + 2) = (p : Int)) (hqc : nth l (c + 1) = (q : Int)) (hu : u < 999999999000) :
    Calls Try.prog 39 #[.pointer (some ⟨rg, 0, none⟩), .int .i64 (c : Int)] w fun e w' => e = .returned (.int .i64 (q : Int)) ∧ RingRec w' rg ba bw (lkL l p q) (u + 4) f b n0 n1 n2 n3 ∧ Fr (AS ba bw) w w' := by
  have H := Lib.hid h
  have HP := Lib.hid (And.intro hpc hqc)
  clear h hpc hqc
  go_enter Try.func39, Try.ntmps39
  go_wp2_with fail
  refine (rprev_any rg ba bw l u f b n0 n1 n2 n3 _ H.out c hc (by omega)).mono ?_
  rw [HP.out.1]
  rintro e w1 ⟨rfl, h1, f1⟩
  go_wp2_with fail
  refine (rnext_any rg ba bw l _ f b n0 n1 n2 n3 _ h1 c hc (by omega)).mono ?_
  rw [HP.out.2]
  rintro e w2 ⟨rfl, h2, f2⟩
  go_wp2_with fail
  refine (rlink_any rg ba bw l _ f b n0 n1 n2 n3 _ h2 p q hp hq (by omega)).mono ?_
  rintro e w3 ⟨rfl, h3, f3⟩
  go_wp2
  go_ret
  exact ⟨rfl, h3, ((f1.comp f2).mono (fun _ _ q => .inl q)).comp f3⟩
theorem rrest_any (h : RingRec w rg ba bw l u f b n0 n1 n2 n3) (hs : n0 + n1 + n2 + n3 ≤ 1000000) :
    Calls Try.prog 47 #[.pointer (some ⟨rg, 0, none⟩)] w fun e w' => e = .returned (.int .i64 ((n1 + n2 + n3 : Nat) : Int)) ∧ Fr Nil w w' := by
  have c4 := h.blk.cell 4
  have c5 := h.blk.cell 5
  have c6 := h.blk.cell 6
  simp at c4 c5 c6
  have hlt := h.blk.lt
  have w1 : IntKind.i64.wrap ((n1 : Int) + (n2 : Int)) = (n1 : Int) + (n2 : Int) := by rw [IntKind.wrap_i64]; omega
  have w2 : IntKind.i64.wrap ((n1 : Int) + (n2 : Int) + (n3 : Int)) = (n1 : Int) + (n2 : Int) + (n3 : Int) := by rw [IntKind.wrap_i64]; omega
  have H := Lib.hid h
  clear h
  go_enter Try.func47, Try.ntmps47
  go_wp2_with fail
  go_quiet (fail)
  go_wp2
  go_ret
  exact ⟨by simp, by (repeat (first | (with_reducible exact Fr.refl _ _) | (with_reducible assumption) | (with_reducible exact Fr.of_nil (by assumption)) | (with_reducible refine Fr.drew ?_) | (with_reducible refine Fr.drewN ?_ _) | (with_reducible refine Fr.alloc ?_ _) | (with_reducible refine Fr.set ?_ _ _ (by first | (intros; omega) | (simp; done) | (simp; omega))) | (with_reducible refine Fr.via ?_ (by assumption)) | (with_reducible refine Fr.comp ?_ (by assumption))))⟩
theorem rall_any (h : RingRec w rg ba bw l u f b n0 n1 n2 n3) (hs : n0 + n1 + n2 + n3 ≤ 1000000) :
    Calls Try.prog 32 #[.pointer (some ⟨rg, 0, none⟩)] w fun e w' => e = .returned (.int .i64 ((n0 + (n1 + n2 + n3) : Nat) : Int)) ∧ Fr Nil w w' := by
  have c3 := h.blk.cell 3
  simp at c3
  have hlt := h.blk.lt
  obtain ⟨m, hm⟩ : ∃ m, n1 + n2 + n3 = m := ⟨_, rfl⟩
  have w1 : IntKind.i64.wrap ((n0 : Int) + (m : Int)) = (n0 : Int) + (m : Int) := by rw [IntKind.wrap_i64]; omega
  have H := Lib.hid h
  have HM := Lib.hid hm
  have hr := fun w' (g : Fr Nil w w') => rrest_any rg ba bw l u f b n0 n1 n2 n3 w' (h.fr g (fun q => q) (fun q => q) (fun q => q)) hs
  rw [hm] at hr ⊢
  have HR := Lib.hid hr
  clear h hr hm
  go_enter Try.func32, Try.ntmps32
  go_wp2_with fail
  apply wp_via (F := fun V => Fr Nil w V)
  · go_region_held3 (fun w' => w'.cell? ⟨rg, 3, none⟩ = some (.int .i64 (n0 : Int))) (first | go_keep | exact t3) (first
      | (go_at_call 47; refine (HR.out _ (by (repeat (first | (with_reducible exact Fr.refl _ _) | (with_reducible assumption) | (with_reducible exact Fr.of_nil (by assumption)) | (with_reducible refine Fr.drew ?_) | (with_reducible refine Fr.drewN ?_ _) | (with_reducible refine Fr.alloc ?_ _) | (with_reducible refine Fr.set ?_ _ _ (by first | (intros; omega) | (simp; done) | (simp; omega))) | (with_reducible refine Fr.via ?_ (by assumption)) | (with_reducible refine Fr.comp ?_ (by assumption)))))).mono ?_; rintro e w1 ⟨rfl, f1⟩; have t3 := (show Fr Nil w w1 from Fr.trans (by (repeat (first | (with_reducible exact Fr.refl _ _) | (with_reducible assumption) | (with_reducible exact Fr.of_nil (by assumption)) | (with_reducible refine Fr.drew ?_) | (with_reducible refine Fr.drewN ?_ _) | (with_reducible refine Fr.alloc ?_ _) | (with_reducible refine Fr.set ?_ _ _ (by first | (intros; omega) | (simp; done) | (simp; omega))) | (with_reducible refine Fr.via ?_ (by assumption)) | (with_reducible refine Fr.comp ?_ (by assumption))))) f1 (fun _ _ q => q)).cell c3 (fun q => q)))
    all_goals (refine Via.mk ?_; (repeat (first | (with_reducible exact Fr.refl _ _) | (with_reducible assumption) | (with_reducible exact Fr.of_nil (by assumption)) | (with_reducible refine Fr.drew ?_) | (with_reducible refine Fr.drewN ?_ _) | (with_reducible refine Fr.alloc ?_ _) | (with_reducible refine Fr.set ?_ _ _ (by first | (intros; omega) | (simp; done) | (simp; omega))) | (with_reducible refine Fr.via ?_ (by assumption)) | (with_reducible refine Fr.comp ?_ (by assumption)))))
  rintro V hV
  go_wp2
  go_ret
  exact ⟨by simp, hV⟩
end
end Go.Proofs.Ytlpdlhmdhlcdlaa
