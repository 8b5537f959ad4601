/-
  The document's Same (layer 8): rows of names, expressions, binds, modules that are one in plain words are the same. No conditions.
  The document's Same (layer 8): expressions, modules that are one in plain words are the same. No conditions.
  The document's Same (layer 8): modules that are one in plain words are the same, where expressions are. No conditions.
-/
import Derived.Test.YtlnmicddobgppaaGreatDoorHeldBy
import Derived.Test.YtlnmicddobgppaaGreatDoorParA
import Derived.Test.YtlnmicddobgppaaGreatDoorPar16
import Derived.Test.YtlnmicddobgppaaGreatDoorParW
import Derived.BigQuiet
import Derived.Deep.RegionHeld3
namespace Go.Proofs.YtlnmicddobgppaaGreatDoor
set_option linter.unusedSimpArgs false
set_option linter.unusedVariables false
open Go.RowKit

theorem RowC.few {X : Nat → Prop} {w : World} {a : Option Addr} {n c m s : Nat} {cs : Nat → List Value} (h : RowC X w (.slice a n c) m s cs) : n ≤ 9223372036854775807 := by
  obtain ⟨_, _, e, q1, q2, _⟩ := h
  cases e
  unfold maxLen at q2
  omega
theorem RowS.cell8 {X : Nat → Prop} {w : World} {a : Option Addr} {n cap : Nat} {l : List (List UInt8)} (h : RowS X w (.slice a n cap) l) (i : Nat) (hi : i < l.length) : ∃ b off, a = some ⟨b, off, none⟩ ∧ ¬ X b ∧ w.cell? ⟨b, off + i, none⟩ = some (.string ⟨(l[i]).toArray⟩) := by
  obtain ⟨a1, cap1, e, h1, h2, hc⟩ := h
  cases e
  obtain ⟨b, off, rfl, hb, hl, hcell⟩ := hc i hi
  refine ⟨b, off, rfl, hb, ?_⟩
  have := hcell 0 (.string ⟨(l[i]).toArray⟩) (by simp [List.getD, hi])
  simpa using this
set_option maxRecDepth 100000 in
theorem stexts_any {w : World} {a b : Option Addr} {n c d : Nat} {l : List (List UInt8)} (h1 : RowS (fun _ => False) w (.slice a n c) l) (h2 : RowS (fun _ => False) w (.slice b n d) l) (hn : l.length = n) :
    Calls Tryz.prog 44 #[.slice a n c, .slice b n d] w fun r w' => r = .returned (.bool true) ∧ Fr Nil w w' := by
  have hn9 : n ≤ 9223372036854775807 := RowC.few h1
  have H := Lib.hid (And.intro h1 (And.intro h2 hn))
  clear h1 h2 hn
  go_enter Tryz.func44, Tryz.ntmps44
  go_wp2_with fail
  go_loopg [5] n (fun g iv wr => ∃ j : Nat, g = n - j ∧ j ≤ n ∧ iv = .int .i64 (j : Int) ∧ Hid (Fr Nil w wr))
  case atStart => exact ⟨0, rfl, by omega, rfl, Lib.hid (Fr.refl _ _)⟩
  case round =>
    obtain ⟨j, rfl, hjn, rfl, HQ⟩ := hrel
    obtain ⟨Vr, hVr⟩ : ∃ V, V = wr := ⟨_, rfl⟩
    subst hVr
    have j0 : (0 : Int) ≤ (j : Int) := by omega
    by_cases hlt : j < n
    · have hjl : j < l.length := by rw [H.out.2.2]; exact hlt
      have wk : IntKind.i64.wrap ((j : Int) + 1) = (j : Int) + 1 := by rw [IntKind.wrap_i64]; omega
      have j1 : (j : Int) < (n : Int) := by omega
      obtain ⟨b1, o1, e1, _, x1⟩ := RowS.cell8 (RowC.fr H.out.1 HQ.out (fun _ q => q)) j hjl
      obtain ⟨b2, o2, e2, _, x2⟩ := RowS.cell8 (RowC.fr H.out.2.1 HQ.out (fun _ q => q)) j hjl
      subst e1 e2
      have l1 := World.block_lt_of_cell? _ _ x1
      have l2 := World.block_lt_of_cell? _ _ x2
      go_wp2
      go_quiet (fail)
      go_wp2
      go_roundg (n - (j + 1))
      case rel => exact ⟨j + 1, rfl, by omega, rfl, Lib.hid (HQ.out.comp (by exact frA))⟩
      case measure => omega
    · have j1 : ¬ (j : Int) < (n : Int) := by omega
      go_wp2
      go_ret
      exact ⟨rfl, HQ.out⟩
set_option maxRecDepth 100000 in
set_option maxHeartbeats 4000000 in
theorem ssb_any {w : World} {l : List TB} {a b : Option Addr} {n c d : Nat} {bc be bc' be' : Nat → List Value} {bp bp' : Nat → Value} (hn : l.length = n)
    (h1 : RowC (fun _ => False) w (.slice a n c) n 10 bc) (e1 : ∀ i (h : i < l.length), bc i = .string ⟨l[i].name.toArray⟩ :: bp i :: be i) (p1 : ∀ i (h : i < l.length), RowS (fun _ => False) w (bp i) l[i].params) (E1 : ∀ i (h : i < l.length), EAt (fun _ => False) w (be i) l[i].body)
    (h2 : RowC (fun _ => False) w (.slice b n d) n 10 bc') (e2 : ∀ i (h : i < l.length), bc' i = .string ⟨l[i].name.toArray⟩ :: bp' i :: be' i) (p2 : ∀ i (h : i < l.length), RowS (fun _ => False) w (bp' i) l[i].params) (E2 : ∀ i (h : i < l.length), EAt (fun _ => False) w (be' i) l[i].body)
    (ih : ∀ i (h : i < l.length) w', Fr Nil w w' → Calls Tryz.prog 45 #[.agg (be i).toArray, .agg (be' i).toArray] w' fun r w'' => r = .returned (.bool true) ∧ Fr Nil w' w'') :
    Calls Tryz.prog 22 #[.slice a n c, .slice b n d] w fun r w' => r = .returned (.bool true) ∧ Fr Nil w w' := by
  have hn9 : n ≤ 9223372036854775807 := RowC.few h1
  have H1 := Lib.hid (And.intro h1 (And.intro e1 (And.intro p1 E1)))
  have H2 := Lib.hid (And.intro h2 (And.intro e2 (And.intro p2 E2)))
  have H := Lib.hid (And.intro hn ih)
  clear h1 e1 p1 E1 h2 e2 p2 E2 hn ih
  go_enter Tryz.func22, Tryz.ntmps22
  go_wp2_with fail
  go_loopg [5] n (fun g iv wr => ∃ j : Nat, g = n - j ∧ j ≤ n ∧ iv = .int .i64 (j : Int) ∧ Hid (Fr Nil w wr))
  case atStart => exact ⟨0, rfl, by omega, rfl, Lib.hid (Fr.refl _ _)⟩
  case round =>
    obtain ⟨j, rfl, hjn, rfl, HQ⟩ := hrel
    obtain ⟨Vr, hVr⟩ : ∃ V, V = wr := ⟨_, rfl⟩
    subst hVr
    have j0 : (0 : Int) ≤ (j : Int) := by omega
    by_cases hlt : j < n
    · have hjl : j < l.length := by rw [H.out.1]; exact hlt
      have wk : IntKind.i64.wrap ((j : Int) + 1) = (j : Int) + 1 := by rw [IntKind.wrap_i64]; omega
      have j1 : (j : Int) < (n : Int) := by omega
      obtain ⟨b1, o1, ea1, _, x1⟩ := (H1.out.1.fr HQ.out (fun _ q => q)).at hlt
      obtain ⟨b2, o2, ea2, _, x2⟩ := (H2.out.1.fr HQ.out (fun _ q => q)).at hlt
      subst ea1 ea2
      have hI := H.out.2 j hjl
      obtain ⟨k, nm, fl, bi, a0, n0, c0, a1, n1, c1, a2, n2, c2, a3, n3, c3, ec1⟩ := (H1.out.2.2.2 j hjl).form
      obtain ⟨k', nm', fl', bi', a0', n0', c0', a1', n1', c1', a2', n2', c2', a3', n3', c3', ec2⟩ := (H2.out.2.2.2 j hjl).form
      rw [H1.out.2.1 j hjl, ec1] at x1
      rw [H2.out.2.1 j hjl, ec2] at x2
      rw [ec1, ec2] at hI
      have q1 := H1.out.2.2.1 j hjl
      have q2 := H2.out.2.2.1 j hjl
      obtain ⟨pa, pc, ep1⟩ := RowC.shape q1
      obtain ⟨qa, qc, ep2⟩ := RowC.shape q2
      rw [ep1] at x1 q1
      rw [ep2] at x2 q2
      obtain ⟨x, hx⟩ : ∃ x : ByteArray, x = ⟨l[j].name.toArray⟩ := ⟨_, rfl⟩
      rw [← hx] at x1 x2
      obtain ⟨np, hnp⟩ : ∃ np, l[j].params.length = np := ⟨_, rfl⟩
      rw [hnp] at x1 x2 q1 q2
      have hI' : ∀ w', Fr Nil w w' → Calls Tryz.prog 45 #[.agg #[.int .i64 (k : Int), .string nm, .bool fl, .int .u64 (bi : Int), .slice a0 n0 c0, .slice a1 n1 c1, .slice a2 n2 c2, .slice a3 n3 c3], .agg #[.int .i64 (k' : Int), .string nm', .bool fl', .int .u64 (bi' : Int), .slice a0' n0' c0', .slice a1' n1' c1', .slice a2' n2' c2', .slice a3' n3' c3']] w' fun r w'' => r = .returned (.bool true) ∧ Fr Nil w' w'' := hI
      have HX := Lib.hid (And.intro hI' (fun w' (f : Fr Nil w w') => stexts_any (q1.fr f (fun _ q => q)) (q2.fr f (fun _ q => q)) hnp))
      have hS : (fun w' : World => w'.cell? ⟨b1, o1 + j * 10, none⟩ = some (.string x) ∧ w'.cell? ⟨b1, o1 + j * 10 + 1, none⟩ = some (.slice pa np pc) ∧ w'.cell? ⟨b1, o1 + j * 10 + 2, none⟩ = some (.int .i64 (k : Int)) ∧ w'.cell? ⟨b1, o1 + j * 10 + 2 + 1, none⟩ = some (.string nm) ∧ w'.cell? ⟨b1, o1 + j * 10 + 2 + 2, none⟩ = some (.bool fl) ∧ w'.cell? ⟨b1, o1 + j * 10 + 2 + 3, none⟩ = some (.int .u64 (bi : Int)) ∧ w'.cell? ⟨b1, o1 + j * 10 + 2 + 4, none⟩ = some (.slice a0 n0 c0) ∧ w'.cell? ⟨b1, o1 + j * 10 + 2 + 5, none⟩ = some (.slice a1 n1 c1) ∧ w'.cell? ⟨b1, o1 + j * 10 + 2 + 6, none⟩ = some (.slice a2 n2 c2) ∧ w'.cell? ⟨b1, o1 + j * 10 + 2 + 7, none⟩ = some (.slice a3 n3 c3) ∧ w'.cell? ⟨b2, o2 + j * 10, none⟩ = some (.string x) ∧ w'.cell? ⟨b2, o2 + j * 10 + 1, none⟩ = some (.slice qa np qc) ∧ w'.cell? ⟨b2, o2 + j * 10 + 2, none⟩ = some (.int .i64 (k' : Int)) ∧ w'.cell? ⟨b2, o2 + j * 10 + 2 + 1, none⟩ = some (.string nm') ∧ w'.cell? ⟨b2, o2 + j * 10 + 2 + 2, none⟩ = some (.bool fl') ∧ w'.cell? ⟨b2, o2 + j * 10 + 2 + 3, none⟩ = some (.int .u64 (bi' : Int)) ∧ w'.cell? ⟨b2, o2 + j * 10 + 2 + 4, none⟩ = some (.slice a0' n0' c0') ∧ w'.cell? ⟨b2, o2 + j * 10 + 2 + 5, none⟩ = some (.slice a1' n1' c1') ∧ w'.cell? ⟨b2, o2 + j * 10 + 2 + 6, none⟩ = some (.slice a2' n2' c2') ∧ w'.cell? ⟨b2, o2 + j * 10 + 2 + 7, none⟩ = some (.slice a3' n3' c3')) Vr := by
        refine ⟨by first | exact x1 0 _ rfl | (have h := x1 0 _ rfl; simpa [Nat.add_assoc] using h), by first | exact x1 1 _ rfl | (have h := x1 1 _ rfl; simpa [Nat.add_assoc] using h), by first | exact x1 2 _ rfl | (have h := x1 2 _ rfl; simpa [Nat.add_assoc] using h), by first | exact x1 3 _ rfl | (have h := x1 3 _ rfl; simpa [Nat.add_assoc] using h), by first | exact x1 4 _ rfl | (have h := x1 4 _ rfl; simpa [Nat.add_assoc] using h), by first | exact x1 5 _ rfl | (have h := x1 5 _ rfl; simpa [Nat.add_assoc] using h), by first | exact x1 6 _ rfl | (have h := x1 6 _ rfl; simpa [Nat.add_assoc] using h), by first | exact x1 7 _ rfl | (have h := x1 7 _ rfl; simpa [Nat.add_assoc] using h), by first | exact x1 8 _ rfl | (have h := x1 8 _ rfl; simpa [Nat.add_assoc] using h), by first | exact x1 9 _ rfl | (have h := x1 9 _ rfl; simpa [Nat.add_assoc] using h), by first | exact x2 0 _ rfl | (have h := x2 0 _ rfl; simpa [Nat.add_assoc] using h), by first | exact x2 1 _ rfl | (have h := x2 1 _ rfl; simpa [Nat.add_assoc] using h), by first | exact x2 2 _ rfl | (have h := x2 2 _ rfl; simpa [Nat.add_assoc] using h), by first | exact x2 3 _ rfl | (have h := x2 3 _ rfl; simpa [Nat.add_assoc] using h), by first | exact x2 4 _ rfl | (have h := x2 4 _ rfl; simpa [Nat.add_assoc] using h), by first | exact x2 5 _ rfl | (have h := x2 5 _ rfl; simpa [Nat.add_assoc] using h), by first | exact x2 6 _ rfl | (have h := x2 6 _ rfl; simpa [Nat.add_assoc] using h), by first | exact x2 7 _ rfl | (have h := x2 7 _ rfl; simpa [Nat.add_assoc] using h), by first | exact x2 8 _ rfl | (have h := x2 8 _ rfl; simpa [Nat.add_assoc] using h), by first | exact x2 9 _ rfl | (have h := x2 9 _ rfl; simpa [Nat.add_assoc] using h)⟩
      have HC : Hid (∀ w', Fr Nil Vr w' → (fun w' : World => w'.cell? ⟨b1, o1 + j * 10, none⟩ = some (.string x) ∧ w'.cell? ⟨b1, o1 + j * 10 + 1, none⟩ = some (.slice pa np pc) ∧ w'.cell? ⟨b1, o1 + j * 10 + 2, none⟩ = some (.int .i64 (k : Int)) ∧ w'.cell? ⟨b1, o1 + j * 10 + 2 + 1, none⟩ = some (.string nm) ∧ w'.cell? ⟨b1, o1 + j * 10 + 2 + 2, none⟩ = some (.bool fl) ∧ w'.cell? ⟨b1, o1 + j * 10 + 2 + 3, none⟩ = some (.int .u64 (bi : Int)) ∧ w'.cell? ⟨b1, o1 + j * 10 + 2 + 4, none⟩ = some (.slice a0 n0 c0) ∧ w'.cell? ⟨b1, o1 + j * 10 + 2 + 5, none⟩ = some (.slice a1 n1 c1) ∧ w'.cell? ⟨b1, o1 + j * 10 + 2 + 6, none⟩ = some (.slice a2 n2 c2) ∧ w'.cell? ⟨b1, o1 + j * 10 + 2 + 7, none⟩ = some (.slice a3 n3 c3) ∧ w'.cell? ⟨b2, o2 + j * 10, none⟩ = some (.string x) ∧ w'.cell? ⟨b2, o2 + j * 10 + 1, none⟩ = some (.slice qa np qc) ∧ w'.cell? ⟨b2, o2 + j * 10 + 2, none⟩ = some (.int .i64 (k' : Int)) ∧ w'.cell? ⟨b2, o2 + j * 10 + 2 + 1, none⟩ = some (.string nm') ∧ w'.cell? ⟨b2, o2 + j * 10 + 2 + 2, none⟩ = some (.bool fl') ∧ w'.cell? ⟨b2, o2 + j * 10 + 2 + 3, none⟩ = some (.int .u64 (bi' : Int)) ∧ w'.cell? ⟨b2, o2 + j * 10 + 2 + 4, none⟩ = some (.slice a0' n0' c0') ∧ w'.cell? ⟨b2, o2 + j * 10 + 2 + 5, none⟩ = some (.slice a1' n1' c1') ∧ w'.cell? ⟨b2, o2 + j * 10 + 2 + 6, none⟩ = some (.slice a2' n2' c2') ∧ w'.cell? ⟨b2, o2 + j * 10 + 2 + 7, none⟩ = some (.slice a3' n3' c3')) w') := Lib.hid (fun w' f => by
        obtain ⟨u0, u1, u2, u3, u4, u5, u6, u7, u8, u9, u10, u11, u12, u13, u14, u15, u16, u17, u18, u19⟩ := hS
        exact ⟨f.cell u0 (fun q => q), f.cell u1 (fun q => q), f.cell u2 (fun q => q), f.cell u3 (fun q => q), f.cell u4 (fun q => q), f.cell u5 (fun q => q), f.cell u6 (fun q => q), f.cell u7 (fun q => q), f.cell u8 (fun q => q), f.cell u9 (fun q => q), f.cell u10 (fun q => q), f.cell u11 (fun q => q), f.cell u12 (fun q => q), f.cell u13 (fun q => q), f.cell u14 (fun q => q), f.cell u15 (fun q => q), f.cell u16 (fun q => q), f.cell u17 (fun q => q), f.cell u18 (fun q => q), f.cell u19 (fun q => q)⟩)
      have l1 := World.block_lt_of_cell? _ _ hS.1
      have l2 := World.block_lt_of_cell? _ _ hS.2.2.2.2.2.2.2.2.2.2.1
      have HF := HQ
      have HL := Lib.hid (And.intro l1 l2)
      clear hI hI' x1 x2 q1 q2 ec1 ec2 ep1 ep2 hx hnp HQ hjl
      go_upto_region 6 with fail
      obtain ⟨u0, u1, u2, u3, u4, u5, u6, u7, u8, u9, u10, u11, u12, u13, u14, u15, u16, u17, u18, u19⟩ := hS
      go_region_held3 (fun w' => w'.cell? ⟨b1, o1 + j * 10, none⟩ = some (.string x) ∧ w'.cell? ⟨b1, o1 + j * 10 + 1, none⟩ = some (.slice pa np pc) ∧ w'.cell? ⟨b1, o1 + j * 10 + 2, none⟩ = some (.int .i64 (k : Int)) ∧ w'.cell? ⟨b1, o1 + j * 10 + 2 + 1, none⟩ = some (.string nm) ∧ w'.cell? ⟨b1, o1 + j * 10 + 2 + 2, none⟩ = some (.bool fl) ∧ w'.cell? ⟨b1, o1 + j * 10 + 2 + 3, none⟩ = some (.int .u64 (bi : Int)) ∧ w'.cell? ⟨b1, o1 + j * 10 + 2 + 4, none⟩ = some (.slice a0 n0 c0) ∧ w'.cell? ⟨b1, o1 + j * 10 + 2 + 5, none⟩ = some (.slice a1 n1 c1) ∧ w'.cell? ⟨b1, o1 + j * 10 + 2 + 6, none⟩ = some (.slice a2 n2 c2) ∧ w'.cell? ⟨b1, o1 + j * 10 + 2 + 7, none⟩ = some (.slice a3 n3 c3) ∧ w'.cell? ⟨b2, o2 + j * 10, none⟩ = some (.string x) ∧ w'.cell? ⟨b2, o2 + j * 10 + 1, none⟩ = some (.slice qa np qc) ∧ w'.cell? ⟨b2, o2 + j * 10 + 2, none⟩ = some (.int .i64 (k' : Int)) ∧ w'.cell? ⟨b2, o2 + j * 10 + 2 + 1, none⟩ = some (.string nm') ∧ w'.cell? ⟨b2, o2 + j * 10 + 2 + 2, none⟩ = some (.bool fl') ∧ w'.cell? ⟨b2, o2 + j * 10 + 2 + 3, none⟩ = some (.int .u64 (bi' : Int)) ∧ w'.cell? ⟨b2, o2 + j * 10 + 2 + 4, none⟩ = some (.slice a0' n0' c0') ∧ w'.cell? ⟨b2, o2 + j * 10 + 2 + 5, none⟩ = some (.slice a1' n1' c1') ∧ w'.cell? ⟨b2, o2 + j * 10 + 2 + 6, none⟩ = some (.slice a2' n2' c2') ∧ w'.cell? ⟨b2, o2 + j * 10 + 2 + 7, none⟩ = some (.slice a3' n3' c3')) (with_reducible refine HC.out _ ?_; first | assumption | exact frA) (first
        | (go_at_call 44; refine (HX.out.2 _ (HF.out.comp (by first | assumption | exact frA))).mono ?_; rintro r wt ⟨rfl, ft⟩; have gt : Fr Nil Vr wt := Fr.comp (S := Nil) (by first | assumption | exact frA) ft; clear ft; have hCt := HC.out _ gt; clear u0 u1 u2 u3 u4 u5 u6 u7 u8 u9 u10 u11 u12 u13 u14 u15 u16 u17 u18 u19; obtain ⟨u0, u1, u2, u3, u4, u5, u6, u7, u8, u9, u10, u11, u12, u13, u14, u15, u16, u17, u18, u19⟩ := hCt; have l1 := gt.lt HL.out.1; have l2 := gt.lt HL.out.2)
        | (go_at_call 45; refine (HX.out.1 _ (HF.out.comp (by first | assumption | exact frA))).mono ?_; rintro r wt2 ⟨rfl, ft⟩; have gt2 : Fr Nil Vr wt2 := Fr.comp (S := Nil) (by first | assumption | exact frA) ft; clear ft; have hCt := HC.out _ gt2; clear u0 u1 u2 u3 u4 u5 u6 u7 u8 u9 u10 u11 u12 u13 u14 u15 u16 u17 u18 u19; obtain ⟨u0, u1, u2, u3, u4, u5, u6, u7, u8, u9, u10, u11, u12, u13, u14, u15, u16, u17, u18, u19⟩ := hCt; have l1 := gt2.lt HL.out.1; have l2 := gt2.lt HL.out.2))
      all_goals
        go_wp2_with fail
        go_roundg (n - (j + 1))
        case rel => exact ⟨j + 1, rfl, by omega, rfl, Lib.hid (HF.out.comp (by exact frA))⟩
        case measure => omega
    · have j1 : ¬ (j : Int) < (n : Int) := by omega
      go_wp2
      go_ret
      exact ⟨rfl, HQ.out⟩
end Go.Proofs.YtlnmicddobgppaaGreatDoor

namespace Go.Proofs.YtlnmicddobgppaaGreatDoor
set_option linter.unusedSimpArgs false
set_option linter.unusedVariables false
open Go.RowKit

set_option maxRecDepth 100000 in
set_option maxHeartbeats 8000000 in
theorem sm_step {w : World} {kind bits : Nat} {name : List UInt8} {flt : Bool} {params : List (List UInt8)} {kids : List TE} {binds : List TB} {alts : List TA} {pv kv bv av pv' kv' bv' av' : Value} {kc bc ac be ae kc' bc' ac' be' ae' : Nat → List Value} {bp an bp' an' : Nat → Value}
    (hp : RowS (fun _ => False) w pv params) (hk : RowC (fun _ => False) w kv kids.length 8 kc) (hk2 : ∀ i (h : i < kids.length), EAt (fun _ => False) w (kc i) kids[i]) (hb : RowC (fun _ => False) w bv binds.length 10 bc) (hb1 : ∀ i (h : i < binds.length), bc i = .string ⟨binds[i].name.toArray⟩ :: bp i :: be i) (hb2 : ∀ i (h : i < binds.length), RowS (fun _ => False) w (bp i) binds[i].params) (hb3 : ∀ i (h : i < binds.length), EAt (fun _ => False) w (be i) binds[i].body) (ha : RowC (fun _ => False) w av alts.length 13 ac) (ha1 : ∀ i (h : i < alts.length), ac i = .int .i64 (alts[i].kind : Int) :: .string ⟨alts[i].name.toArray⟩ :: .bool alts[i].flt :: .int .u64 (alts[i].bits : Int) :: an i :: ae i) (ha2 : ∀ i (h : i < alts.length), RowS (fun _ => False) w (an i) alts[i].names) (ha3 : ∀ i (h : i < alts.length), EAt (fun _ => False) w (ae i) alts[i].body)
    (hp' : RowS (fun _ => False) w pv' params) (hk' : RowC (fun _ => False) w kv' kids.length 8 kc') (hk2' : ∀ i (h : i < kids.length), EAt (fun _ => False) w (kc' i) kids[i]) (hb' : RowC (fun _ => False) w bv' binds.length 10 bc') (hb1' : ∀ i (h : i < binds.length), bc' i = .string ⟨binds[i].name.toArray⟩ :: bp' i :: be' i) (hb2' : ∀ i (h : i < binds.length), RowS (fun _ => False) w (bp' i) binds[i].params) (hb3' : ∀ i (h : i < binds.length), EAt (fun _ => False) w (be' i) binds[i].body) (ha' : RowC (fun _ => False) w av' alts.length 13 ac') (ha1' : ∀ i (h : i < alts.length), ac' i = .int .i64 (alts[i].kind : Int) :: .string ⟨alts[i].name.toArray⟩ :: .bool alts[i].flt :: .int .u64 (alts[i].bits : Int) :: an' i :: ae' i) (ha2' : ∀ i (h : i < alts.length), RowS (fun _ => False) w (an' i) alts[i].names) (ha3' : ∀ i (h : i < alts.length), EAt (fun _ => False) w (ae' i) alts[i].body)
    (ik : ∀ i (h : i < kids.length) w', Fr Nil w w' → Calls Tryz.prog 45 #[.agg (kc i).toArray, .agg (kc' i).toArray] w' fun r w'' => r = .returned (.bool true) ∧ Fr Nil w' w'')
    (ib : ∀ i (h : i < binds.length) w', Fr Nil w w' → Calls Tryz.prog 45 #[.agg (be i).toArray, .agg (be' i).toArray] w' fun r w'' => r = .returned (.bool true) ∧ Fr Nil w' w'')
    (ia : ∀ i (h : i < alts.length) w', Fr Nil w w' → Calls Tryz.prog 45 #[.agg (ae i).toArray, .agg (ae' i).toArray] w' fun r w'' => r = .returned (.bool true) ∧ Fr Nil w' w'') :
    Calls Tryz.prog 45 #[.agg #[.int .i64 (kind : Int), .string ⟨name.toArray⟩, .bool flt, .int .u64 (bits : Int), pv, kv, bv, av], .agg #[.int .i64 (kind : Int), .string ⟨name.toArray⟩, .bool flt, .int .u64 (bits : Int), pv', kv', bv', av']] w fun r w' => r = .returned (.bool true) ∧ Fr Nil w w' := by
  obtain ⟨pa, pc, rfl⟩ := RowC.shape hp
  obtain ⟨pa', pc', rfl⟩ := RowC.shape hp'
  obtain ⟨ka, kd, rfl⟩ := hk.shape
  obtain ⟨ka', kd', rfl⟩ := hk'.shape
  obtain ⟨ba, bd, rfl⟩ := hb.shape
  obtain ⟨ba', bd', rfl⟩ := hb'.shape
  obtain ⟨aa, ad, rfl⟩ := ha.shape
  obtain ⟨aa', ad', rfl⟩ := ha'.shape
  obtain ⟨np, hnp⟩ : ∃ n, params.length = n := ⟨_, rfl⟩
  obtain ⟨nk, hnk⟩ : ∃ n, kids.length = n := ⟨_, rfl⟩
  obtain ⟨nb, hnb⟩ : ∃ n, binds.length = n := ⟨_, rfl⟩
  obtain ⟨na, hna⟩ : ∃ n, alts.length = n := ⟨_, rfl⟩
  obtain ⟨x, hx⟩ : ∃ x : ByteArray, ⟨name.toArray⟩ = x := ⟨_, rfl⟩
  rw [hnp] at hp hp' ⊢
  rw [hnk] at hk hk' ⊢
  rw [hnb] at hb hb' ⊢
  rw [hna] at ha ha' ⊢
  rw [hx]
  have hnk9 : nk ≤ 9223372036854775807 := RowC.few hk
  have hna9 : na ≤ 9223372036854775807 := RowC.few ha
  obtain ⟨T, hT⟩ : ∃ T, w.heap.size = T := ⟨_, rfl⟩
  obtain ⟨T2, hT2⟩ : ∃ T2, T + 1 = T2 := ⟨_, rfl⟩
  obtain ⟨W1, hW1⟩ : ∃ W1, w.alloc (.cells #[.int .i64 (kind : Int), .string x, .bool flt, .int .u64 (bits : Int), .slice pa np pc, .slice ka nk kd, .slice ba nb bd, .slice aa na ad] 49) = W1 := ⟨_, rfl⟩
  obtain ⟨W2, hW2⟩ : ∃ W2, W1.alloc (.cells #[.int .i64 (kind : Int), .string x, .bool flt, .int .u64 (bits : Int), .slice pa' np pc', .slice ka' nk kd', .slice ba' nb bd', .slice aa' na ad'] 49) = W2 := ⟨_, rfl⟩
  have f1 : Fr Nil w W1 := by rw [← hW1]; exact frA
  have f2 : Fr Nil W1 W2 := by rw [← hW2]; exact frA
  have hs1 : W1.heap.size = T2 := by rw [← hW1, ← hT2, ← hT]; simp
  have bT : Blk W2 T #[.int .i64 (kind : Int), .string x, .bool flt, .int .u64 (bits : Int), .slice pa np pc, .slice ka nk kd, .slice ba nb bd, .slice aa na ad] 49 := f2.blk (by rw [← hW1, ← hT]; exact Blk.new _ _ _) (fun q => q)
  have bU : Blk W2 T2 #[.int .i64 (kind : Int), .string x, .bool flt, .int .u64 (bits : Int), .slice pa' np pc', .slice ka' nk kd', .slice ba' nb bd', .slice aa' na ad'] 49 := by rw [← hW2, ← hs1]; exact Blk.new _ _ _
  have F2 := f1.comp f2
  have HP := fun w' (f : Fr Nil w w') => stexts_any (RowS.fr hp f (fun _ q => q.elim)) (RowS.fr hp' f (fun _ q => q.elim)) hnp
  have HBD := fun w' (f : Fr Nil w w') => ssb_any (w := w') (l := binds) (be := be) (be' := be') (bp := bp) (bp' := bp') hnb (hb.fr f (fun _ q => q.elim)) hb1 (fun i h => RowS.fr (hb2 i h) f (fun _ q => q.elim)) (fun i h => (hb3 i h).fr f (fun _ q => q.elim)) (hb'.fr f (fun _ q => q.elim)) hb1' (fun i h => RowS.fr (hb2' i h) f (fun _ q => q.elim)) (fun i h => (hb3' i h).fr f (fun _ q => q.elim)) (fun i h w'' f' => ib i h w'' (f.comp f'))
  have HPB := Lib.hid (And.intro HP HBD)
  have HK := Lib.hid (And.intro hk (And.intro hk2 (And.intro hk' (And.intro hk2' (And.intro ik hnk)))))
  have HA := Lib.hid (And.intro ha (And.intro ha1 (And.intro ha2 (And.intro ha3 (And.intro ia hna)))))
  have HA' := Lib.hid (And.intro ha' (And.intro ha1' (And.intro ha2' ha3')))
  have H2 := Lib.hid (And.intro F2 (And.intro bT bU))
  have HW := Lib.hid (And.intro hT (And.intro hT2 (And.intro hW1 hW2)))
  have hTT : T < T2 := by omega
  have hTl : T2 < W2.heap.size := bU.lt
  clear hp hk hk2 hb hb1 hb2 hb3 ha ha1 ha2 ha3 hp' hk' hk2' hb' hb1' hb2' hb3' ha' ha1' ha2' ha3' ik ib ia hnp hnk hnb hna hx hT hT2 hW1 hW2 f1 f2 hs1 F2 HP HBD
  go_enter Tryz.func45, Tryz.ntmps45
  go_upto_region 1 with fail
  try rw [HW.out.1]
  try rw [HW.out.2.1]
  try rw [HW.out.2.2.1]
  try rw [HW.out.2.2.2]
  clear HW
  have y0 := bT.cell 0; have y1 := bT.cell 1; have y2 := bT.cell 2; have y3 := bT.cell 3; have y4 := bT.cell 4; have y5 := bT.cell 5; have y6 := bT.cell 6; have y7 := bT.cell 7; simp at y0 y1 y2 y3 y4 y5 y6 y7; have yf := bT.free; have yl := bT.lt
  have z0 := bU.cell 0; have z1 := bU.cell 1; have z2 := bU.cell 2; have z3 := bU.cell 3; have z4 := bU.cell 4; have z5 := bU.cell 5; have z6 := bU.cell 6; have z7 := bU.cell 7; simp at z0 z1 z2 z3 z4 z5 z6 z7; have zf := bU.free; have zl := bU.lt
  clear bT bU
  go_wp2_with fail
  refine (HPB.out.1 _ (H2.out.1.comp (by exact frA))).mono ?_
  rintro r w3 ⟨rfl, f3⟩
  have F3 : Fr Nil W2 w3 := Fr.comp (S := Nil) (by exact frA) f3
  have bT3 := F3.blk H2.out.2.1 (fun q => q)
  have bU3 := F3.blk H2.out.2.2 (fun q => q)
  clear f3 y0 y1 y2 y3 y4 y5 y6 y7 yf yl z0 z1 z2 z3 z4 z5 z6 z7 zf zl
  have y0 := bT3.cell 0; have y1 := bT3.cell 1; have y2 := bT3.cell 2; have y3 := bT3.cell 3; have y4 := bT3.cell 4; have y5 := bT3.cell 5; have y6 := bT3.cell 6; have y7 := bT3.cell 7; simp at y0 y1 y2 y3 y4 y5 y6 y7; have yf := bT3.free; have yl := bT3.lt
  have z0 := bU3.cell 0; have z1 := bU3.cell 1; have z2 := bU3.cell 2; have z3 := bU3.cell 3; have z4 := bU3.cell 4; have z5 := bU3.cell 5; have z6 := bU3.cell 6; have z7 := bU3.cell 7; simp at z0 z1 z2 z3 z4 z5 z6 z7; have zf := bU3.free; have zl := bU3.lt
  clear bT3 bU3
  go_wp2_with fail
  refine (HPB.out.2 _ ((H2.out.1.comp F3).comp (by exact frA))).mono ?_
  rintro r w4 ⟨rfl, f4⟩
  have F4 : Fr Nil W2 w4 := F3.comp (Fr.comp (S := Nil) (by exact frA) f4)
  have hT4 : T2 < w4.heap.size := F4.lt hTl
  clear f4 F3 y0 y1 y2 y3 y4 y5 y6 y7 yf yl z0 z1 z2 z3 z4 z5 z6 z7 zf zl
  go_wp2_with fail
  have HF4 := Lib.hid F4
  clear F4
  go_loopg [5] nk (fun g iv wr => ∃ j : Nat, g = nk - j ∧ j ≤ nk ∧ iv = .int .i64 (j : Int) ∧ Hid (Fr Nil w4 wr))
  case atStart => exact ⟨0, rfl, by omega, rfl, Lib.hid (by exact frA)⟩
  case round =>
    obtain ⟨j, rfl, hjn, rfl, HQ⟩ := hrel
    obtain ⟨Vr, hVr⟩ : ∃ V, V = wr := ⟨_, rfl⟩
    subst hVr
    have j0 : (0 : Int) ≤ (j : Int) := by omega
    have FV := HF4.out.comp HQ.out
    have bTv := FV.blk H2.out.2.1 (fun q => q)
    have bUv := FV.blk H2.out.2.2 (fun q => q)
    have FwV := H2.out.1.comp FV
    have y0 := bTv.cell 0; have y1 := bTv.cell 1; have y2 := bTv.cell 2; have y3 := bTv.cell 3; have y4 := bTv.cell 4; have y5 := bTv.cell 5; have y6 := bTv.cell 6; have y7 := bTv.cell 7; simp at y0 y1 y2 y3 y4 y5 y6 y7; have yf := bTv.free; have yl := bTv.lt
    have z0 := bUv.cell 0; have z1 := bUv.cell 1; have z2 := bUv.cell 2; have z3 := bUv.cell 3; have z4 := bUv.cell 4; have z5 := bUv.cell 5; have z6 := bUv.cell 6; have z7 := bUv.cell 7; simp at z0 z1 z2 z3 z4 z5 z6 z7; have zf := bUv.free; have zl := bUv.lt
    clear bTv bUv
    by_cases hlt : j < nk
    · have hjl : j < kids.length := by rw [HK.out.2.2.2.2.2]; exact hlt
      have wk : IntKind.i64.wrap ((j : Int) + 1) = (j : Int) + 1 := by rw [IntKind.wrap_i64]; omega
      have j1 : (j : Int) < (nk : Int) := by omega
      obtain ⟨b1, o1, ea1, _, x1⟩ := (HK.out.1.fr FwV (fun _ q => q.elim)).at hlt
      obtain ⟨b2, o2, ea2, _, x2⟩ := (HK.out.2.2.1.fr FwV (fun _ q => q.elim)).at hlt
      subst ea1 ea2
      have hI := HK.out.2.2.2.2.1 j hjl
      obtain ⟨k, nm, fl, bi, a0, n0, c0, a1, n1, c1, a2, n2, c2, a3, n3, c3, ec1⟩ := (HK.out.2.1 j hjl).form
      obtain ⟨k', nm', fl', bi', a0', n0', c0', a1', n1', c1', a2', n2', c2', a3', n3', c3', ec2⟩ := (HK.out.2.2.2.1 j hjl).form
      rw [ec1] at x1
      rw [ec2] at x2
      rw [ec1, ec2] at hI
      have hI' : ∀ w', Fr Nil w w' → Calls Tryz.prog 45 #[.agg #[.int .i64 (k : Int), .string nm, .bool fl, .int .u64 (bi : Int), .slice a0 n0 c0, .slice a1 n1 c1, .slice a2 n2 c2, .slice a3 n3 c3], .agg #[.int .i64 (k' : Int), .string nm', .bool fl', .int .u64 (bi' : Int), .slice a0' n0' c0', .slice a1' n1' c1', .slice a2' n2' c2', .slice a3' n3' c3']] w' fun r w'' => r = .returned (.bool true) ∧ Fr Nil w' w'' := hI
      have HX := Lib.hid (fun w' f => hI' w' (FwV.comp f))
      have hS : (fun w' : World => w'.cell? ⟨T, 5, none⟩ = some (.slice (some ⟨b1, o1, none⟩) nk kd) ∧ w'.cell? ⟨T2, 5, none⟩ = some (.slice (some ⟨b2, o2, none⟩) nk kd') ∧ w'.cell? ⟨b1, o1 + j * 8, none⟩ = some (.int .i64 (k : Int)) ∧ w'.cell? ⟨b1, o1 + j * 8 + 1, none⟩ = some (.string nm) ∧ w'.cell? ⟨b1, o1 + j * 8 + 2, none⟩ = some (.bool fl) ∧ w'.cell? ⟨b1, o1 + j * 8 + 3, none⟩ = some (.int .u64 (bi : Int)) ∧ w'.cell? ⟨b1, o1 + j * 8 + 4, none⟩ = some (.slice a0 n0 c0) ∧ w'.cell? ⟨b1, o1 + j * 8 + 5, none⟩ = some (.slice a1 n1 c1) ∧ w'.cell? ⟨b1, o1 + j * 8 + 6, none⟩ = some (.slice a2 n2 c2) ∧ w'.cell? ⟨b1, o1 + j * 8 + 7, none⟩ = some (.slice a3 n3 c3) ∧ w'.cell? ⟨b2, o2 + j * 8, none⟩ = some (.int .i64 (k' : Int)) ∧ w'.cell? ⟨b2, o2 + j * 8 + 1, none⟩ = some (.string nm') ∧ w'.cell? ⟨b2, o2 + j * 8 + 2, none⟩ = some (.bool fl') ∧ w'.cell? ⟨b2, o2 + j * 8 + 3, none⟩ = some (.int .u64 (bi' : Int)) ∧ w'.cell? ⟨b2, o2 + j * 8 + 4, none⟩ = some (.slice a0' n0' c0') ∧ w'.cell? ⟨b2, o2 + j * 8 + 5, none⟩ = some (.slice a1' n1' c1') ∧ w'.cell? ⟨b2, o2 + j * 8 + 6, none⟩ = some (.slice a2' n2' c2') ∧ w'.cell? ⟨b2, o2 + j * 8 + 7, none⟩ = some (.slice a3' n3' c3')) Vr := by
        refine ⟨y5, z5, by first | exact x1 0 _ rfl | (have h := x1 0 _ rfl; simpa [Nat.add_assoc] using h), by first | exact x1 1 _ rfl | (have h := x1 1 _ rfl; simpa [Nat.add_assoc] using h), by first | exact x1 2 _ rfl | (have h := x1 2 _ rfl; simpa [Nat.add_assoc] using h), by first | exact x1 3 _ rfl | (have h := x1 3 _ rfl; simpa [Nat.add_assoc] using h), by first | exact x1 4 _ rfl | (have h := x1 4 _ rfl; simpa [Nat.add_assoc] using h), by first | exact x1 5 _ rfl | (have h := x1 5 _ rfl; simpa [Nat.add_assoc] using h), by first | exact x1 6 _ rfl | (have h := x1 6 _ rfl; simpa [Nat.add_assoc] using h), by first | exact x1 7 _ rfl | (have h := x1 7 _ rfl; simpa [Nat.add_assoc] using h), by first | exact x2 0 _ rfl | (have h := x2 0 _ rfl; simpa [Nat.add_assoc] using h), by first | exact x2 1 _ rfl | (have h := x2 1 _ rfl; simpa [Nat.add_assoc] using h), by first | exact x2 2 _ rfl | (have h := x2 2 _ rfl; simpa [Nat.add_assoc] using h), by first | exact x2 3 _ rfl | (have h := x2 3 _ rfl; simpa [Nat.add_assoc] using h), by first | exact x2 4 _ rfl | (have h := x2 4 _ rfl; simpa [Nat.add_assoc] using h), by first | exact x2 5 _ rfl | (have h := x2 5 _ rfl; simpa [Nat.add_assoc] using h), by first | exact x2 6 _ rfl | (have h := x2 6 _ rfl; simpa [Nat.add_assoc] using h), by first | exact x2 7 _ rfl | (have h := x2 7 _ rfl; simpa [Nat.add_assoc] using h)⟩
      have HC : Hid (∀ w', Fr Nil Vr w' → (fun w' : World => w'.cell? ⟨T, 5, none⟩ = some (.slice (some ⟨b1, o1, none⟩) nk kd) ∧ w'.cell? ⟨T2, 5, none⟩ = some (.slice (some ⟨b2, o2, none⟩) nk kd') ∧ w'.cell? ⟨b1, o1 + j * 8, none⟩ = some (.int .i64 (k : Int)) ∧ w'.cell? ⟨b1, o1 + j * 8 + 1, none⟩ = some (.string nm) ∧ w'.cell? ⟨b1, o1 + j * 8 + 2, none⟩ = some (.bool fl) ∧ w'.cell? ⟨b1, o1 + j * 8 + 3, none⟩ = some (.int .u64 (bi : Int)) ∧ w'.cell? ⟨b1, o1 + j * 8 + 4, none⟩ = some (.slice a0 n0 c0) ∧ w'.cell? ⟨b1, o1 + j * 8 + 5, none⟩ = some (.slice a1 n1 c1) ∧ w'.cell? ⟨b1, o1 + j * 8 + 6, none⟩ = some (.slice a2 n2 c2) ∧ w'.cell? ⟨b1, o1 + j * 8 + 7, none⟩ = some (.slice a3 n3 c3) ∧ w'.cell? ⟨b2, o2 + j * 8, none⟩ = some (.int .i64 (k' : Int)) ∧ w'.cell? ⟨b2, o2 + j * 8 + 1, none⟩ = some (.string nm') ∧ w'.cell? ⟨b2, o2 + j * 8 + 2, none⟩ = some (.bool fl') ∧ w'.cell? ⟨b2, o2 + j * 8 + 3, none⟩ = some (.int .u64 (bi' : Int)) ∧ w'.cell? ⟨b2, o2 + j * 8 + 4, none⟩ = some (.slice a0' n0' c0') ∧ w'.cell? ⟨b2, o2 + j * 8 + 5, none⟩ = some (.slice a1' n1' c1') ∧ w'.cell? ⟨b2, o2 + j * 8 + 6, none⟩ = some (.slice a2' n2' c2') ∧ w'.cell? ⟨b2, o2 + j * 8 + 7, none⟩ = some (.slice a3' n3' c3')) w') := Lib.hid (fun w' f => by
        obtain ⟨u0, u1, u2, u3, u4, u5, u6, u7, u8, u9, u10, u11, u12, u13, u14, u15, u16, u17⟩ := hS
        exact ⟨f.cell u0 (fun q => q), f.cell u1 (fun q => q), f.cell u2 (fun q => q), f.cell u3 (fun q => q), f.cell u4 (fun q => q), f.cell u5 (fun q => q), f.cell u6 (fun q => q), f.cell u7 (fun q => q), f.cell u8 (fun q => q), f.cell u9 (fun q => q), f.cell u10 (fun q => q), f.cell u11 (fun q => q), f.cell u12 (fun q => q), f.cell u13 (fun q => q), f.cell u14 (fun q => q), f.cell u15 (fun q => q), f.cell u16 (fun q => q), f.cell u17 (fun q => q)⟩)
      have l1 := World.block_lt_of_cell? _ _ hS.2.2.1
      have l2 := World.block_lt_of_cell? _ _ hS.2.2.2.2.2.2.2.2.2.2.1
      have HL := Lib.hid (And.intro l1 l2)
      have HFQ := Lib.hid HQ.out
      clear hI hI' x1 x2 ec1 ec2 HQ hjl FV FwV
      go_upto_region 6 with fail
      obtain ⟨u0, u1, u2, u3, u4, u5, u6, u7, u8, u9, u10, u11, u12, u13, u14, u15, u16, u17⟩ := hS
      clear y0 y1 y2 y3 y4 y6 y7 z0 z1 z2 z3 z4 z6 z7
      go_region_held3 (fun w' => w'.cell? ⟨T, 5, none⟩ = some (.slice (some ⟨b1, o1, none⟩) nk kd) ∧ w'.cell? ⟨T2, 5, none⟩ = some (.slice (some ⟨b2, o2, none⟩) nk kd') ∧ w'.cell? ⟨b1, o1 + j * 8, none⟩ = some (.int .i64 (k : Int)) ∧ w'.cell? ⟨b1, o1 + j * 8 + 1, none⟩ = some (.string nm) ∧ w'.cell? ⟨b1, o1 + j * 8 + 2, none⟩ = some (.bool fl) ∧ w'.cell? ⟨b1, o1 + j * 8 + 3, none⟩ = some (.int .u64 (bi : Int)) ∧ w'.cell? ⟨b1, o1 + j * 8 + 4, none⟩ = some (.slice a0 n0 c0) ∧ w'.cell? ⟨b1, o1 + j * 8 + 5, none⟩ = some (.slice a1 n1 c1) ∧ w'.cell? ⟨b1, o1 + j * 8 + 6, none⟩ = some (.slice a2 n2 c2) ∧ w'.cell? ⟨b1, o1 + j * 8 + 7, none⟩ = some (.slice a3 n3 c3) ∧ w'.cell? ⟨b2, o2 + j * 8, none⟩ = some (.int .i64 (k' : Int)) ∧ w'.cell? ⟨b2, o2 + j * 8 + 1, none⟩ = some (.string nm') ∧ w'.cell? ⟨b2, o2 + j * 8 + 2, none⟩ = some (.bool fl') ∧ w'.cell? ⟨b2, o2 + j * 8 + 3, none⟩ = some (.int .u64 (bi' : Int)) ∧ w'.cell? ⟨b2, o2 + j * 8 + 4, none⟩ = some (.slice a0' n0' c0') ∧ w'.cell? ⟨b2, o2 + j * 8 + 5, none⟩ = some (.slice a1' n1' c1') ∧ w'.cell? ⟨b2, o2 + j * 8 + 6, none⟩ = some (.slice a2' n2' c2') ∧ w'.cell? ⟨b2, o2 + j * 8 + 7, none⟩ = some (.slice a3' n3' c3')) (with_reducible refine HC.out _ ?_; first | assumption | exact frA) (first
        | (go_at_call 45; refine (HX.out _ (by first | assumption | exact frA)).mono ?_; rintro r wt ⟨rfl, ft⟩; have gt : Fr Nil Vr wt := Fr.comp (S := Nil) (by first | assumption | exact frA) ft; clear ft; have hCt := HC.out _ gt; clear u0 u1 u2 u3 u4 u5 u6 u7 u8 u9 u10 u11 u12 u13 u14 u15 u16 u17; obtain ⟨u0, u1, u2, u3, u4, u5, u6, u7, u8, u9, u10, u11, u12, u13, u14, u15, u16, u17⟩ := hCt; have l1 := gt.lt HL.out.1; have l2 := gt.lt HL.out.2))
      all_goals
        go_wp2_with fail
        go_roundg (nk - (j + 1))
        case rel => exact ⟨j + 1, rfl, by omega, rfl, Lib.hid (HFQ.out.comp (by exact frA))⟩
        case measure => omega
    · have j1 : ¬ (j : Int) < (nk : Int) := by omega
      clear FV FwV
      go_wp2_with fail
      have HF5 : Hid (Fr Nil w4 Vr) := Lib.hid HQ.out
      clear HQ y0 y1 y2 y3 y4 y5 y6 y7 yf yl z0 z1 z2 z3 z4 z5 z6 z7 zf zl
      go_loopg [6] na (fun g iv wr => ∃ j : Nat, g = na - j ∧ j ≤ na ∧ iv = .int .i64 (j : Int) ∧ Hid (Fr Nil w4 wr))
      case atStart => exact ⟨0, rfl, by omega, rfl, Lib.hid (HF5.out.comp (by exact frA))⟩
      case round =>
        obtain ⟨i, rfl, hin, rfl, HQ⟩ := hrel
        obtain ⟨Va, hVa⟩ : ∃ V, V = wr := ⟨_, rfl⟩
        subst hVa
        have i0 : (0 : Int) ≤ (i : Int) := by omega
        have FV := HF4.out.comp HQ.out
        have bTv := FV.blk H2.out.2.1 (fun q => q)
        have bUv := FV.blk H2.out.2.2 (fun q => q)
        have FwV := H2.out.1.comp FV
        have y0 := bTv.cell 0; have y1 := bTv.cell 1; have y2 := bTv.cell 2; have y3 := bTv.cell 3; have y4 := bTv.cell 4; have y5 := bTv.cell 5; have y6 := bTv.cell 6; have y7 := bTv.cell 7; simp at y0 y1 y2 y3 y4 y5 y6 y7; have yf := bTv.free; have yl := bTv.lt
        have z0 := bUv.cell 0; have z1 := bUv.cell 1; have z2 := bUv.cell 2; have z3 := bUv.cell 3; have z4 := bUv.cell 4; have z5 := bUv.cell 5; have z6 := bUv.cell 6; have z7 := bUv.cell 7; simp at z0 z1 z2 z3 z4 z5 z6 z7; have zf := bUv.free; have zl := bUv.lt
        clear bTv bUv
        by_cases hlt : i < na
        · have hil : i < alts.length := by rw [HA.out.2.2.2.2.2]; exact hlt
          have wk : IntKind.i64.wrap ((i : Int) + 1) = (i : Int) + 1 := by rw [IntKind.wrap_i64]; omega
          have i1 : (i : Int) < (na : Int) := by omega
          obtain ⟨b1, o1, ea1, _, x1⟩ := (HA.out.1.fr FwV (fun _ q => q.elim)).at hlt
          obtain ⟨b2, o2, ea2, _, x2⟩ := (HA'.out.1.fr FwV (fun _ q => q.elim)).at hlt
          subst ea1 ea2
          have hI := HA.out.2.2.2.2.1 i hil
          obtain ⟨k, nm, fl, bi, a0, n0, c0, a1, n1, c1, a2, n2, c2, a3, n3, c3, ec1⟩ := (HA.out.2.2.2.1 i hil).form
          obtain ⟨k', nm', fl', bi', a0', n0', c0', a1', n1', c1', a2', n2', c2', a3', n3', c3', ec2⟩ := (HA'.out.2.2.2 i hil).form
          rw [HA.out.2.1 i hil, ec1] at x1
          rw [HA'.out.2.1 i hil, ec2] at x2
          rw [ec1, ec2] at hI
          have q1 := HA.out.2.2.1 i hil
          have q2 := HA'.out.2.2.1 i hil
          obtain ⟨qa, qc, ep1⟩ := RowC.shape q1
          obtain ⟨qa', qc', ep2⟩ := RowC.shape q2
          rw [ep1] at x1 q1
          rw [ep2] at x2 q2
          obtain ⟨tx, htx⟩ : ∃ x : ByteArray, x = ⟨alts[i].name.toArray⟩ := ⟨_, rfl⟩
          obtain ⟨tk, htk⟩ : ∃ x, x = alts[i].kind := ⟨_, rfl⟩
          obtain ⟨tf, htf⟩ : ∃ x, x = alts[i].flt := ⟨_, rfl⟩
          obtain ⟨tb, htb⟩ : ∃ x, x = alts[i].bits := ⟨_, rfl⟩
          obtain ⟨nq', hnq⟩ : ∃ np, alts[i].names.length = np := ⟨_, rfl⟩
          rw [← htx, ← htk, ← htf, ← htb, hnq] at x1 x2
          rw [hnq] at q1 q2
          have hI' : ∀ w', Fr Nil w w' → Calls Tryz.prog 45 #[.agg #[.int .i64 (k : Int), .string nm, .bool fl, .int .u64 (bi : Int), .slice a0 n0 c0, .slice a1 n1 c1, .slice a2 n2 c2, .slice a3 n3 c3], .agg #[.int .i64 (k' : Int), .string nm', .bool fl', .int .u64 (bi' : Int), .slice a0' n0' c0', .slice a1' n1' c1', .slice a2' n2' c2', .slice a3' n3' c3']] w' fun r w'' => r = .returned (.bool true) ∧ Fr Nil w' w'' := hI
          have HX := Lib.hid (And.intro (fun w' (f : Fr Nil Va w') => hI' w' (FwV.comp f)) (fun w' (f : Fr Nil Va w') => stexts_any (RowS.fr q1 (FwV.comp f) (fun _ q => q.elim)) (RowS.fr q2 (FwV.comp f) (fun _ q => q.elim)) hnq))
          have u0 := x1 0 _ rfl; have u1 := x1 1 _ rfl; have u2 := x1 2 _ rfl; have u3 := x1 3 _ rfl; have u4 := x1 4 _ rfl; have u5 := x1 5 _ rfl; have u6 := x1 6 _ rfl; have u7 := x1 7 _ rfl; have u8 := x1 8 _ rfl; have u9 := x1 9 _ rfl; have u10 := x1 10 _ rfl; have u11 := x1 11 _ rfl; have u12 := x1 12 _ rfl; have v0 := x2 0 _ rfl; have v1 := x2 1 _ rfl; have v2 := x2 2 _ rfl; have v3 := x2 3 _ rfl; have v4 := x2 4 _ rfl; have v5 := x2 5 _ rfl; have v6 := x2 6 _ rfl; have v7 := x2 7 _ rfl; have v8 := x2 8 _ rfl; have v9 := x2 9 _ rfl; have v10 := x2 10 _ rfl; have v11 := x2 11 _ rfl; have v12 := x2 12 _ rfl; simp only [Nat.add_zero] at u0 v0
          have l1 := World.block_lt_of_cell? _ _ u0
          have l2 := World.block_lt_of_cell? _ _ v0
          have HFQ := Lib.hid HQ.out
          clear hI hI' x1 x2 ec1 ec2 ep1 ep2 q1 q2 htx htk htf htb hnq HQ hil FV FwV
          go_upto_region 11 with fail
          go_region
          · obtain ⟨Q, hQ⟩ : ∃ Q, Va.heap.size = Q := ⟨_, rfl⟩
            obtain ⟨Q1, hQ1⟩ : ∃ Q1, Q + 1 = Q1 := ⟨_, rfl⟩
            obtain ⟨U, hU⟩ : ∃ U, ((Va.alloc (.cells #[.int .i64 (tk : Int), .string tx, .bool tf, .int .u64 (tb : Int), .slice qa nq' qc, .int .i64 (k : Int), .string nm, .bool fl, .int .u64 (bi : Int), .slice a0 n0 c0, .slice a1 n1 c1, .slice a2 n2 c2, .slice a3 n3 c3] 120)).alloc (.cells #[.int .i64 (tk : Int), .string tx, .bool tf, .int .u64 (tb : Int), .slice qa' nq' qc', .int .i64 (k' : Int), .string nm', .bool fl', .int .u64 (bi' : Int), .slice a0' n0' c0', .slice a1' n1' c1', .slice a2' n2' c2', .slice a3' n3' c3'] 120)).drew = U := ⟨_, rfl⟩
            have gU : Fr Nil Va U := by rw [← hU]; exact frA
            have bA : Blk U Q #[.int .i64 (tk : Int), .string tx, .bool tf, .int .u64 (tb : Int), .slice qa nq' qc, .int .i64 (k : Int), .string nm, .bool fl, .int .u64 (bi : Int), .slice a0 n0 c0, .slice a1 n1 c1, .slice a2 n2 c2, .slice a3 n3 c3] 120 := by rw [← hU, ← hQ]; (unfold Blk; simp (disch := first | omega | (simp; done) | (simp; omega)) only [hp_drew, hp_drewN, hp_alloc, hp_other, hp_same, hp_new, upd_cells, Option.map_some])
            have bB : Blk U Q1 #[.int .i64 (tk : Int), .string tx, .bool tf, .int .u64 (tb : Int), .slice qa' nq' qc', .int .i64 (k' : Int), .string nm', .bool fl', .int .u64 (bi' : Int), .slice a0' n0' c0', .slice a1' n1' c1', .slice a2' n2' c2', .slice a3' n3' c3'] 120 := by rw [← hU, ← hQ1, ← hQ]; (unfold Blk; simp (disch := first | omega | (simp; done) | (simp; omega)) only [hp_drew, hp_drewN, hp_alloc, hp_other, hp_same, hp_new, upd_cells, Option.map_some])
            rw [hQ]
            rw [hQ1]
            rw [hU]
            clear hQ hQ1 hU u0 u1 u2 u3 u4 u5 u6 u7 u8 u9 u10 u11 u12 v0 v1 v2 v3 v4 v5 v6 v7 v8 v9 v10 v11 v12
            have g0 := bA.cell 0; have g1 := bA.cell 1; have g2 := bA.cell 2; have g3 := bA.cell 3; have g4 := bA.cell 4; have g5 := bA.cell 5; have g6 := bA.cell 6; have g7 := bA.cell 7; have g8 := bA.cell 8; have g9 := bA.cell 9; have g10 := bA.cell 10; have g11 := bA.cell 11; have g12 := bA.cell 12; simp at g0 g1 g2 g3 g4 g5 g6 g7 g8 g9 g10 g11 g12; have gf := bA.free; have gl := bA.lt
            have h0 := bB.cell 0; have h1 := bB.cell 1; have h2 := bB.cell 2; have h3 := bB.cell 3; have h4 := bB.cell 4; have h5 := bB.cell 5; have h6 := bB.cell 6; have h7 := bB.cell 7; have h8 := bB.cell 8; have h9 := bB.cell 9; have h10 := bB.cell 10; have h11 := bB.cell 11; have h12 := bB.cell 12; simp at h0 h1 h2 h3 h4 h5 h6 h7 h8 h9 h10 h11 h12; have hf := bB.free; have hl := bB.lt
            go_wp2_with fail
            refine (HX.out.2 _ (gU.comp (by exact frA))).mono ?_
            rintro r w8 ⟨rfl, f8⟩
            have F8 : Fr Nil U w8 := Fr.comp (S := Nil) (by exact frA) f8
            have bA8 := F8.blk bA (fun q => q)
            have bB8 := F8.blk bB (fun q => q)
            clear f8 bA bB g0 g1 g2 g3 g4 g5 g6 g7 g8 g9 g10 g11 g12 gf gl h0 h1 h2 h3 h4 h5 h6 h7 h8 h9 h10 h11 h12 hf hl
            have g0 := bA8.cell 0; have g1 := bA8.cell 1; have g2 := bA8.cell 2; have g3 := bA8.cell 3; have g4 := bA8.cell 4; have g5 := bA8.cell 5; have g6 := bA8.cell 6; have g7 := bA8.cell 7; have g8 := bA8.cell 8; have g9 := bA8.cell 9; have g10 := bA8.cell 10; have g11 := bA8.cell 11; have g12 := bA8.cell 12; simp at g0 g1 g2 g3 g4 g5 g6 g7 g8 g9 g10 g11 g12; have gf := bA8.free; have gl := bA8.lt
            have h0 := bB8.cell 0; have h1 := bB8.cell 1; have h2 := bB8.cell 2; have h3 := bB8.cell 3; have h4 := bB8.cell 4; have h5 := bB8.cell 5; have h6 := bB8.cell 6; have h7 := bB8.cell 7; have h8 := bB8.cell 8; have h9 := bB8.cell 9; have h10 := bB8.cell 10; have h11 := bB8.cell 11; have h12 := bB8.cell 12; simp at h0 h1 h2 h3 h4 h5 h6 h7 h8 h9 h10 h11 h12; have hf := bB8.free; have hl := bB8.lt
            clear bA8 bB8
            go_wp2_with fail
            refine (HX.out.1 _ ((gU.comp F8).comp (by exact frA))).mono ?_
            rintro r w9 ⟨rfl, f9⟩
            have F9 : Fr Nil Va w9 := (gU.comp F8).comp (Fr.comp (S := Nil) (by exact frA) f9)
            clear f9 F8 gU g0 g1 g2 g3 g4 g5 g6 g7 g8 g9 g10 g11 g12 gf gl h0 h1 h2 h3 h4 h5 h6 h7 h8 h9 h10 h11 h12 hf hl
            go_wp2_with fail
            go_roundg (na - (i + 1))
            case rel => exact ⟨i + 1, rfl, by omega, rfl, Lib.hid ((HFQ.out.comp F9).comp (by exact frA))⟩
            case measure => omega
          · obtain ⟨Q, hQ⟩ : ∃ Q, Va.heap.size = Q := ⟨_, rfl⟩
            obtain ⟨Q1, hQ1⟩ : ∃ Q1, Q + 1 = Q1 := ⟨_, rfl⟩
            obtain ⟨U, hU⟩ : ∃ U, ((Va.alloc (.cells #[.int .i64 (tk : Int), .string tx, .bool tf, .int .u64 (tb : Int), .slice qa' nq' qc', .int .i64 (k' : Int), .string nm', .bool fl', .int .u64 (bi' : Int), .slice a0' n0' c0', .slice a1' n1' c1', .slice a2' n2' c2', .slice a3' n3' c3'] 120)).alloc (.cells #[.int .i64 (tk : Int), .string tx, .bool tf, .int .u64 (tb : Int), .slice qa nq' qc, .int .i64 (k : Int), .string nm, .bool fl, .int .u64 (bi : Int), .slice a0 n0 c0, .slice a1 n1 c1, .slice a2 n2 c2, .slice a3 n3 c3] 120)).drew = U := ⟨_, rfl⟩
            have gU : Fr Nil Va U := by rw [← hU]; exact frA
            have bA : Blk U Q #[.int .i64 (tk : Int), .string tx, .bool tf, .int .u64 (tb : Int), .slice qa' nq' qc', .int .i64 (k' : Int), .string nm', .bool fl', .int .u64 (bi' : Int), .slice a0' n0' c0', .slice a1' n1' c1', .slice a2' n2' c2', .slice a3' n3' c3'] 120 := by rw [← hU, ← hQ]; (unfold Blk; simp (disch := first | omega | (simp; done) | (simp; omega)) only [hp_drew, hp_drewN, hp_alloc, hp_other, hp_same, hp_new, upd_cells, Option.map_some])
            have bB : Blk U Q1 #[.int .i64 (tk : Int), .string tx, .bool tf, .int .u64 (tb : Int), .slice qa nq' qc, .int .i64 (k : Int), .string nm, .bool fl, .int .u64 (bi : Int), .slice a0 n0 c0, .slice a1 n1 c1, .slice a2 n2 c2, .slice a3 n3 c3] 120 := by rw [← hU, ← hQ1, ← hQ]; (unfold Blk; simp (disch := first | omega | (simp; done) | (simp; omega)) only [hp_drew, hp_drewN, hp_alloc, hp_other, hp_same, hp_new, upd_cells, Option.map_some])
            rw [hQ]
            rw [hQ1]
            rw [hU]
            clear hQ hQ1 hU u0 u1 u2 u3 u4 u5 u6 u7 u8 u9 u10 u11 u12 v0 v1 v2 v3 v4 v5 v6 v7 v8 v9 v10 v11 v12
            have g0 := bA.cell 0; have g1 := bA.cell 1; have g2 := bA.cell 2; have g3 := bA.cell 3; have g4 := bA.cell 4; have g5 := bA.cell 5; have g6 := bA.cell 6; have g7 := bA.cell 7; have g8 := bA.cell 8; have g9 := bA.cell 9; have g10 := bA.cell 10; have g11 := bA.cell 11; have g12 := bA.cell 12; simp at g0 g1 g2 g3 g4 g5 g6 g7 g8 g9 g10 g11 g12; have gf := bA.free; have gl := bA.lt
            have h0 := bB.cell 0; have h1 := bB.cell 1; have h2 := bB.cell 2; have h3 := bB.cell 3; have h4 := bB.cell 4; have h5 := bB.cell 5; have h6 := bB.cell 6; have h7 := bB.cell 7; have h8 := bB.cell 8; have h9 := bB.cell 9; have h10 := bB.cell 10; have h11 := bB.cell 11; have h12 := bB.cell 12; simp at h0 h1 h2 h3 h4 h5 h6 h7 h8 h9 h10 h11 h12; have hf := bB.free; have hl := bB.lt
            go_wp2_with fail
            refine (HX.out.2 _ (gU.comp (by exact frA))).mono ?_
            rintro r w8 ⟨rfl, f8⟩
            have F8 : Fr Nil U w8 := Fr.comp (S := Nil) (by exact frA) f8
            have bA8 := F8.blk bA (fun q => q)
            have bB8 := F8.blk bB (fun q => q)
            clear f8 bA bB g0 g1 g2 g3 g4 g5 g6 g7 g8 g9 g10 g11 g12 gf gl h0 h1 h2 h3 h4 h5 h6 h7 h8 h9 h10 h11 h12 hf hl
            have g0 := bA8.cell 0; have g1 := bA8.cell 1; have g2 := bA8.cell 2; have g3 := bA8.cell 3; have g4 := bA8.cell 4; have g5 := bA8.cell 5; have g6 := bA8.cell 6; have g7 := bA8.cell 7; have g8 := bA8.cell 8; have g9 := bA8.cell 9; have g10 := bA8.cell 10; have g11 := bA8.cell 11; have g12 := bA8.cell 12; simp at g0 g1 g2 g3 g4 g5 g6 g7 g8 g9 g10 g11 g12; have gf := bA8.free; have gl := bA8.lt
            have h0 := bB8.cell 0; have h1 := bB8.cell 1; have h2 := bB8.cell 2; have h3 := bB8.cell 3; have h4 := bB8.cell 4; have h5 := bB8.cell 5; have h6 := bB8.cell 6; have h7 := bB8.cell 7; have h8 := bB8.cell 8; have h9 := bB8.cell 9; have h10 := bB8.cell 10; have h11 := bB8.cell 11; have h12 := bB8.cell 12; simp at h0 h1 h2 h3 h4 h5 h6 h7 h8 h9 h10 h11 h12; have hf := bB8.free; have hl := bB8.lt
            clear bA8 bB8
            go_wp2_with fail
            refine (HX.out.1 _ ((gU.comp F8).comp (by exact frA))).mono ?_
            rintro r w9 ⟨rfl, f9⟩
            have F9 : Fr Nil Va w9 := (gU.comp F8).comp (Fr.comp (S := Nil) (by exact frA) f9)
            clear f9 F8 gU g0 g1 g2 g3 g4 g5 g6 g7 g8 g9 g10 g11 g12 gf gl h0 h1 h2 h3 h4 h5 h6 h7 h8 h9 h10 h11 h12 hf hl
            go_wp2_with fail
            go_roundg (na - (i + 1))
            case rel => exact ⟨i + 1, rfl, by omega, rfl, Lib.hid ((HFQ.out.comp F9).comp (by exact frA))⟩
            case measure => omega
        · have i1 : ¬ (i : Int) < (na : Int) := by omega
          go_wp2
          go_ret
          exact ⟨rfl, (H2.out.1.comp HF4.out).comp HQ.out⟩
theorem sm_all {w0 : World} {cs : List Value} {e : TE} (h : EAt (fun _ => False) w0 cs e) : ∀ w, Fr Nil w0 w → ∀ ds, EAt (fun _ => False) w ds e → Calls Tryz.prog 45 #[.agg cs.toArray, .agg ds.toArray] w fun r w' => r = .returned (.bool true) ∧ Fr Nil w w' := by
  induction h with
  | mk kc bc ac be ae bp an hp hk hk2 hb hb1 hb2 hb3 ha ha1 ha2 ha3 ik ib ia =>
    intro w f0 ds hd
    cases hd with
    | mk kc' bc' ac' be' ae' bp' an' hp' hk' hk2' hb' hb1' hb2' hb3' ha' ha1' ha2' ha3' =>
      exact sm_step (kc := kc) (bc := bc) (ac := ac) (be := be) (ae := ae) (bp := bp) (an := an) (kc' := kc') (bc' := bc') (ac' := ac') (be' := be') (ae' := ae') (bp' := bp') (an' := an') (RowS.fr hp f0 (fun _ q => q.elim)) (hk.fr f0 (fun _ q => q.elim)) (fun i h => (hk2 i h).fr f0 (fun _ q => q.elim)) (hb.fr f0 (fun _ q => q.elim)) hb1 (fun i h => RowS.fr (hb2 i h) f0 (fun _ q => q.elim)) (fun i h => (hb3 i h).fr f0 (fun _ q => q.elim)) (ha.fr f0 (fun _ q => q.elim)) ha1 (fun i h => RowS.fr (ha2 i h) f0 (fun _ q => q.elim)) (fun i h => (ha3 i h).fr f0 (fun _ q => q.elim))
        hp' hk' hk2' hb' hb1' hb2' hb3' ha' ha1' ha2' ha3' (fun i h w' f => ik i h w' (f0.comp f) _ ((hk2' i h).fr f (fun _ q => q.elim))) (fun i h w' f => ib i h w' (f0.comp f) _ ((hb3' i h).fr f (fun _ q => q.elim))) (fun i h w' f => ia i h w' (f0.comp f) _ ((ha3' i h).fr f (fun _ q => q.elim)))
end Go.Proofs.YtlnmicddobgppaaGreatDoor

namespace Go.Proofs.YtlnmicddobgppaaGreatDoor
set_option linter.unusedSimpArgs false
set_option linter.unusedVariables false
open Go.RowKit

/-- What is told by the same expression is the same. -/
def SameAll : Prop := ∀ (w : World) (cs ds : List Value) (e : TE), EAt (fun _ => False) w cs e → EAt (fun _ => False) w ds e → Calls Tryz.prog 45 #[.agg cs.toArray, .agg ds.toArray] w fun r w' => r = .returned (.bool true) ∧ Fr Nil w w'
theorem binds_parts {X : Nat → Prop} {w : World} {l : List TB} {bs : Nat → List Value} (h : ∀ i (h : i < l.length), BAt X w (bs i) l[i]) : ∃ (be : Nat → List Value) (bp : Nat → Value), (∀ i (h : i < l.length), bs i = .string ⟨l[i].name.toArray⟩ :: bp i :: be i) ∧ (∀ i (h : i < l.length), RowS X w (bp i) l[i].params) ∧ ∀ i (h : i < l.length), EAt X w (be i) l[i].body := by
  classical
  refine ⟨fun i => if q : i < l.length then (h i q).choose_spec.choose else [], fun i => if q : i < l.length then (h i q).choose else .bool false, fun i q => ?_, fun i q => ?_, fun i q => ?_⟩
  · simp only [dif_pos q]; exact (h i q).choose_spec.choose_spec.1
  · simp only [dif_pos q]; exact (h i q).choose_spec.choose_spec.2.1
  · simp only [dif_pos q]; exact (h i q).choose_spec.choose_spec.2.2
set_option maxRecDepth 100000 in
set_option maxHeartbeats 4000000 in
theorem same8_of (hall : SameAll) {w : World} {va vb : Value} {m : TM} (h1 : MVal (fun _ => False) w va m) (h2 : MVal (fun _ => False) w vb m) :
    Calls Tryz.prog 13 #[va, vb] w fun r w' => r = .returned (.bool true) ∧ Fr Nil w w' := by
  obtain ⟨cv, bv, cs, bs, rfl, c1, c2, c3, c4⟩ := h1
  obtain ⟨cv', bv', cs', bs', rfl, d1, d2, d3, d4⟩ := h2
  obtain ⟨ca, cc, rfl⟩ := c1.shape
  obtain ⟨ba, bc, rfl⟩ := c3.shape
  obtain ⟨ca', cc', rfl⟩ := d1.shape
  obtain ⟨ba', bc', rfl⟩ := d3.shape
  obtain ⟨be, bp, p1, p2, p3⟩ := binds_parts c4
  obtain ⟨be', bp', q1, q2, q3⟩ := binds_parts d4
  obtain ⟨nc, hnc⟩ : ∃ n, m.cons.length = n := ⟨_, rfl⟩
  obtain ⟨nb, hnb⟩ : ∃ n, m.binds.length = n := ⟨_, rfl⟩
  rw [hnc] at c1 d1 ⊢
  rw [hnb] at c3 d3 ⊢
  have hnc9 : nc ≤ 9223372036854775807 := RowC.few c1
  have HB := fun w' (f : Fr Nil w w') => ssb_any (w := w') (l := m.binds) (be := be) (be' := be') (bp := bp) (bp' := bp') hnb (c3.fr f (fun _ q => q.elim)) p1 (fun i h => RowS.fr (p2 i h) f (fun _ q => q.elim)) (fun i h => (p3 i h).fr f (fun _ q => q.elim)) (d3.fr f (fun _ q => q.elim)) q1 (fun i h => RowS.fr (q2 i h) f (fun _ q => q.elim)) (fun i h => (q3 i h).fr f (fun _ q => q.elim)) (fun i h w'' f' => hall _ _ _ _ ((p3 i h).fr (f.comp f') (fun _ q => q.elim)) ((q3 i h).fr (f.comp f') (fun _ q => q.elim)))
  have HBB := Lib.hid HB
  have HC := Lib.hid (And.intro c1 (And.intro c2 (And.intro d1 (And.intro d2 hnc))))
  obtain ⟨T, hT⟩ : ∃ T, w.heap.size = T := ⟨_, rfl⟩
  obtain ⟨T2, hT2⟩ : ∃ T2, T + 1 = T2 := ⟨_, rfl⟩
  obtain ⟨W1, hW1⟩ : ∃ W1, w.alloc (.cells #[.slice ca nc cc, .slice ba nb bc] 26) = W1 := ⟨_, rfl⟩
  obtain ⟨W2, hW2⟩ : ∃ W2, W1.alloc (.cells #[.slice ca' nc cc', .slice ba' nb bc'] 26) = W2 := ⟨_, rfl⟩
  have f1 : Fr Nil w W1 := by rw [← hW1]; exact frA
  have f2 : Fr Nil W1 W2 := by rw [← hW2]; exact frA
  have hs1 : W1.heap.size = T2 := by rw [← hW1, ← hT2, ← hT]; simp
  have bT : Blk W2 T #[.slice ca nc cc, .slice ba nb bc] 26 := f2.blk (by rw [← hW1, ← hT]; exact Blk.new _ _ _) (fun q => q)
  have bU : Blk W2 T2 #[.slice ca' nc cc', .slice ba' nb bc'] 26 := by rw [← hW2, ← hs1]; exact Blk.new _ _ _
  have H2 := Lib.hid (And.intro (f1.comp f2) (And.intro bT bU))
  have HW := Lib.hid (And.intro hT (And.intro hT2 (And.intro hW1 hW2)))
  have y0 := bT.cell 0
  have y1 := bT.cell 1
  have z0 := bU.cell 0
  have z1 := bU.cell 1
  simp at y0 y1 z0 z1
  have yf := bT.free
  have zf := bU.free
  have yl := bT.lt
  have zl := bU.lt
  clear c1 c2 c3 c4 d1 d2 d3 d4 p1 p2 p3 q1 q2 q3 hnc hnb HB hT hT2 hW1 hW2 f1 f2 hs1 bT bU hall
  go_enter Tryz.func13, Tryz.ntmps13
  go_upto_region 1 with fail
  try rw [HW.out.1]
  try rw [HW.out.2.1]
  try rw [HW.out.2.2.1]
  try rw [HW.out.2.2.2]
  clear HW
  go_wp2_with fail
  refine (HBB.out _ (H2.out.1.comp (by exact frA))).mono ?_
  rintro r w3 ⟨rfl, f3⟩
  have HF3 : Hid (Fr Nil W2 w3) := Lib.hid (Fr.comp (S := Nil) (by exact frA) f3)
  clear f3 y0 y1 z0 z1 yf zf yl zl
  go_wp2_with fail
  go_loopg [5] nc (fun g iv wr => ∃ j : Nat, g = nc - j ∧ j ≤ nc ∧ iv = .int .i64 (j : Int) ∧ Hid (Fr Nil w3 wr))
  case atStart => exact ⟨0, rfl, by omega, rfl, Lib.hid (by exact frA)⟩
  case round =>
    obtain ⟨j, rfl, hjn, rfl, HQ⟩ := hrel
    obtain ⟨Vr, hVr⟩ : ∃ V, V = wr := ⟨_, rfl⟩
    subst hVr
    have j0 : (0 : Int) ≤ (j : Int) := by omega
    have FV := HF3.out.comp HQ.out
    have bTv := FV.blk H2.out.2.1 (fun q => q)
    have bUv := FV.blk H2.out.2.2 (fun q => q)
    have FwV := H2.out.1.comp FV
    have y0 := bTv.cell 0
    have z0 := bUv.cell 0
    simp at y0 z0
    have yl := bTv.lt
    have zl := bUv.lt
    clear bTv bUv
    by_cases hlt : j < nc
    · have hjl : j < m.cons.length := by rw [HC.out.2.2.2.2]; exact hlt
      have wk : IntKind.i64.wrap ((j : Int) + 1) = (j : Int) + 1 := by rw [IntKind.wrap_i64]; omega
      have j1 : (j : Int) < (nc : Int) := by omega
      obtain ⟨b1, o1, ea1, _, x1⟩ := (HC.out.1.fr FwV (fun _ q => q.elim)).at hlt
      obtain ⟨b2, o2, ea2, _, x2⟩ := (HC.out.2.2.1.fr FwV (fun _ q => q.elim)).at hlt
      subst ea1 ea2
      rw [HC.out.2.1 j hjl] at x1
      rw [HC.out.2.2.2.1 j hjl] at x2
      obtain ⟨x, hx⟩ : ∃ x : ByteArray, x = ⟨m.cons[j].1.toArray⟩ := ⟨_, rfl⟩
      obtain ⟨ar, har⟩ : ∃ x, x = m.cons[j].2 := ⟨_, rfl⟩
      rw [← hx, ← har] at x1 x2
      have u0 := x1 0 _ rfl
      have u1 := x1 1 _ rfl
      have v0 := x2 0 _ rfl
      have v1 := x2 1 _ rfl
      simp only [Nat.add_zero] at u0 v0
      have l1 := World.block_lt_of_cell? _ _ u0
      have l2 := World.block_lt_of_cell? _ _ v0
      have HFQ := Lib.hid HQ.out
      clear x1 x2 hx har HQ hjl FV FwV
      go_wp2_with fail
      go_quiet (fail)
      go_wp2_with fail
      go_roundg (nc - (j + 1))
      case rel => exact ⟨j + 1, rfl, by omega, rfl, Lib.hid (HFQ.out.comp (by exact frA))⟩
      case measure => omega
    · have j1 : ¬ (j : Int) < (nc : Int) := by omega
      go_wp2
      go_ret
      exact ⟨rfl, FwV⟩
end Go.Proofs.YtlnmicddobgppaaGreatDoor
