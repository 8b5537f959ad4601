/-
  The law: arity counts (layer 11). Conditions: the listed variable errors.errorType.
-/
import Derived.Test.YtpjlibbdngnnnaaDoorAcP
import Derived.Test.YtpjlibbdngnnnaaDoorL11
import Derived.Deep.CutBlock
import Derived.Deep.RegionHeld3
import Derived.BigQuiet
import Derived.Laws.BytesArg
namespace Go.Proofs.YtpjlibbdngnnnaaDoor
set_option linter.unusedSimpArgs false
set_option linter.unusedVariables false
open Go.RowKit

theorem blk_srcN {w : World} {b size : Nat} {cs : List Value} {t : TypeId} (h : Blk w b cs.toArray t) (hl : cs.length = size) : Src w (some ⟨b, 0, none⟩) 1 size cs :=
  .inr ⟨_, rfl, by rw [hl]; omega, fun j u hj => by rw [add_head, h.cell]; simpa using hj⟩
theorem mod_at {W : World} {D D2 n : Nat} {e : TE} {ec : List Value} (h1 : Blk W D #[.string ⟨#[67]⟩, .int .i64 (n : Int)] 49) (h2 : Blk W D2 (.string ⟨#[109, 97, 105, 110]⟩ :: .slice none 0 0 :: ec).toArray 42) (he : EAt (fun _ => False) W ec e) :
    ModV (fun _ => False) W (some ⟨D, 0, none⟩) 1 1 (some ⟨D2, 0, none⟩) 1 1 (mdE n e) :=
  ⟨RowC.congr (RowC.one (cs := [.string ⟨#[67]⟩, .int .i64 (n : Int)]) h1 rfl id) (fun i hi => by
    have e0 : i = 0 := by simp [mdE] at hi; exact hi
    subst e0
    rfl), rfl, ⟨fun _ => _, RowC.one h2 (by simp [he.len]) id, fun i hi => by
    have e0 : i = 0 := by simp [mdE] at hi; exact hi
    subst e0
    exact ⟨.slice none 0 0, ec, rfl, RowC.nil, he⟩⟩, rfl⟩
theorem acheck_md {W : World} {D D2 n : Nat} {e : TE} {ec : List Value} {R : FS} (h1 : Blk W D #[.string ⟨#[67]⟩, .int .i64 (n : Int)] 49) (h2 : Blk W D2 (.string ⟨#[109, 97, 105, 110]⟩ :: .slice none 0 0 :: ec).toArray 42) (he : EAt (fun _ => False) W ec e)
    (hn : n < 6) (hok : okB [.mk mainN [] e]) (hws : wsB [.mk mainN [] e]) (hw : 1 + wnB [.mk mainN [] e] ≤ 700000) (hT : ErrT W) (hR : arF (mdE n e) = R) :
    Calls Tryd.prog 14 #[.agg #[.slice (some ⟨D, 0, none⟩) 1 1, .slice (some ⟨D2, 0, none⟩) 1 1]] W fun r w' => r = .returned (.tuple #[.int .i64 (R.1 : Int), .string ⟨R.2.toArray⟩]) ∧ Fr Nil W w' := by
  have h := acheck_any (mod_at h1 h2 he) (fun d hd => by
    obtain rfl := List.mem_singleton.1 hd
    show (1 : Nat) ≤ maxLen
    decide) (fun d hd => by
    obtain rfl := List.mem_singleton.1 hd
    show n ≤ 1000000
    omega) hok hws (by show (1 : Nat) ≤ 100000; decide) hw hT
  rw [hR] at h
  exact h
set_option maxRecDepth 100000 in
set_option maxHeartbeats 8000000 in
theorem counts_any (x y z : Nat) (hx : x < 256) (hy : y < 256) (hz : z < 256) (w : World) (hT : ErrT w) :
    Calls Tryd.prog 7 #[.int .u8 (x : Int), .int .u8 (y : Int), .int .u8 (z : Int)] w fun r w' => r = .returned (.bool true) ∧ Fr Nil w w' := by
  have HT := Lib.hid hT
  obtain ⟨n, hn⟩ : ∃ n, x % 6 = n := ⟨_, rfl⟩
  obtain ⟨k, hk⟩ : ∃ n, y % 6 = n := ⟨_, rfl⟩
  obtain ⟨l, hl⟩ : ∃ n, z % 6 = n := ⟨_, rfl⟩
  have hn6 : n < 6 := by omega
  have hk6 : k < 6 := by omega
  have hl6 : l < 6 := by omega
  have r1 : Int.tmod (x : Int) 6 = (n : Int) := by rw [← hn]; rfl
  have r2 : Int.tmod (y : Int) 6 = (k : Int) := by rw [← hk]; rfl
  have r3 : Int.tmod (z : Int) 6 = (l : Int) := by rw [← hl]; rfl
  have u1 : IntKind.u8.wrap (n : Int) = (n : Int) := by rw [IntKind.wrap_u8]; omega
  have u2 : IntKind.u8.wrap (k : Int) = (k : Int) := by rw [IntKind.wrap_u8]; omega
  have u3 : IntKind.u8.wrap (l : Int) = (l : Int) := by rw [IntKind.wrap_u8]; omega
  have v1 : IntKind.i64.wrap (n : Int) = (n : Int) := by rw [IntKind.wrap_i64]; omega
  have v2 : IntKind.i64.wrap (k : Int) = (k : Int) := by rw [IntKind.wrap_i64]; omega
  have v3 : IntKind.i64.wrap (l : Int) = (l : Int) := by rw [IntKind.wrap_i64]; omega
  clear hn hk hl hT hx hy hz
  obtain ⟨i0, hi, hz0, hz1, hz2⟩ := info_parts infoE
  go_enter Tryd.func7, Tryd.ntmps7
  go_wp2_with fail
  refine (awake11_any w HT.out).mono ?_
  rintro e w1 ⟨rfl, f1⟩
  have HF1 := Lib.hid f1
  clear f1
  obtain ⟨T, hTs⟩ : ∃ T, w1.heap.size = T := ⟨_, rfl⟩
  go_wp2_with fail
  try rw [hTs]
  obtain ⟨W2, hW2⟩ : ∃ W2, (w1.alloc (.cells #[.int .i64 3, .string ⟨#[]⟩, .bool false, .int .u64 0, .slice none 0 0, .slice none 0 0, .slice none 0 0, .slice none 0 0] 40)).alloc (.cells #[.int .i64 2, .string ⟨#[67]⟩, .bool false, .int .u64 0, .slice none 0 0, .slice none 0 0, .slice none 0 0, .slice none 0 0] 40) = W2 := ⟨_, rfl⟩
  rw [hW2]
  have b1 : Blk W2 T #[.int .i64 3, .string ⟨#[]⟩, .bool false, .int .u64 0, .slice none 0 0, .slice none 0 0, .slice none 0 0, .slice none 0 0] 40 := by
    rw [← hW2, ← hTs]
    exact Fr.blk (S := Nil) (by (repeat (first | (with_reducible exact Fr.refl _ _) | (with_reducible assumption) | (with_reducible exact Fr.of_nil (by assumption)) | (with_reducible refine Fr.drew ?_) | (with_reducible refine Fr.drewN ?_ _) | (with_reducible refine Fr.alloc ?_ _) | (with_reducible refine Fr.set ?_ _ _ (by first | (intros; omega) | (simp; done) | (simp; omega))) | (with_reducible refine Fr.via ?_ (by assumption)) | (with_reducible refine Fr.comp ?_ (by assumption))))) (Blk.new _ _ _) (fun q => q)
  have b2 : Blk W2 (T + 1) #[.int .i64 2, .string ⟨#[67]⟩, .bool false, .int .u64 0, .slice none 0 0, .slice none 0 0, .slice none 0 0, .slice none 0 0] 40 := by
    rw [← hW2, show T + 1 = (w1.alloc (.cells #[.int .i64 3, .string ⟨#[]⟩, .bool false, .int .u64 0, .slice none 0 0, .slice none 0 0, .slice none 0 0, .slice none 0 0] 40)).heap.size by simp [hTs]]
    exact Blk.new _ _ _
  have f2 : Fr Nil w1 W2 := by rw [← hW2]; (repeat (first | (with_reducible exact Fr.refl _ _) | (with_reducible assumption) | (with_reducible exact Fr.of_nil (by assumption)) | (with_reducible refine Fr.drew ?_) | (with_reducible refine Fr.drewN ?_ _) | (with_reducible refine Fr.alloc ?_ _) | (with_reducible refine Fr.set ?_ _ _ (by first | (intros; omega) | (simp; done) | (simp; omega))) | (with_reducible refine Fr.via ?_ (by assumption)) | (with_reducible refine Fr.comp ?_ (by assumption))))
  have hT2 : W2.heap.size = T + 2 := by rw [← hW2]; simp [hTs]
  have H2 := Lib.hid (And.intro b1 (And.intro b2 (And.intro (HF1.out.comp f2) hT2)))
  have hTw : w.heap.size ≤ T := by have := HF1.out.size; omega
  clear hW2 b1 b2 f2 hT2 hTs
  go_loopg [12] k (fun g iv wr => ∃ (j : Nat) (u : Value), g = k - j ∧ j ≤ k ∧ iv = .int .i64 (j : Int) ∧ Hid (Blk wr T #[.int .i64 3, .string ⟨#[]⟩, .bool false, .int .u64 0, .slice none 0 0, .slice none 0 0, .slice none 0 0, .slice none 0 0] 40 ∧ Blk wr (T + 1) #[.int .i64 2, .string ⟨#[67]⟩, .bool false, .int .u64 0, .slice none 0 0, u, .slice none 0 0, .slice none 0 0] 40 ∧ RowsAt EAt 8 40 (T + 2) wr u (List.replicate j litE) ∧ Fr (fun b => b = T + 1) W2 wr))
  case atStart => exact ⟨0, _, rfl, by omega, rfl, Lib.hid ⟨H2.out.1, H2.out.2.1, RowsAt.nil, Fr.refl _ _⟩⟩
  case round =>
    obtain ⟨j, u, rfl, hjk, rfl, HQ⟩ := hrel
    obtain ⟨ua, uc, rfl⟩ := HQ.out.2.2.1.shape
    simp only [List.length_replicate] at HQ
    have hT2 := H2.out.2.2.2
    have hsz := HQ.out.2.2.2.size
    have j0 : (0 : Int) ≤ (j : Int) := by omega
    by_cases hlt : j < k
    · have wkk : IntKind.i64.wrap ((j : Int) + 1) = (j : Int) + 1 := by rw [IntKind.wrap_i64]; omega
      have j1 : (j : Int) < (k : Int) := by omega
      have hso := HQ.out.2.2.1.own
      obtain ⟨cl, hcl⟩ := HQ.out.2.2.1.cells
      rw [List.length_replicate] at hcl
      have HCL := Lib.hid hcl
      clear hcl
      go_upto_region 9 with fail
      have fV : Fr Nil wr wr := Fr.refl _ _
      have bV := fV.blk HQ.out.1 (fun q => q)
      have bV2 := fV.blk HQ.out.2.1 (fun q => q)
      have v0 := bV.cell 0
      have v1 := bV.cell 1
      have v2 := bV.cell 2
      have v3 := bV.cell 3
      have v4 := bV.cell 4
      have v5 := bV.cell 5
      have v6 := bV.cell 6
      have v7 := bV.cell 7
      have x5 := bV2.cell 5
      simp at v0 v1 v2 v3 v4 v5 v6 v7 x5
      have vl := bV.lt
      have vl2 := bV2.lt
      have vf2 := bV2.free
      have hVs : T + 2 ≤ wr.heap.size := by have := fV.size; omega
      have HFV := Lib.hid fV
      clear bV bV2
      go_wp2_with (at_builtin; (refine wpList_append_src rfl (.tmp 39) (.tmp 41) 37 rfl (T + 2) 40 i0 (.agg #[.int .i64 0, .string ⟨#[]⟩, .bool false, .int .u64 0, .slice none 0 0, .slice none 0 0, .slice none 0 0, .slice none 0 0]) 8 136 Tryd.underlying37 hi hz0 hz1 hz2 rfl (by decide) (.slice ua j uc) j cl rfl (owns_fr HCL.out (by (repeat (first | (with_reducible exact Fr.refl _ _) | (with_reducible assumption) | (with_reducible exact Fr.of_nil (by assumption)) | (with_reducible refine Fr.drew ?_) | (with_reducible refine Fr.drewN ?_ _) | (with_reducible refine Fr.alloc ?_ _) | (with_reducible refine Fr.set ?_ _ _ (by first | (intros; omega) | (simp; done) | (simp; omega))) | (with_reducible refine Fr.via ?_ (by assumption)) | (with_reducible refine Fr.comp ?_ (by assumption)))))) (some ⟨wr.heap.size, 0, none⟩) 1 1 [.int .i64 3, .string ⟨#[]⟩, .bool false, .int .u64 0, .slice none 0 0, .slice none 0 0, .slice none 0 0, .slice none 0 0] rfl (blk_srcN (t := 40) (by (unfold Blk; simp (disch := first | omega | (simp; done) | (simp; omega)) only [hp_drew, hp_drewN, hp_alloc, hp_other, hp_same, hp_new, upd_cells, Option.map_some])) rfl) (by simp [Value.oneCell']) (by unfold maxLen; omega) (by omega) (by simp; omega) ?_); intro v' w9 hown9 hg9 hk9; obtain ⟨xa, xc, rfl⟩ := owns_shape hown9; have k9 : Fr (fun k => Value.ownBlock (.slice ua j uc) = some k) wr w9 := Fr.grown (by (repeat (first | (with_reducible exact Fr.refl _ _) | (with_reducible assumption) | (with_reducible exact Fr.of_nil (by assumption)) | (with_reducible refine Fr.drew ?_) | (with_reducible refine Fr.drewN ?_ _) | (with_reducible refine Fr.alloc ?_ _) | (with_reducible refine Fr.set ?_ _ _ (by first | (intros; omega) | (simp; done) | (simp; omega))) | (with_reducible refine Fr.via ?_ (by assumption)) | (with_reducible refine Fr.comp ?_ (by assumption))))) hg9 (fun k q hk => q); have s9 := (k9.blk HQ.out.2.1 (fun q => by have h : T + 2 ≤ T + 1 := (hso _ q).1; omega)); have s95 := s9.cell 5; simp at s95; have s9l := s9.lt; have s9f := s9.free; have HB9 := Lib.hid s9; have HO := Lib.hid (And.intro hown9 hk9); clear hown9 hg9 hk9 s9)
      all_goals
        go_wp2
        have fz : Fr (fun b => b = T + 1) W2 (w9.setCell ⟨T + 1, 5, none⟩ (.slice xa (j + 1) xc)) := (Fr.trans (S := fun b => b = T + 1) (w1 := w9) (Fr.trans (S := fun b => b = T + 1) (w1 := wr) HQ.out.2.2.2 k9 (fun q hq e => by have := (hso q e).1; omega)) (Fr.set (S := fun b => b = T + 1) (Fr.refl _ _) _ _ (fun _ => rfl)) (fun _ _ q => q))
        go_roundg (k - (j + 1))
        case rel =>
          refine ⟨j + 1, _, rfl, by omega, rfl, Lib.hid ⟨?_, HB9.out.put rfl, ?_, fz⟩⟩
          · exact (Fr.set (S := fun b => b = T + 1) (Fr.refl _ _) ⟨T + 1, 5, none⟩ _ (fun _ => rfl)).blk (k9.blk HQ.out.1 (fun q => by have := (hso _ q).1; omega)) (fun q => by have q' : T = T + 1 := q; omega)
          · have hp : RowsAt EAt 8 40 (T + 2) w9 (.slice xa (j + 1) xc) (List.replicate j litE ++ [litE]) := RowsAt.push lawE HQ.out.2.2.1 lit_at (by rw [List.length_replicate]; exact HCL.out) (by rw [List.length_replicate]; exact HO.out.1) k9 (fun q e => by
              rcases HO.out.2 with r3 | r3
              · exact .inl (r3 ▸ e)
              · rw [r3] at e
                cases e
                exact .inr (by simp))
            rw [List.replicate_succ']
            exact hp.fr lawE (Fr.set (S := fun b => b = T + 1) (Fr.refl _ _) ⟨T + 1, 5, none⟩ _ (fun _ => rfl)) (fun b q => by have q' : b = T + 1 := q; omega)
        case measure => omega
    · have j1 : ¬ (j : Int) < (k : Int) := by omega
      have ejk : j = k := by omega
      have bV := HQ.out.1
      have v0 := bV.cell 0
      have v1 := bV.cell 1
      have v2 := bV.cell 2
      have v3 := bV.cell 3
      have v4 := bV.cell 4
      have v5 := bV.cell 5
      have v6 := bV.cell 6
      have v7 := bV.cell 7
      simp at v0 v1 v2 v3 v4 v5 v6 v7
      have vl := bV.lt
      obtain ⟨B, hB⟩ : ∃ B, wr.heap.size = B := ⟨_, rfl⟩
      go_wp2_with fail
      try rw [hB]
      obtain ⟨W3, hW3⟩ : ∃ W3, wr.alloc (.cells #[.int .i64 0, .string ⟨#[67]⟩, .bool false, .int .u64 0, .slice none 0 0, .int .i64 3, .string ⟨#[]⟩, .bool false, .int .u64 0, .slice none 0 0, .slice none 0 0, .slice none 0 0, .slice none 0 0] 47) = W3 := ⟨_, rfl⟩
      rw [hW3]
      have b3 : Blk W3 B #[.int .i64 0, .string ⟨#[67]⟩, .bool false, .int .u64 0, .slice none 0 0, .int .i64 3, .string ⟨#[]⟩, .bool false, .int .u64 0, .slice none 0 0, .slice none 0 0, .slice none 0 0, .slice none 0 0] 47 := by rw [← hW3, ← hB]; exact Blk.new _ _ _
      have f3 : Fr Nil wr W3 := by rw [← hW3]; (repeat (first | (with_reducible exact Fr.refl _ _) | (with_reducible assumption) | (with_reducible exact Fr.of_nil (by assumption)) | (with_reducible refine Fr.drew ?_) | (with_reducible refine Fr.drewN ?_ _) | (with_reducible refine Fr.alloc ?_ _) | (with_reducible refine Fr.set ?_ _ _ (by first | (intros; omega) | (simp; done) | (simp; omega))) | (with_reducible refine Fr.via ?_ (by assumption)) | (with_reducible refine Fr.comp ?_ (by assumption))))
      have hT3 : W3.heap.size = B + 1 := by rw [← hW3]; simp [hB]
      have H3 := Lib.hid (And.intro b3 (And.intro f3 hT3))
      have HE := Lib.hid ejk
      obtain ⟨W4, hW4⟩ : ∃ W4, W3 = W4 := ⟨_, rfl⟩
      clear hW3 b3 f3 hT3 v0 v1 v2 v3 v4 v5 v6 v7 vl bV hW4
      obtain ⟨i1, gi, gz0, gz1, gz2⟩ := info_parts infoS
      go_loopg [14] l (fun g iv wz => ∃ (m : Nat) (u : Value), g = l - m ∧ m ≤ l ∧ iv = .int .i64 (m : Int) ∧ Hid (Blk wz B #[.int .i64 0, .string ⟨#[67]⟩, .bool false, .int .u64 0, u, .int .i64 3, .string ⟨#[]⟩, .bool false, .int .u64 0, .slice none 0 0, .slice none 0 0, .slice none 0 0, .slice none 0 0] 47 ∧ wz.ownsRow (B + 1) 9 1 u m (strC (nmsF m)) ∧ Fr (fun b => b = B) W3 wz))
      case atStart => exact ⟨0, _, rfl, by omega, rfl, Lib.hid ⟨H3.out.1, World.ownsRow_nil _ _ _ _, Fr.refl _ _⟩⟩
      case round =>
        obtain ⟨m, u, rfl, hml, rfl, HR⟩ := hrel
        obtain ⟨na, nz, rfl⟩ := owns_shape HR.out.2.1
        have hT3 := H3.out.2.2
        have hsz3 := HR.out.2.2.size
        have m0 : (0 : Int) ≤ (m : Int) := by omega
        by_cases hlt : m < l
        · have wkk : IntKind.i64.wrap ((m : Int) + 1) = (m : Int) + 1 := by rw [IntKind.wrap_i64]; omega
          have wk2 : IntKind.i64.wrap (97 + (m : Int)) = 97 + (m : Int) := by rw [IntKind.wrap_i64]; omega
          have wk3 : IntKind.u8.wrap (97 + (m : Int)) = 97 + (m : Int) := by rw [IntKind.wrap_u8]; omega
          have m1 : (m : Int) < (l : Int) := by omega
          have nso := HR.out.2.1.lt
          go_upto_region 14 with fail
          have bV := HR.out.1
          have x4 := bV.cell 4
          simp at x4
          have vl := bV.lt
          have vf := bV.free
          obtain ⟨cb, hcb⟩ : ∃ c, UInt8.ofNat (97 + m) = c := ⟨_, rfl⟩
          have hcv : (convert 44 9 (.slice (some ⟨wr.heap.size, 0, none⟩) 1 1)).run Tryd.prog (wr.alloc (.cells #[.int .u8 (97 + (m : Int))] 5)) = .ok (.string ⟨#[cb]⟩) (wr.alloc (.cells #[.int .u8 (97 + (m : Int))] 5)) := by
            have h := run_convert_bytes_arg (P := Tryd.prog) (wr.alloc (.cells #[.int .u8 (97 + (m : Int))] 5)) 44 5 Tryd.underlying44 Tryd.underlying5 wr.heap.size 0 1 1 [97 + (m : Int)] rfl (fun i hi => by
              obtain rfl : i = 0 := by omega
              simp) 9 Tryd.underlying9
            rw [h]
            have e : strOfNums [97 + (m : Int)] = ⟨#[cb]⟩ := by
              have q : (97 + (m : Int)).toNat = 97 + m := by omega
              unfold strOfNums
              simp only [List.map_cons, List.map_nil, q, hcb]
            rw [e]
          have HCB := Lib.hid hcb
          clear hcb
          go_wp2_with (at_builtin; (refine wpList_append_src rfl (.tmp 52) (.tmp 58) 33 rfl (B + 1) 9 i1 (.string ⟨#[]⟩) 1 16 Tryd.underlying33 gi gz0 gz1 gz2 rfl (by decide) (.slice na m nz) m (strC (nmsF m)) rfl (owns_fr HR.out.2.1 (by (repeat (first | (with_reducible exact Fr.refl _ _) | (with_reducible assumption) | (with_reducible exact Fr.of_nil (by assumption)) | (with_reducible refine Fr.drew ?_) | (with_reducible refine Fr.drewN ?_ _) | (with_reducible refine Fr.alloc ?_ _) | (with_reducible refine Fr.set ?_ _ _ (by first | (intros; omega) | (simp; done) | (simp; omega))) | (with_reducible refine Fr.via ?_ (by assumption)) | (with_reducible refine Fr.comp ?_ (by assumption)))))) (some ⟨wr.heap.size + 1, 0, none⟩) 1 1 [.string ⟨#[cb]⟩] rfl (blk_srcN (t := 9) (by (unfold Blk; simp (disch := first | omega | (simp; done) | (simp; omega)) only [hp_drew, hp_drewN, hp_alloc, hp_other, hp_same, hp_new, upd_cells, Option.map_some])) rfl) (by simp [Value.oneCell']) (by unfold maxLen; omega) (by omega) (by simp; omega) ?_); intro v' w9 hown9 hg9 hk9; obtain ⟨xa, xc, rfl⟩ := owns_shape hown9; have k9 : Fr (fun k => Value.ownBlock (.slice na m nz) = some k) wr w9 := Fr.grown (by (repeat (first | (with_reducible exact Fr.refl _ _) | (with_reducible assumption) | (with_reducible exact Fr.of_nil (by assumption)) | (with_reducible refine Fr.drew ?_) | (with_reducible refine Fr.drewN ?_ _) | (with_reducible refine Fr.alloc ?_ _) | (with_reducible refine Fr.set ?_ _ _ (by first | (intros; omega) | (simp; done) | (simp; omega))) | (with_reducible refine Fr.via ?_ (by assumption)) | (with_reducible refine Fr.comp ?_ (by assumption))))) hg9 (fun k q hk => q); have s9 := (k9.blk HR.out.1 (fun q => by have h : B + 1 ≤ B := (nso _ q).1; omega)); have s95 := s9.cell 4; simp at s95; have s9l := s9.lt; have s9f := s9.free; have HB9 := Lib.hid s9; have HO := Lib.hid (And.intro hown9 hk9); clear hown9 hg9 hk9 s9)
          go_wp2
          have fz : Fr (fun b => b = B) W3 (w9.setCell ⟨B, 4, none⟩ (.slice xa (m + 1) xc)) := (Fr.trans (S := fun b => b = B) (w1 := w9) (Fr.trans (S := fun b => b = B) (w1 := wr) HR.out.2.2 k9 (fun q hq e => by have := (nso q e).1; omega)) (Fr.set (S := fun b => b = B) (Fr.refl _ _) _ _ (fun _ => rfl)) (fun _ _ q => q))
          go_roundg (l - (m + 1))
          case rel =>
            refine ⟨m + 1, _, rfl, by omega, rfl, Lib.hid ⟨HB9.out.put rfl, ?_, fz⟩⟩
            have e : nmsF (m + 1) = nmsF m ++ [[cb]] := by unfold nmsF; rw [List.range_succ, List.map_append, List.map_singleton, HCB.out]
            rw [e, strC_snoc]
            exact owns_frS HO.out.1 (Fr.set (S := fun b => b = B) (Fr.refl _ _) ⟨B, 4, none⟩ _ (fun _ => rfl)) (fun q e e2 => by
              have e3 : q = B := e2
              have := (HO.out.1.lt _ e).1
              omega)
          case measure => omega
        · have m1 : ¬ (m : Int) < (l : Int) := by omega
          have eml : m = l := by omega
          have ejk := HE.out
          subst eml
          subst ejk
          clear HE
          obtain ⟨kc, hk1, hk2⟩ := HQ.out.2.2.1.row lawE
          have hk1' := hk1.mono (Y := fun b => b = B) (by decide) (fun b hb q => by have q' : b = B := q; omega)
          have hk2' := fun i hi => (hk2 i hi).mono (Y := fun b => b = B) (fun b hb q => by have q' : b = B := q; omega)
          have hF : Fr (fun b => b = B) _ wr := (Fr.of_nil H3.out.2.1).comp HR.out.2.2
          have hE1 : EAt (fun _ => False) wr [.int .i64 2, .string ⟨#[67]⟩, .bool false, .int .u64 0, .slice none 0 0, .slice ua j uc, .slice none 0 0, .slice none 0 0] (appE j) := EAt.mono (kids_at (X := fun b => b = B) (kind := 2) (name := [67]) (hk1'.fr hF (fun _ q => q)) (fun i hi => (hk2' i hi).fr hF (fun _ q => q))) (fun _ _ q => q.elim)
          have lT := HQ.out.1.lt
          have lT1 := HQ.out.2.1.lt
          have bT := hF.blk HQ.out.1 (fun q => by have q' : T = B := q; omega)
          have bT1 := hF.blk HQ.out.2.1 (fun q => by have q' : T + 1 = B := q; omega)
          have bB := HR.out.1
          have hW : Fr Nil w wr := (Fr.trans (S := Nil) H2.out.2.2.1 HQ.out.2.2.2 (fun b hb q => absurd (show b = T + 1 from q) (by omega))).trans hF (fun b hb q => absurd (show b = B from q) (by have := H2.out.2.2.1.size; omega))
          obtain ⟨D, hD⟩ : ∃ D, wr.heap.size = D := ⟨_, rfl⟩
          go_upto_region 16 with fail
          try rw [hD]
          obtain ⟨W5, hW5⟩ : ∃ W5, wr.alloc (.cells #[.string ⟨#[67]⟩, .int .i64 (n : Int)] 49) = W5 := ⟨_, rfl⟩
          rw [hW5]
          have f5 : Fr Nil wr W5 := by rw [← hW5]; (repeat (first | (with_reducible exact Fr.refl _ _) | (with_reducible assumption) | (with_reducible exact Fr.of_nil (by assumption)) | (with_reducible refine Fr.drew ?_) | (with_reducible refine Fr.drewN ?_ _) | (with_reducible refine Fr.alloc ?_ _) | (with_reducible refine Fr.set ?_ _ _ (by first | (intros; omega) | (simp; done) | (simp; omega))) | (with_reducible refine Fr.via ?_ (by assumption)) | (with_reducible refine Fr.comp ?_ (by assumption))))
          have b5 : Blk W5 D #[.string ⟨#[67]⟩, .int .i64 (n : Int)] 49 := by rw [← hW5, ← hD]; exact Blk.new _ _ _
          have hT5 : W5.heap.size = D + 1 := by rw [← hW5]; simp [hD]
          have bT15 := f5.blk bT1 (fun q => q)
          have p0 := bT15.cell 0
          have p1 := bT15.cell 1
          have p2 := bT15.cell 2
          have p3 := bT15.cell 3
          have p4 := bT15.cell 4
          have p5 := bT15.cell 5
          have p6 := bT15.cell 6
          have p7 := bT15.cell 7
          simp at p0 p1 p2 p3 p4 p5 p6 p7
          have pl := bT15.lt
          obtain ⟨W6, hW6⟩ : ∃ W6, W5.alloc (.cells #[.string ⟨#[109, 97, 105, 110]⟩, .slice none 0 0, .int .i64 2, .string ⟨#[67]⟩, .bool false, .int .u64 0, .slice none 0 0, .slice ua j uc, .slice none 0 0, .slice none 0 0] 42) = W6 := ⟨_, rfl⟩
          have f6 : Fr Nil W5 W6 := by rw [← hW6]; (repeat (first | (with_reducible exact Fr.refl _ _) | (with_reducible assumption) | (with_reducible exact Fr.of_nil (by assumption)) | (with_reducible refine Fr.drew ?_) | (with_reducible refine Fr.drewN ?_ _) | (with_reducible refine Fr.alloc ?_ _) | (with_reducible refine Fr.set ?_ _ _ (by first | (intros; omega) | (simp; done) | (simp; omega))) | (with_reducible refine Fr.via ?_ (by assumption)) | (with_reducible refine Fr.comp ?_ (by assumption))))
          have b6 : Blk W6 (D + 1) #[.string ⟨#[109, 97, 105, 110]⟩, .slice none 0 0, .int .i64 2, .string ⟨#[67]⟩, .bool false, .int .u64 0, .slice none 0 0, .slice ua j uc, .slice none 0 0, .slice none 0 0] 42 := by rw [← hW6, ← hT5]; exact Blk.new _ _ _
          have hT6 : W6.heap.size = D + 2 := by rw [← hW6]; simp [hT5]
          obtain ⟨⟨RE, RN⟩, hR⟩ : ∃ R, arF (mdE n (appE j)) = R := ⟨_, rfl⟩
          have hck := acheck_md (f6.blk b5 (fun q => q)) b6 ((hE1.fr f5 (fun _ q => q)).fr f6 (fun _ q => q)) hn6 (app_ok j) (app_ws j) (count1w j (by omega)) (HT.out.fr (hW.comp (f5.comp f6))) hR
          have H6 := Lib.hid (And.intro (hW.comp (f5.comp f6)) (And.intro (f5.comp f6) (And.intro (f6.blk b5 (fun q => q)) (And.intro bT (And.intro bB (And.intro hR hT6))))))
          have HK := Lib.hid hck
          clear f5 b5 bT15 f6 b6 hck hR hW bT bB bT1 hE1 hk1 hk2 hk1' hk2' hF
          go_wp2_with fail
          try rw [hT5]
          try rw [hW6]
          refine HK.out.mono ?_
          rintro e W7 ⟨rfl, f7⟩
          have hN : RowS (fun _ => False) wr (.slice na m nz) (nmsF m) := RowS.of_own (base := B + 1) (by rw [show (nmsF m).length = m by simp [nmsF]]; exact HR.out.2.1) (fun _ q => q.elim)
          have g7 : Fr Nil wr W7 := H6.out.2.1.comp f7
          have bT7 := g7.blk H6.out.2.2.2.1 (fun q => q)
          have bB7 := g7.blk H6.out.2.2.2.2.1 (fun q => q)
          have b57 := f7.blk H6.out.2.2.1 (fun q => q)
          have hN7 := RowS.fr hN g7 (fun _ q => q)
          have HT7 := HT.out.fr (H6.out.1.comp f7)
          obtain ⟨D7, hD7⟩ : ∃ D7, W7.heap.size = D7 := ⟨_, rfl⟩
          clear p0 p1 p2 p3 p4 p5 p6 p7 pl hW6 hW5 hT5 hT6 hD HK
          have v0 := bT7.cell 0
          have v1 := bT7.cell 1
          have v2 := bT7.cell 2
          have v3 := bT7.cell 3
          have v4 := bT7.cell 4
          have v5 := bT7.cell 5
          have v6 := bT7.cell 6
          have v7 := bT7.cell 7
          have p0 := bB7.cell 0
          have p1 := bB7.cell 1
          have p2 := bB7.cell 2
          have p3 := bB7.cell 3
          have p4 := bB7.cell 4
          have p5 := bB7.cell 5
          have p6 := bB7.cell 6
          have p7 := bB7.cell 7
          have p8 := bB7.cell 8
          have p9 := bB7.cell 9
          have p10 := bB7.cell 10
          have p11 := bB7.cell 11
          have p12 := bB7.cell 12
          simp at v0 v1 v2 v3 v4 v5 v6 v7 p0 p1 p2 p3 p4 p5 p6 p7 p8 p9 p10 p11 p12
          have vl := bT7.lt
          have pl := bB7.lt
          rw [hD7] at vl pl
          go_wp2_with fail
          obtain ⟨W8, hW8⟩ : ∃ W8, W7.alloc (.cells #[.int .i64 3, .string ⟨#[]⟩, .bool false, .int .u64 0, .slice none 0 0, .slice none 0 0, .slice none 0 0, .slice none 0 0] 40) = W8 := ⟨_, rfl⟩
          obtain ⟨W9, hW9⟩ : ∃ W9, W8.alloc (.cells #[.int .i64 0, .string ⟨#[67]⟩, .bool false, .int .u64 0, .slice na m nz, .int .i64 3, .string ⟨#[]⟩, .bool false, .int .u64 0, .slice none 0 0, .slice none 0 0, .slice none 0 0, .slice none 0 0] 47) = W9 := ⟨_, rfl⟩
          obtain ⟨W10, hW10⟩ : ∃ W10, W9.alloc (.cells #[.string ⟨#[109, 97, 105, 110]⟩, .slice none 0 0, .int .i64 7, .string ⟨#[]⟩, .bool false, .int .u64 0, .slice none 0 0, .slice (some ⟨D7, 0, none⟩) 1 1, .slice none 0 0, .slice (some ⟨D7 + 1, 0, none⟩) 1 1] 42) = W10 := ⟨_, rfl⟩
          have f8 : Fr Nil W7 W8 := by rw [← hW8]; (repeat (first | (with_reducible exact Fr.refl _ _) | (with_reducible assumption) | (with_reducible exact Fr.of_nil (by assumption)) | (with_reducible refine Fr.drew ?_) | (with_reducible refine Fr.drewN ?_ _) | (with_reducible refine Fr.alloc ?_ _) | (with_reducible refine Fr.set ?_ _ _ (by first | (intros; omega) | (simp; done) | (simp; omega))) | (with_reducible refine Fr.via ?_ (by assumption)) | (with_reducible refine Fr.comp ?_ (by assumption))))
          have f9 : Fr Nil W8 W9 := by rw [← hW9]; (repeat (first | (with_reducible exact Fr.refl _ _) | (with_reducible assumption) | (with_reducible exact Fr.of_nil (by assumption)) | (with_reducible refine Fr.drew ?_) | (with_reducible refine Fr.drewN ?_ _) | (with_reducible refine Fr.alloc ?_ _) | (with_reducible refine Fr.set ?_ _ _ (by first | (intros; omega) | (simp; done) | (simp; omega))) | (with_reducible refine Fr.via ?_ (by assumption)) | (with_reducible refine Fr.comp ?_ (by assumption))))
          have f10 : Fr Nil W9 W10 := by rw [← hW10]; (repeat (first | (with_reducible exact Fr.refl _ _) | (with_reducible assumption) | (with_reducible exact Fr.of_nil (by assumption)) | (with_reducible refine Fr.drew ?_) | (with_reducible refine Fr.drewN ?_ _) | (with_reducible refine Fr.alloc ?_ _) | (with_reducible refine Fr.set ?_ _ _ (by first | (intros; omega) | (simp; done) | (simp; omega))) | (with_reducible refine Fr.via ?_ (by assumption)) | (with_reducible refine Fr.comp ?_ (by assumption))))
          have t8 : W8.heap.size = D7 + 1 := by rw [← hW8]; simp [hD7]
          have t9 : W9.heap.size = D7 + 1 + 1 := by rw [← hW9]; simp [t8]
          have k8 : Blk W8 D7 #[.int .i64 3, .string ⟨#[]⟩, .bool false, .int .u64 0, .slice none 0 0, .slice none 0 0, .slice none 0 0, .slice none 0 0] 40 := by rw [← hW8, ← hD7]; exact Blk.new _ _ _
          have k9 : Blk W9 (D7 + 1) #[.int .i64 0, .string ⟨#[67]⟩, .bool false, .int .u64 0, .slice na m nz, .int .i64 3, .string ⟨#[]⟩, .bool false, .int .u64 0, .slice none 0 0, .slice none 0 0, .slice none 0 0, .slice none 0 0] 47 := by rw [← hW9, ← t8]; exact Blk.new _ _ _
          have k10 : Blk W10 (D7 + 1 + 1) #[.string ⟨#[109, 97, 105, 110]⟩, .slice none 0 0, .int .i64 7, .string ⟨#[]⟩, .bool false, .int .u64 0, .slice none 0 0, .slice (some ⟨D7, 0, none⟩) 1 1, .slice none 0 0, .slice (some ⟨D7 + 1, 0, none⟩) 1 1] 42 := by rw [← hW10, ← t9]; exact Blk.new _ _ _
          have g10 : Fr Nil W7 W10 := (f8.comp f9).comp f10
          have hE2 : EAt (fun _ => False) W10 [.int .i64 7, .string ⟨#[]⟩, .bool false, .int .u64 0, .slice none 0 0, .slice (some ⟨D7, 0, none⟩) 1 1, .slice none 0 0, .slice (some ⟨D7 + 1, 0, none⟩) 1 1] (matE m) :=
            EAt.rows (kids := [litE]) (alts := [altT m]) (binds := []) (params := []) (kc := fun _ => [.int .i64 3, .string ⟨#[]⟩, .bool false, .int .u64 0, .slice none 0 0, .slice none 0 0, .slice none 0 0, .slice none 0 0]) (ac := fun _ => [.int .i64 0, .string ⟨#[67]⟩, .bool false, .int .u64 0, .slice na m nz, .int .i64 3, .string ⟨#[]⟩, .bool false, .int .u64 0, .slice none 0 0, .slice none 0 0, .slice none 0 0, .slice none 0 0]) (bc := fun _ => []) 7 [] RowC.nil (RowC.one ((f9.comp f10).blk k8 (fun q => q)) rfl id) (fun i hi => by
              have e0 : i = 0 := by simp at hi; exact hi
              subst e0
              exact lit_at) .nil (fun i h => absurd h (Nat.not_lt_zero i)) (RowC.one (f10.blk k9 (fun q => q)) rfl id) (fun i hi => by
              have e0 : i = 0 := by simp at hi; exact hi
              subst e0
              exact ⟨.slice na m nz, [.int .i64 3, .string ⟨#[]⟩, .bool false, .int .u64 0, .slice none 0 0, .slice none 0 0, .slice none 0 0, .slice none 0 0], rfl, RowS.fr hN7 g10 (fun _ q => q), lit_at⟩)
          obtain ⟨⟨SE, SN⟩, hS⟩ : ∃ R, arF (mdE n (matE m)) = R := ⟨_, rfl⟩
          have hck := acheck_md (g10.blk b57 (fun q => q)) k10 hE2 hn6 (mat_ok m) (mat_ws m) (count2w m (by omega)) (HT7.fr g10) hS
          have c1 := count1 n hn6 j (by omega)
          have c2 := count2 n hn6 m (by omega)
          rw [H6.out.2.2.2.2.2.1] at c1
          rw [hS] at c2
          have HC := Lib.hid (And.intro c1 c2)
          have HK := Lib.hid hck
          have H10 := Lib.hid ((H6.out.1.comp f7).comp g10)
          clear f8 f9 f10 t8 t9 k8 k9 k10 g10 hE2 hck hS c1 c2 bT7 bB7 b57 hN7 HT7 hN g7
          rw [hW8, hW9, hW10]
          refine HK.out.mono ?_
          rintro e W11 ⟨rfl, f11⟩
          have H11 := Lib.hid (H10.out.comp f11)
          clear HK H10 f11 f7 hW8 hW9 hW10 v0 v1 v2 v3 v4 v5 v6 v7 p0 p1 p2 p3 p4 p5 p6 p7 p8 p9 p10 p11 p12 vl pl hD7
          obtain ⟨c1, c2⟩ := HC.out
          by_cases nj : n = j
          · rw [if_pos nj] at c1
            injection c1 with a1 a2
            subst a1 a2 nj
            by_cases nm : n = m
            · rw [if_pos nm] at c2
              injection c2 with a3 a4
              subst a3 a4 nm
              go_wp2
              go_ret
              exact ⟨by simp, H11.out⟩
            · rw [if_neg nm] at c2
              injection c2 with a3 a4
              subst a3 a4
              have d1 : ((n : Int) == (m : Int)) = false := by rw [beq_eq_false_iff_ne]; omega
              have e1 : ¬ (n : Int) = (m : Int) := by omega
              clear nm
              go_wp2
              go_ret
              exact ⟨by simp, H11.out⟩
          · rw [if_neg nj] at c1
            injection c1 with a1 a2
            subst a1 a2
            have d2 : ((n : Int) == (j : Int)) = false := by rw [beq_eq_false_iff_ne]; omega
            have e2 : ¬ (n : Int) = (j : Int) := by omega
            clear nj
            by_cases nm : n = m
            · rw [if_pos nm] at c2
              injection c2 with a3 a4
              subst a3 a4 nm
              go_wp2
              go_ret
              exact ⟨by simp, H11.out⟩
            · rw [if_neg nm] at c2
              injection c2 with a3 a4
              subst a3 a4
              have d1 : ((n : Int) == (m : Int)) = false := by rw [beq_eq_false_iff_ne]; omega
              have e1 : ¬ (n : Int) = (m : Int) := by omega
              clear nm
              go_wp2
              go_ret
              exact ⟨by simp, H11.out⟩
end Go.Proofs.YtpjlibbdngnnnaaDoor
