/-
  Trees as they lie in memory (layer 8); a reader of tokens as it lies. No conditions.
-/
import Derived.BigQuiet
import Derived.StillTailTactics
import Derived.Test.YtlnmicddobgppaaGreatDoorNnC
import Derived.Test.YtlnmicddobgppaaGreatDoorNnE
import Derived.Test.YtlnmicddobgppaaGreatDoorNnA
namespace Go.Proofs.YtlnmicddobgppaaGreatDoor
set_option maxRecDepth 100000
set_option maxHeartbeats 4000000
set_option linter.unusedSimpArgs false
set_option linter.unusedVariables false
open Go.RowKit
def RowC (X : Nat → Prop) (w : World) (v : Value) (n size : Nat) (cs : Nat → List Value) : Prop :=
 ∃ a cap, v = .slice a n cap ∧ n ≤ cap ∧ cap ≤ maxLen ∧ ∀ i, i < n → ∃ b off, a = some ⟨b, off, none⟩ ∧ ¬ X b ∧ (cs i).length = size ∧ ∀ j u, (cs i)[j]? = some u → w.cell? ⟨b, off + i * size + j, none⟩ = some u
section
variable {X : Nat → Prop} {w w' : World} {v : Value} {n size : Nat} {cs : Nat → List Value}
theorem RowC.fr {S : Nat → Prop} (h : RowC X w v n size cs) (f : Fr S w w') (hs : ∀ b, S b → X b) : RowC X w' v n size cs := by
 obtain ⟨a, cap, rfl, h1, h2, hc⟩ := h
 refine ⟨a, cap, rfl, h1, h2, fun i hi => ?_⟩
 obtain ⟨b, off, rfl, hb, hl, hcell⟩ := hc i hi
 exact ⟨b, off, rfl, hb, hl, fun j u hj => f.cell (hcell j u hj) (fun q => hb (hs b q))⟩
theorem RowC.mono {Y : Nat → Prop} (h : RowC X w v n size cs) (hz : 0 < size) (hs : ∀ b, b < w.heap.size → Y b → X b) : RowC Y w v n size cs := by
 obtain ⟨a, cap, rfl, h1, h2, hc⟩ := h
 refine ⟨a, cap, rfl, h1, h2, fun i hi => ?_⟩
 obtain ⟨b, off, rfl, hb, hl, hcell⟩ := hc i hi
 exact ⟨b, off, rfl, fun q => hb (hs b (World.block_lt_of_cell? _ _ (hcell 0 _ (List.getElem?_eq_getElem (by omega)))) q), hl, hcell⟩
theorem RowC.nil {X : Nat → Prop} {w : World} {size : Nat} {cs : Nat → List Value} : RowC X w (.slice none 0 0) 0 size cs := ⟨none, 0, rfl, Nat.le_refl _, by unfold maxLen; omega, fun i hi => by omega⟩
theorem RowC.congr {ds : Nat → List Value} (h : RowC X w v n size cs) (e : ∀ i, i < n → cs i = ds i) : RowC X w v n size ds := by
 obtain ⟨a, cap, rfl, h1, h2, hc⟩ := h
 refine ⟨a, cap, rfl, h1, h2, fun i hi => ?_⟩
 rw [← e i hi]
 exact hc i hi
theorem RowC.shape (h : RowC X w v n size cs) : ∃ a cap, v = .slice a n cap := by
 obtain ⟨a, cap, rfl, _⟩ := h
 exact ⟨a, cap, rfl⟩
theorem RowC.at {a : Option Addr} {cap : Nat} (h : RowC X w (.slice a n cap) n size cs) {i : Nat} (hi : i < n) : ∃ b off, a = some ⟨b, off, none⟩ ∧ ¬ X b ∧ ∀ j u, (cs i)[j]? = some u → w.cell? ⟨b, off + i * size + j, none⟩ = some u := by
 obtain ⟨a1, cap1, e, h1, h2, hc⟩ := h
 cases e
 obtain ⟨b, off, rfl, hb, hl, hcell⟩ := hc i hi
 exact ⟨b, off, rfl, hb, hcell⟩
theorem RowC.of_own {base : Nat} {t : TypeId} {xs : List Value} (h : w.ownsRow base t size v n xs) (hX : ∀ b, X b → b < base) (hl : ∀ i, i < n → (cs i).length = size) (hc : ∀ i, i < n → ∀ j u, (cs i)[j]? = some u → xs[i * size + j]? = some u) : RowC X w v n size cs := by
 rcases h.2 with ⟨rfl, rfl⟩ | ⟨g, cap, cur, rfl, h1, hb, h2, h3, h4, h5⟩
 · exact .nil
 · refine ⟨_, cap, rfl, h2, h3, fun i hi => ⟨g, 0, rfl, fun q => by have := hX g q; omega, hl i hi, fun j u hj => ?_⟩⟩
   have hb' : Blk w g cur t := hb
   rw [Nat.zero_add, hb'.cell]
   have hx := hc i hi j u hj
   rw [← h5] at hx
   have hlt : i * size + j < n * size := by
    have h1 := hl i hi
    have h2 := List.getElem?_eq_some_iff.1 hj
    obtain ⟨h2, _⟩ := h2
    have h3 : i * size + size ≤ n * size := by
     have := Nat.mul_le_mul_right size (show i + 1 ≤ n from hi)
     rw [Nat.add_mul, Nat.one_mul] at this
     exact this
    omega
   rw [List.getElem?_take_of_lt hlt] at hx
   simpa using hx
end
def RowS (X : Nat → Prop) (w : World) (v : Value) (l : List (List UInt8)) : Prop := RowC X w v l.length 1 (fun i => [.string ⟨(l.getD i []).toArray⟩])
inductive EAt (X : Nat → Prop) (w : World) : List Value → TE → Prop
 | mk {kind : Nat} {name : List UInt8} {flt : Bool} {bits : Nat} {params : List (List UInt8)} {kids : List TE} {binds : List TB} {alts : List TA} {pv kv bv av : Value}
  (kc bc ac be ae : Nat → List Value) (bp an : Nat → Value)
  (hp : RowS X w pv params)
  (hk : RowC X w kv kids.length 8 kc) (hk2 : ∀ i (h : i < kids.length), EAt X w (kc i) kids[i])
  (hb : RowC X w bv binds.length 10 bc) (hb1 : ∀ i (h : i < binds.length), bc i = .string ⟨binds[i].name.toArray⟩ :: bp i :: be i) (hb2 : ∀ i (h : i < binds.length), RowS X w (bp i) binds[i].params) (hb3 : ∀ i (h : i < binds.length), EAt X w (be i) binds[i].body)
  (ha : RowC X w av alts.length 13 ac) (ha1 : ∀ i (h : i < alts.length), ac i = .int .i64 (alts[i].kind : Int) :: .string ⟨alts[i].name.toArray⟩ :: .bool alts[i].flt :: .int .u64 (alts[i].bits : Int) :: an i :: ae i) (ha2 : ∀ i (h : i < alts.length), RowS X w (an i) alts[i].names) (ha3 : ∀ i (h : i < alts.length), EAt X w (ae i) alts[i].body) :
  EAt X w [.int .i64 (kind : Int), .string ⟨name.toArray⟩, .bool flt, .int .u64 (bits : Int), pv, kv, bv, av] (.mk kind name flt bits params kids binds alts)
section
variable {X : Nat → Prop} {w w' : World}
theorem RowS.fr {S : Nat → Prop} {v : Value} {l : List (List UInt8)} (h : RowS X w v l) (f : Fr S w w') (hs : ∀ b, S b → X b) : RowS X w' v l := RowC.fr h f hs
theorem EAt.fr {S : Nat → Prop} {cs : List Value} {t : TE} (h : EAt X w cs t) (f : Fr S w w') (hs : ∀ b, S b → X b) : EAt X w' cs t := by
 induction h with
 | mk kc bc ac be ae bp an hp hk hk2 hb hb1 hb2 hb3 ha ha1 ha2 ha3 ik ib ia =>
  exact .mk kc bc ac be ae bp an (hp.fr f hs) (hk.fr f hs) ik (hb.fr f hs) hb1 (fun i h => (hb2 i h).fr f hs) ib (ha.fr f hs) ha1 (fun i h => (ha2 i h).fr f hs) ia
theorem EAt.mono {Y : Nat → Prop} {cs : List Value} {t : TE} (h : EAt X w cs t) (hs : ∀ b, b < w.heap.size → Y b → X b) : EAt Y w cs t := by
 induction h with
 | mk kc bc ac be ae bp an hp hk hk2 hb hb1 hb2 hb3 ha ha1 ha2 ha3 ik ib ia =>
  exact .mk kc bc ac be ae bp an (RowC.mono hp (by decide) hs) (hk.mono (by decide) hs) ik (hb.mono (by decide) hs) hb1 (fun i h => RowC.mono (hb2 i h) (by decide) hs) ib (ha.mono (by decide) hs) ha1 (fun i h => RowC.mono (ha2 i h) (by decide) hs) ia
theorem EAt.zero : EAt X w [.int .i64 0, .string ⟨#[]⟩, .bool false, .int .u64 0, .slice none 0 0, .slice none 0 0, .slice none 0 0, .slice none 0 0] zeroE :=
 .mk (kind := 0) (bits := 0) (name := []) (params := []) (kids := []) (binds := []) (alts := []) (fun _ => []) (fun _ => []) (fun _ => []) (fun _ => []) (fun _ => []) (fun _ => .bool false) (fun _ => .bool false) .nil .nil (fun i h => absurd h (Nat.not_lt_zero i)) .nil (fun i h => absurd h (Nat.not_lt_zero i)) (fun i h => absurd h (Nat.not_lt_zero i)) (fun i h => absurd h (Nat.not_lt_zero i)) .nil (fun i h => absurd h (Nat.not_lt_zero i)) (fun i h => absurd h (Nat.not_lt_zero i)) (fun i h => absurd h (Nat.not_lt_zero i))
theorem EAt.len {cs : List Value} {t : TE} (h : EAt X w cs t) : cs.length = 8 := by cases h; rfl
end
structure PAt (w : World) (pb : Nat) (vT : Value) (L : List TokV) (s : PS) : Prop where
 blk : Blk w pb #[vT, .int .i64 (s.at_ : Int), .int .i64 (s.e : Int), .int .i64 (s.line : Int)] 76
 toks : RowC (fun b => b = pb) w vT L.length 5 (fun i => tokCells (L.getD i (none_ 0)))
 le : s.at_ ≤ L.length
 sz : L.length ≤ 1000000
theorem PAt.fr {w w' : World} {pb : Nat} {vT : Value} {L : List TokV} {s : PS} (h : PAt w pb vT L s) (f : Fr Nil w w') : PAt w' pb vT L s := ⟨f.blk h.blk (fun q => q), h.toks.fr f (fun _ q => q.elim), h.le, h.sz⟩
theorem PAt.to {w w' : World} {pb : Nat} {vT : Value} {L : List TokV} {s t : PS} (h : PAt w pb vT L s) (f : Fr (fun b => b = pb) w w') (hb : Blk w' pb #[vT, .int .i64 (t.at_ : Int), .int .i64 (t.e : Int), .int .i64 (t.line : Int)] 76) (hl : t.at_ ≤ L.length) : PAt w' pb vT L t :=
 ⟨hb, h.toks.fr f (fun _ q => q), hl, h.sz⟩
section
variable {w : World} {pb : Nat} {vT : Value} {L : List TokV} {s : PS}
theorem PAt.facts (h : PAt w pb vT L s) : w.cell? ⟨pb, 0, none⟩ = some vT ∧ w.cell? ⟨pb, 1, none⟩ = some (.int .i64 (s.at_ : Int)) ∧ w.cell? ⟨pb, 2, none⟩ = some (.int .i64 (s.e : Int)) ∧ w.cell? ⟨pb, 3, none⟩ = some (.int .i64 (s.line : Int)) ∧ (∀ o, w.frozen? ⟨pb, o, none⟩ = false) ∧ pb < w.heap.size := by
 have h0 := h.blk.cell 0
 have h1 := h.blk.cell 1
 have h2 := h.blk.cell 2
 have h3 := h.blk.cell 3
 simp at h0 h1 h2 h3
 exact ⟨h0, h1, h2, h3, fun o => h.blk.free o, h.blk.lt⟩
theorem PAt.tok {a : Option Addr} {cap : Nat} (h : PAt w pb (.slice a L.length cap) L s) {i : Nat} (hi : i < L.length) : ∃ b off, a = some ⟨b, off, none⟩ ∧ b < w.heap.size ∧ b ≠ pb ∧ w.cell? ⟨b, off + i * 5, none⟩ = some (.int .i64 L[i].kind) ∧ w.cell? ⟨b, off + i * 5 + 1, none⟩ = some (.string ⟨L[i].text.toArray⟩) ∧ w.cell? ⟨b, off + i * 5 + 2, none⟩ = some (.bool L[i].flt) ∧ w.cell? ⟨b, off + i * 5 + 3, none⟩ = some (.int .u64 (L[i].bits : Int)) ∧ w.cell? ⟨b, off + i * 5 + 4, none⟩ = some (.int .i64 (L[i].line : Int)) := by
 obtain ⟨b, off, rfl, hb, hc⟩ := h.toks.at hi
 have e : L.getD i (none_ 0) = L[i] := by simp [List.getD, hi]
 rw [e] at hc
 have h0 := hc 0 _ rfl
 exact ⟨b, off, rfl, World.block_lt_of_cell? _ _ h0, hb, h0, hc 1 _ rfl, hc 2 _ rfl, hc 3 _ rfl, hc 4 _ rfl⟩
theorem pkind_any (h : PAt w pb vT L s) :
 Calls Tryz.prog 57 #[.pointer (some ⟨pb, 0, none⟩)] w fun e w' => e = .returned (.int .i64 (kindP L s)) ∧ Fr Nil w w' := by
 obtain ⟨a, cap, rfl⟩ := h.toks.shape
 obtain ⟨p0, p1, p2, p3, pf, pl⟩ := h.facts
 obtain ⟨n, hn⟩ : ∃ n, L.length = n := ⟨_, rfl⟩
 by_cases hlt : s.at_ < L.length
 · obtain ⟨b, off, rfl, hb, hbp, t0, t1, t2, t3, t4⟩ := h.tok hlt
   have e : kindP L s = L[s.at_].kind := by simp [kindP, List.getElem?_eq_getElem hlt]
   rw [e]
   rw [hn] at p0 hlt
   generalize L[s.at_].kind = kd at t0 ⊢
   have i1 : (s.at_ : Int) < (n : Int) := by omega
   have i0 : (0 : Int) ≤ (s.at_ : Int) := by omega
   clear h t1 t2 t3 t4 hn p2 p3 e
   go_enter Tryz.func57, Tryz.ntmps57
   go_wp2
   go_quiet (fail)
   go_wp2
   go_quiet (fail)
   go_wp2
   go_ret
   exact ⟨rfl, by exact frA⟩
 · have e : kindP L s = 0 := by simp [kindP, List.getElem?_eq_none (Nat.le_of_not_lt hlt)]
   rw [e]
   rw [hn] at p0 hlt
   have i1 : ¬ (s.at_ : Int) < (n : Int) := by omega
   clear h hn p2 p3 e
   go_enter Tryz.func57, Tryz.ntmps57
   go_wp2
   go_quiet (fail)
   go_wp2
   go_ret
   exact ⟨rfl, by exact frA⟩
theorem psees_any (x : List UInt8) (h : PAt w pb vT L s) :
 Calls Tryz.prog 25 #[.pointer (some ⟨pb, 0, none⟩), .string ⟨x.toArray⟩] w fun e w' => e = .returned (.bool (seesF L x s)) ∧ Fr Nil w w' := by
 have HP := Lib.hid h
 have HK := Lib.hid (pkind_any h)
 by_cases hk : kindP L s = 5 ∨ kindP L s = 6
 · have hlt : s.at_ < L.length := by rcases hk with q | q <;> exact kind_lt q (by decide)
   obtain ⟨a, cap, rfl⟩ := h.toks.shape
   have e : seesF L x s = (L[s.at_].text == x) := by
    have ek : kindP L s = L[s.at_].kind := by simp [kindP, List.getElem?_eq_getElem hlt]
    rw [ek] at hk
    unfold seesF
    rw [List.getElem?_eq_getElem hlt]
    rw [Bool.beq_eq_decide_eq]
    rcases hk with q | q <;> simp [q]
   obtain ⟨tx, htx⟩ : ∃ tx, L[s.at_].text = tx := ⟨_, rfl⟩
   rw [e, htx]
   obtain ⟨n, hn⟩ : ∃ n, L.length = n := ⟨_, rfl⟩
   clear h
   go_enter Tryz.func25, Tryz.ntmps25
   go_wp2_with fail
   refine HK.out.mono ?_
   rintro e w1 ⟨rfl, f1⟩
   have h1 := HP.out.fr f1
   obtain ⟨p0, p1, p2, p3, pf, pl⟩ := h1.facts
   obtain ⟨b, off, rfl, hb, hbp, t0, t1, t2, t3, t4⟩ := h1.tok hlt
   rw [hn] at p0 hlt
   rw [htx] at t1
   have i1 : (s.at_ : Int) < (n : Int) := by omega
   have i0 : (0 : Int) ≤ (s.at_ : Int) := by omega
   clear h1 t0 t2 t3 t4 p2 p3 hn htx e
   rcases hk with q | q
   · rw [q]
     go_wp2
     go_quiet (fail)
     go_wp2
     go_ret
     exact ⟨rfl, by exact frA⟩
   · rw [q]
     go_wp2
     go_quiet (fail)
     go_wp2
     go_ret
     exact ⟨rfl, by exact frA⟩
 · have e : seesF L x s = false := by
    unfold seesF
    split
    · rename_i t ht
      have ek : kindP L s = t.kind := by simp [kindP, ht]
      rw [ek] at hk
      have h5 : ¬ t.kind = 5 := fun q => hk (.inl q)
      have h6 : ¬ t.kind = 6 := fun q => hk (.inr q)
      simp [h5, h6]
    · rfl
   rw [e]
   generalize kindP L s = kd at hk HK
   have h5 : ¬ kd = 5 := fun q => hk (.inl q)
   have h6 : ¬ kd = 6 := fun q => hk (.inr q)
   have d5 := decide_eq_false h5
   have d6 := decide_eq_false h6
   clear h e hk
   go_enter Tryz.func25, Tryz.ntmps25
   go_wp2_with fail
   refine HK.out.mono ?_
   rintro e w1 ⟨rfl, f1⟩
   go_wp2
   go_quiet (fail)
   go_wp2
   go_ret
   exact ⟨rfl, by exact frA⟩
theorem pfault_any (e : Nat) (h : PAt w pb vT L s) :
 Calls Tryz.prog 59 #[.pointer (some ⟨pb, 0, none⟩), .int .i64 (e : Int)] w fun r w' => r = .returned (.tuple #[]) ∧ PAt w' pb vT L (faultF L e s) ∧ Fr (fun b => b = pb) w w' := by
 obtain ⟨p0, p1, p2, p3, pf, pl⟩ := h.facts
 have HP := Lib.hid h
 by_cases he : s.e = 0
 · by_cases hlt : s.at_ < L.length
   · obtain ⟨a, cap, rfl⟩ := h.toks.shape
     obtain ⟨b, off, rfl, hb, hbp, t0, t1, t2, t3, t4⟩ := h.tok hlt
     have e1 : faultF L e s = ⟨s.at_, e, L[s.at_].line⟩ := by unfold faultF; rw [if_neg (by simpa using he), List.getElem?_eq_getElem hlt]
     rw [e1]
     obtain ⟨ln, hln⟩ : ∃ ln, L[s.at_].line = ln := ⟨_, rfl⟩
     rw [hln] at t4 ⊢
     obtain ⟨n, hn⟩ : ∃ n, L.length = n := ⟨_, rfl⟩
     have i0 : (0 : Int) ≤ (s.at_ : Int) := by omega
     have i1 : (s.at_ : Int) < (n : Int) := by omega
     have i2 : (s.e : Int) = 0 := by omega
     have d2 := decide_eq_true i2
     have hle : s.at_ ≤ L.length := by omega
     rw [hn] at p0
     clear h e1 t0 t1 t2 t3 hln
     go_enter Tryz.func59, Tryz.ntmps59
     go_upto_region 2 with fail
     obtain ⟨V, hV⟩ : ∃ V, w.setCell ⟨pb, 2, none⟩ (.int .i64 (e : Int)) = V := ⟨_, rfl⟩
     rw [hV]
     have bV : Blk V pb #[.slice (some ⟨b, off, none⟩) L.length cap, .int .i64 (s.at_ : Int), .int .i64 (e : Int), .int .i64 (s.line : Int)] 76 := by
      rw [← hV]
      (unfold Blk; simp (disch := first | omega | (simp; done) | (simp; omega)) only [hp_drew, hp_drewN, hp_alloc, hp_other, hp_same, hp_new, upd_cells, Option.map_some, (HP.out.blk).eq])
      simp
     have fV : Fr (fun b => b = pb) w V := by rw [← hV]; exact frG
     clear hV p0 p1 p2 p3 pf pl
     have p0 := bV.cell 0
     have p1 := bV.cell 1
     have p2 := bV.cell 2
     have p3 := bV.cell 3
     simp only [hn] at p0 p1 p2 p3
     simp at p0 p1 p2 p3
     have pf := bV.free
     have pl := bV.lt
     have t4 := fV.cell t4 hbp
     have hb := fV.lt hb
     have HV := Lib.hid (And.intro bV fV)
     clear bV fV
     go_quiet (fail)
     go_upto_region 3 with fail
     obtain ⟨V2, hV2⟩ : ∃ V2, V.drewN nq = V2 := ⟨_, rfl⟩
     rw [hV2]
     have f2 : Fr Nil V V2 := by rw [← hV2]; exact frA
     have p0 := f2.cell p0 (by simp [Nil])
     have p1 := f2.cell p1 (by simp [Nil])
     have p3 := f2.cell p3 (by simp [Nil])
     have t4 := f2.cell t4 (by simp [Nil])
     have hb := f2.lt hb
     have pl := f2.lt pl
     have b2 := f2.blk HV.out.1 (fun q => q)
     have pf := b2.free
     have HV2 := Lib.hid (And.intro b2 (HV.out.2.via f2))
     clear hV2 b2 f2
     go_still_tail 14, (by kernel_rfl)
     change wpList _ _ _ _ _ V2.drew
     go_wp2
     ((try simp only [Exit.inBlock, Exit.then]); refine bodyPost_ret (results_none rfl _ _ _) rfl ?_)
     exact ⟨rfl, HP.out.to (HV2.out.2.comp (by exact frG)) (by (unfold Blk; simp (disch := first | omega | (simp; done) | (simp; omega)) only [hp_drew, hp_drewN, hp_alloc, hp_other, hp_same, hp_new, upd_cells, Option.map_some, (HV2.out.1).eq]); simp [hn]) hle, HV2.out.2.comp (by exact frG)⟩
   · have hge : L.length ≤ s.at_ := by omega
     have e1 : faultF L e s = ⟨s.at_, 17, (L.getLast?.map (·.line)).getD 1⟩ := by unfold faultF; rw [if_neg (by simpa using he), List.getElem?_eq_none hge]
     rw [e1]
     have i2 : (s.e : Int) = 0 := by omega
     have d2 := decide_eq_true i2
     have hle : s.at_ ≤ L.length := h.le
     obtain ⟨a, cap, rfl⟩ := h.toks.shape
     by_cases hz : 0 < L.length
     · have hl1 : L.length - 1 < L.length := by omega
       obtain ⟨b, off, rfl, hb, hbp, t0, t1, t2, t3, t4⟩ := h.tok hl1
       have e2 : (L.getLast?.map (·.line)).getD 1 = L[L.length - 1].line := by rw [List.getLast?_eq_getElem?, List.getElem?_eq_getElem hl1]; rfl
       rw [e2]
       obtain ⟨ln, hln⟩ : ∃ ln, L[L.length - 1].line = ln := ⟨_, rfl⟩
       rw [hln] at t4 ⊢
       obtain ⟨n, hn⟩ : ∃ n, L.length = n := ⟨_, rfl⟩
       rw [hn] at p0 t4
       obtain ⟨n1, hn1⟩ : ∃ n1, n = n1 + 1 := ⟨n - 1, by omega⟩
       rw [show n - 1 = n1 by omega] at t4
       have i1 : ¬ (s.at_ : Int) < (n : Int) := by omega
       have i3 : (0 : Int) < (n : Int) := by omega
       have i4 : IntKind.i64.wrap ((n : Int) - 1) = (n1 : Int) := by have := h.sz; rw [IntKind.wrap_i64]; omega
       have i5 : (0 : Int) ≤ (n1 : Int) := by omega
       have i6 : (n1 : Int) < (n : Int) := by omega
       clear h e1 e2 t0 t1 t2 t3 hln hn1
       go_enter Tryz.func59, Tryz.ntmps59
       go_upto_region 2 with fail
       obtain ⟨V, hV⟩ : ∃ V, w.setCell ⟨pb, 2, none⟩ (.int .i64 (e : Int)) = V := ⟨_, rfl⟩
       rw [hV]
       have bV : Blk V pb #[.slice (some ⟨b, off, none⟩) L.length cap, .int .i64 (s.at_ : Int), .int .i64 (e : Int), .int .i64 (s.line : Int)] 76 := by
        rw [← hV]
        (unfold Blk; simp (disch := first | omega | (simp; done) | (simp; omega)) only [hp_drew, hp_drewN, hp_alloc, hp_other, hp_same, hp_new, upd_cells, Option.map_some, (HP.out.blk).eq])
        simp
       have fV : Fr (fun b => b = pb) w V := by rw [← hV]; exact frG
       clear hV p0 p1 p2 p3 pf pl
       have p0 := bV.cell 0
       have p1 := bV.cell 1
       have p2 := bV.cell 2
       have p3 := bV.cell 3
       simp only [hn] at p0 p1 p2 p3
       simp at p0 p1 p2 p3
       have pf := bV.free
       have pl := bV.lt
       have t4 := fV.cell t4 hbp
       have hb := fV.lt hb
       have HV := Lib.hid (And.intro bV fV)
       clear bV fV
       go_quiet (fail)
       go_upto_region 7 with fail
       obtain ⟨V2, hV2⟩ : ∃ V2, ((V.drewN nq).setCell ⟨pb, 2, none⟩ (.int .i64 17)).setCell ⟨pb, 3, none⟩ (.int .i64 1) = V2 := ⟨_, rfl⟩
       rw [hV2]
       have b2 : Blk V2 pb #[.slice (some ⟨b, off, none⟩) L.length cap, .int .i64 (s.at_ : Int), .int .i64 17, .int .i64 1] 76 := by
        rw [← hV2]
        (unfold Blk; simp (disch := first | omega | (simp; done) | (simp; omega)) only [hp_drew, hp_drewN, hp_alloc, hp_other, hp_same, hp_new, upd_cells, Option.map_some, (HV.out.1).eq])
        simp
       have f2 : Fr (fun b => b = pb) V V2 := by rw [← hV2]; exact frG
       have t4 := f2.cell t4 hbp
       have hb := f2.lt hb
       clear hV2 p0 p1 p2 p3 pf pl
       have p0 := b2.cell 0
       have p3 := b2.cell 3
       simp only [hn] at p0 p3
       simp at p0 p3
       have pf := b2.free
       have pl := b2.lt
       have HV2 := Lib.hid (And.intro b2 (HV.out.2.comp f2))
       clear b2 f2
       go_still_tail 16, (by kernel_rfl)
       change wpList _ _ _ _ _ V2.drew
       go_wp2
       go_end0
       rw [← hn]
       exact ⟨rfl, HP.out.to (t := ⟨s.at_, 17, ln⟩) (HV2.out.2.comp (by exact frG)) (by (unfold Blk; simp (disch := first | omega | (simp; done) | (simp; omega)) only [hp_drew, hp_drewN, hp_alloc, hp_other, hp_same, hp_new, upd_cells, Option.map_some, (HV2.out.1).eq]); simp [hn]) hle, HV2.out.2.comp (by exact frG)⟩
     · have hL : L = [] := List.eq_nil_of_length_eq_zero (by omega)
       subst hL
       have i1 : ¬ (s.at_ : Int) < ((0 : Nat) : Int) := by omega
       have i3 : ¬ (0 : Int) < ((0 : Nat) : Int) := by omega
       simp only [List.length_nil] at p0
       clear h e1
       go_enter Tryz.func59, Tryz.ntmps59
       go_wp2
       go_quiet (fail)
       go_wp2
       go_end0
       exact ⟨rfl, HP.out.to (by exact frG) (by (unfold Blk; simp (disch := first | omega | (simp; done) | (simp; omega)) only [hp_drew, hp_drewN, hp_alloc, hp_other, hp_same, hp_new, upd_cells, Option.map_some, (HP.out.blk).eq]); simp) hle, by exact frG⟩
 · have e1 : faultF L e s = s := by unfold faultF; rw [if_pos he]
   rw [e1]
   have i1 : ¬ (s.e : Int) = 0 := by omega
   have d1 := decide_eq_false i1
   clear h e1
   go_enter Tryz.func59, Tryz.ntmps59
   go_wp2
   ((try simp only [Exit.inBlock, Exit.then]); refine bodyPost_ret (results_none rfl _ _ _) rfl ?_)
   exact ⟨rfl, HP.out.fr (by exact frA), by exact frA⟩
end
section
variable {w : World} {pb : Nat} {vT : Value} {L : List TokV} {s : PS}
theorem pneed_any (x : List UInt8) (h : PAt w pb vT L s) :
 Calls Tryz.prog 28 #[.pointer (some ⟨pb, 0, none⟩), .string ⟨x.toArray⟩] w fun r w' => r = .returned (.tuple #[]) ∧ PAt w' pb vT L (needF L x s) ∧ Fr (fun b => b = pb) w w' := by
 obtain ⟨p0, p1, p2, p3, pf, pl⟩ := h.facts
 have HP := Lib.hid h
 have HS := Lib.hid (psees_any x h)
 by_cases he : s.e = 0
 · have i2 : (s.e : Int) = 0 := by omega
   rw [i2] at p2
   by_cases hx : seesF L x s = true
   · have hlt := sees_lt hx
     have hsz := h.sz
     have e1 : needF L x s = { s with at_ := s.at_ + 1 } := by unfold needF; rw [if_pos ⟨he, hx⟩]
     rw [e1]
     rw [hx] at HS
     have i3 : IntKind.i64.wrap ((s.at_ : Int) + 1) = (s.at_ : Int) + 1 := by rw [IntKind.wrap_i64]; omega
     have HE := Lib.hid he
     clear h e1 he i2
     go_enter Tryz.func28, Tryz.ntmps28
     go_wp2_with fail
     refine HS.out.mono ?_
     rintro e w1 ⟨rfl, f1⟩
     have h1 := HP.out.fr f1
     obtain ⟨p0, p1, p2, p3, pf, pl⟩ := h1.facts
     have H1 := Lib.hid (And.intro h1 f1)
     clear h1
     go_wp2
     ((try simp only [Exit.inBlock, Exit.then]); refine bodyPost_ret (results_none rfl _ _ _) rfl ?_)
     have f2 : Fr (fun b => b = pb) w1 (w1.setCell ⟨pb, 1, none⟩ (.int .i64 ((s.at_ : Int) + 1))) := by exact frG
     refine ⟨rfl, H1.out.1.to (t := { s with at_ := s.at_ + 1 }) f2 (by (unfold Blk; simp (disch := first | omega | (simp; done) | (simp; omega)) only [hp_drew, hp_drewN, hp_alloc, hp_other, hp_same, hp_new, upd_cells, Option.map_some, (H1.out.1.blk).eq]); simp) hlt, (Fr.of_nil H1.out.2).comp f2⟩
   · have e1 : needF L x s = faultF L 3 s := by unfold needF; rw [if_neg (fun q => hx q.2)]
     rw [e1]
     rw [show seesF L x s = false by simpa using hx] at HS
     clear h e1 he i2
     go_enter Tryz.func28, Tryz.ntmps28
     go_wp2_with fail
     refine HS.out.mono ?_
     rintro e w1 ⟨rfl, f1⟩
     go_wp2_with fail
     refine (pfault_any 3 (HP.out.fr f1)).mono ?_
     rintro e w2 ⟨rfl, h2, f2⟩
     go_wp2
     go_end0
     exact ⟨rfl, h2, (Fr.of_nil f1).comp f2⟩
 · have e1 : needF L x s = faultF L 3 s := by unfold needF; rw [if_neg (fun q => he q.1)]
   rw [e1]
   have i2 : ¬ (s.e : Int) = 0 := by omega
   have d2 := decide_eq_false i2
   have d3 : ((s.e : Int) == 0) = false := by simpa using i2
   clear h e1
   go_enter Tryz.func28, Tryz.ntmps28
   go_wp2_with fail
   refine (pfault_any 3 HP.out).mono ?_
   rintro e w2 ⟨rfl, h2, f2⟩
   go_wp2
   go_end0
   exact ⟨rfl, h2, f2⟩
theorem ptoken_any (k : Int) (hk : k ≠ 0) (h : PAt w pb vT L s) :
 Calls Tryz.prog 58 #[.pointer (some ⟨pb, 0, none⟩), .int .i64 k] w fun r w' => r = .returned (tokV (tokenF L k s).1) ∧ PAt w' pb vT L (tokenF L k s).2 ∧ Fr (fun b => b = pb) w w' := by
 obtain ⟨p0, p1, p2, p3, pf, pl⟩ := h.facts
 have HP := Lib.hid h
 have HK := Lib.hid (fun w' (f : Fr Nil w w') => pkind_any (h.fr f))
 by_cases he : s.e = 0
 · have i2 : (s.e : Int) = 0 := by omega
   rw [i2] at p2
   by_cases hx : kindP L s = k
   · have hlt := kind_lt hx hk
     have hsz := h.sz
     have e1 : tokenF L k s = (L[s.at_], { s with at_ := s.at_ + 1 }) := by unfold tokenF; rw [if_pos ⟨he, hx⟩, List.getElem?_eq_getElem hlt]; rfl
     rw [e1]
     obtain ⟨tk, htk⟩ : ∃ tk, L[s.at_] = tk := ⟨_, rfl⟩
     rw [htk]
     rw [hx] at HK
     have i3 : IntKind.i64.wrap ((s.at_ : Int) + 1) = (s.at_ : Int) + 1 := by rw [IntKind.wrap_i64]; omega
     have i4 : IntKind.i64.wrap ((s.at_ : Int) + 1 - 1) = (s.at_ : Int) := by rw [IntKind.wrap_i64]; omega
     have i5 : IntKind.i64.wrap (s.at_ : Int) = (s.at_ : Int) := by rw [IntKind.wrap_i64]; omega
     obtain ⟨n, hn⟩ : ∃ n, L.length = n := ⟨_, rfl⟩
     obtain ⟨a, cap, rfl⟩ := h.toks.shape
     have i6 : (s.at_ : Int) < (n : Int) := by omega
     have i7 : (0 : Int) ≤ (s.at_ : Int) := by omega
     have HN := Lib.hid (And.intro htk hn)
     clear h e1 he i2 htk hn
     go_enter Tryz.func58, Tryz.ntmps58
     go_wp2_with fail
     refine (HK.out _ (by exact frA)).mono ?_
     rintro e w1 ⟨rfl, f1⟩
     have fA : Fr Nil w w1 := Fr.trans (S := Nil) (by exact frA) f1 (fun _ _ q => q)
     have bT := f1.new
     have h1 := HP.out.fr fA
     obtain ⟨p0, p1, p2, p3, pf, pl'⟩ := h1.facts
     rw [HN.out.2] at p0
     go_upto_region 3 with fail
     obtain ⟨V, hV⟩ : ∃ V, w1.setCell ⟨pb, 1, none⟩ (.int .i64 ((s.at_ : Int) + 1)) = V := ⟨_, rfl⟩
     rw [hV]
     obtain ⟨T, hT⟩ : ∃ T, w.heap.size = T := ⟨_, rfl⟩
     rw [hT] at bT pl ⊢
     have hne : pb ≠ T := by omega
     have bV : Blk V pb #[.slice a L.length cap, .int .i64 ((s.at_ : Int) + 1), .int .i64 (s.e : Int), .int .i64 (s.line : Int)] 76 := by
      rw [← hV]
      (unfold Blk; simp (disch := first | omega | (simp; done) | (simp; omega)) only [hp_drew, hp_drewN, hp_alloc, hp_other, hp_same, hp_new, upd_cells, Option.map_some, (h1.blk).eq])
      simp
     have fV : Fr (fun b => b = pb) w1 V := by rw [← hV]; exact frG
     have bT := fV.blk bT (fun q => hne q.symm)
     obtain ⟨b, off, rfl, hb, hbp, t0, t1, t2, t3, t4⟩ := h1.tok hlt
     rw [HN.out.1] at t0 t1 t2 t3 t4
     have t0 := fV.cell t0 hbp
     have t1 := fV.cell t1 hbp
     have t2 := fV.cell t2 hbp
     have t3 := fV.cell t3 hbp
     have t4 := fV.cell t4 hbp
     have hb := fV.lt hb
     clear hV p0 p1 p2 p3 pf pl'
     have p0 := bV.cell 0
     have p1 := bV.cell 1
     simp only [HN.out.2] at p0
     simp at p0 p1
     have pf := bV.free
     have pl' := bV.lt
     have hTl := bT.lt
     have hTf := bT.free
     have hT0 := bT.cell 0
     have hT1 := bT.cell 1
     have hT2 := bT.cell 2
     have hT3 := bT.cell 3
     have hT4 := bT.cell 4
     simp at hT0 hT1 hT2 hT3 hT4
     have fWV : Fr (fun b => b = pb) w V := (Fr.of_nil fA).comp fV
     have HV := Lib.hid (And.intro bV bT)
     clear bV bT fV h1 fA f1
     go_still_tail 11, (by kernel_rfl)
     change wpList _ _ _ _ _ V.drew
     go_wp2
     subst hT
     (try simp only [Exit.inBlock, Exit.then])
     refine bodyPost_ret (v := tokV tk) (by simp [results, Tryz.results58, go_sem, tokV, *]) rfl ⟨rfl, ?_, ?_⟩
     · refine HP.out.to (t := { s with at_ := s.at_ + 1 }) (by exact frG) ?_ hlt
       (unfold Blk; simp (disch := first | omega | (simp; done) | (simp; omega)) only [hp_drew, hp_drewN, hp_alloc, hp_other, hp_same, hp_new, upd_cells, Option.map_some, (HV.out.1).eq])
       simp
     · exact frG
   · have e1 : tokenF L k s = (none_ 0, faultF L 3 s) := by unfold tokenF; rw [if_neg (fun q => hx q.2)]
     rw [e1]
     generalize kindP L s = kd at hx HK
     have d1 := decide_eq_false hx
     clear h e1 he i2
     go_enter Tryz.func58, Tryz.ntmps58
     go_wp2_with fail
     refine (HK.out _ (by exact frA)).mono ?_
     rintro e w1 ⟨rfl, f1⟩
     have fA : Fr Nil w w1 := Fr.trans (S := Nil) (by exact frA) f1 (fun _ _ q => q)
     have bT := f1.new
     go_wp2_with fail
     refine (pfault_any 3 (HP.out.fr fA)).mono ?_
     rintro e w2 ⟨rfl, h2, f2⟩
     have hne : pb ≠ w.heap.size := by omega
     have bT2 := f2.blk bT (fun q => hne q.symm)
     obtain ⟨T, hT⟩ : ∃ T, w.heap.size = T := ⟨_, rfl⟩
     rw [hT] at bT2 pl hne ⊢
     have hTl := bT2.lt
     have hTf := bT2.free
     have hT0 := bT2.cell 0
     have hT1 := bT2.cell 1
     have hT2 := bT2.cell 2
     have hT3 := bT2.cell 3
     have hT4 := bT2.cell 4
     simp at hT0 hT1 hT2 hT3 hT4
     have fW2 : Fr (fun b => b = pb) w w2 := (Fr.of_nil fA).comp f2
     have H2 := Lib.hid (And.intro h2 bT2)
     clear h2 bT2 bT f1 fA f2
     go_wp2
     subst hT
     (try simp only [Exit.inBlock, Exit.then])
     refine bodyPost_ret (v := tokV (none_ 0)) (by simp [results, Tryz.results58, go_sem, tokV, none_, *]) rfl ⟨rfl, ?_, ?_⟩
     · refine HP.out.to (t := faultF L 3 s) (by exact frG) ?_ H2.out.1.le
       exact blk1 H2.out.1.blk
     · exact frG
 · have e1 : tokenF L k s = (none_ 0, faultF L 3 s) := by unfold tokenF; rw [if_neg (fun q => he q.1)]
   rw [e1]
   have i2 : ¬ (s.e : Int) = 0 := by omega
   have d2 := decide_eq_false i2
   have d3 : ((s.e : Int) == 0) = false := by simpa using i2
   clear h e1
   go_enter Tryz.func58, Tryz.ntmps58
   go_wp2_with fail
   have bT : Blk (w.alloc (.cells #[.int .i64 0, .string ⟨#[]⟩, .bool false, .int .u64 0, .int .i64 0] 41)) w.heap.size #[.int .i64 0, .string ⟨#[]⟩, .bool false, .int .u64 0, .int .i64 0] 41 := Blk.new _ _ _
   have fA : Fr Nil w (w.alloc (.cells #[.int .i64 0, .string ⟨#[]⟩, .bool false, .int .u64 0, .int .i64 0] 41)) := by exact frA
   refine (pfault_any 3 (HP.out.fr fA)).mono ?_
   rintro e w2 ⟨rfl, h2, f2⟩
   have hne : pb ≠ w.heap.size := by omega
   have bT2 := f2.blk bT (fun q => hne q.symm)
   obtain ⟨T, hT⟩ : ∃ T, w.heap.size = T := ⟨_, rfl⟩
   rw [hT] at bT2 pl hne ⊢
   have hTl := bT2.lt
   have hTf := bT2.free
   have hT0 := bT2.cell 0
   have hT1 := bT2.cell 1
   have hT2 := bT2.cell 2
   have hT3 := bT2.cell 3
   have hT4 := bT2.cell 4
   simp at hT0 hT1 hT2 hT3 hT4
   have fW2 : Fr (fun b => b = pb) w w2 := (Fr.of_nil fA).comp f2
   have H2 := Lib.hid (And.intro h2 bT2)
   clear h2 bT2 bT fA f2
   go_wp2
   subst hT
   (try simp only [Exit.inBlock, Exit.then])
   refine bodyPost_ret (v := tokV (none_ 0)) (by simp [results, Tryz.results58, go_sem, tokV, none_, *]) rfl ⟨rfl, ?_, ?_⟩
   · refine HP.out.to (t := faultF L 3 s) (by exact frG) ?_ H2.out.1.le
     exact blk1 H2.out.1.blk
   · exact frG
end
theorem owns_frS {S : Nat → Prop} {w w' : World} {base size n : Nat} {t : TypeId} {u : Value} {xs : List Value} (h : w.ownsRow base t size u n xs) (f : Fr S w w') (hn : ∀ k, u.ownBlock = some k → ¬ S k) : w'.ownsRow base t size u n xs := by
 obtain ⟨h1, h2⟩ := h
 refine ⟨h1, ?_⟩
 rcases h2 with h2 | ⟨g, cap, cur, hv, hg, hh, r⟩
 · exact Or.inl h2
 · have hb : Blk w g cur t := hh
   exact Or.inr ⟨g, cap, cur, hv, hg, f.blk hb (hn g (by rw [hv]; rfl)), r⟩
theorem PAt.keep {S : Nat → Prop} {w w2 w3 : World} {pb : Nat} {vT : Value} {L : List TokV} {s st : PS} (h0 : PAt w pb vT L s) (F : Fr (fun b => b = pb) w w3) (h2 : PAt w2 pb vT L st) (g : Fr S w2 w3) (hS : ¬ S pb) : PAt w3 pb vT L st :=
 ⟨g.blk h2.blk hS, h0.toks.fr F (fun _ q => q), h2.le, h2.sz⟩
theorem wpList_push {P : Program} {w : World} {ops : Array Oper} {rest : List Oper} {o : Oper} {a : Act} {Q : Exit → Act → World → Prop}
 (hg : o.guard = none) (s x : Operand) (t : TypeId) (hop : o.op = Op.call { callee := Callee.builtin Builtin.append, args := #[s, x], argTypes := #[t, t] })
 (base : Nat) (e : TypeId) (i : TypeInfo) (z : Value) (size bytes : Nat) (h1 : P.underlying t = some (.slice e)) (h2 : P.info? e = some i) (h3 : i.zero = some z) (h4 : i.size = size) (h5 : i.bytes = bytes) (h6 : z.cells.size = size) (h7 : 0 < size)
 (v : Value) (n : Nat) (xs : List Value) (hs : a.eval s = v) (hown : w.ownsRow base e size v n xs) (news : List Value) (hx : a.eval x = .slice (some ⟨w.heap.size, 0, none⟩) 1 1) (hl : news.length = size) (h1c : ∀ u ∈ news, u.oneCell' = true)
 (b1 : n + 1 ≤ maxLen) (b2 : (n + 1) * bytes ≤ 140737488355328) (hbase : base ≤ w.heap.size)
 (hK : ∀ v' w', w'.ownsRow base e size v' (n + 1) (xs ++ news) → Fr (fun k => v.ownBlock = some k) w w' → (∀ k, v'.ownBlock = some k → v.ownBlock = some k ∨ w.heap.size ≤ k) → wpList P ops Q rest (a.put o.dst v') w') : wpList P ops Q (o :: rest) a (w.alloc (.cells news.toArray e)) := by
 have hlt := hown.lt
 have fA : Fr Nil w (w.alloc (.cells news.toArray e)) := (Fr.refl _ _).alloc _
 have hb : Blk (w.alloc (.cells news.toArray e)) w.heap.size news.toArray e := Blk.new _ _ _
 refine wpList_append_src hg s x t hop base e i z size bytes h1 h2 h3 h4 h5 h6 h7 v n xs hs (owns_frS hown fA (fun _ _ q => q)) (some ⟨w.heap.size, 0, none⟩) 1 1 news hx (.inr ⟨_, rfl, by rw [hl]; omega, fun j u hj => ?_⟩) h1c b1 b2 (Nat.le_trans hbase fA.size) ?_
 · rw [add_head, hb.cell]
   simpa using hj
 · intro v' w' r1 r2 r3
   refine hK v' w' r1 (Fr.grown (fA.of_nil) r2 (fun k q _ => q)) (fun k q => ?_)
   rcases r3 with r3 | r3
   · exact .inl (r3 ▸ q)
   · rw [r3] at q
     cases q
     exact .inr fA.size
theorem infoS : (Tryz.prog.info? 9).map (fun i => (i.zero, i.size, i.bytes)) = some (some (.string ⟨#[]⟩), 1, 16) := by kernel_rfl
theorem infoE : (Tryz.prog.info? 49).map (fun i => (i.zero, i.size, i.bytes)) = some (some (.agg #[.int .i64 0, .string ⟨#[]⟩, .bool false, .int .u64 0, .slice none 0 0, .slice none 0 0, .slice none 0 0, .slice none 0 0]), 8, 136) := by kernel_rfl
theorem infoB : (Tryz.prog.info? 51).map (fun i => (i.zero, i.size, i.bytes)) = some (some (.agg #[.string ⟨#[]⟩, .slice none 0 0, .int .i64 0, .string ⟨#[]⟩, .bool false, .int .u64 0, .slice none 0 0, .slice none 0 0, .slice none 0 0, .slice none 0 0]), 10, 176) := by kernel_rfl
theorem infoA : (Tryz.prog.info? 120).map (fun i => (i.zero, i.size, i.bytes)) = some (some (.agg #[.int .i64 0, .string ⟨#[]⟩, .bool false, .int .u64 0, .slice none 0 0, .int .i64 0, .string ⟨#[]⟩, .bool false, .int .u64 0, .slice none 0 0, .slice none 0 0, .slice none 0 0, .slice none 0 0]), 13, 200) := by kernel_rfl
theorem infoD : (Tryz.prog.info? 68).map (fun i => (i.zero, i.size, i.bytes)) = some (some (.agg #[.string ⟨#[]⟩, .int .i64 0]), 2, 24) := by kernel_rfl
def strC (l : List (List UInt8)) : List Value := l.map (fun x => .string ⟨x.toArray⟩)
theorem strC_snoc (l : List (List UInt8)) (x : List UInt8) : strC (l ++ [x]) = strC l ++ [.string ⟨x.toArray⟩] := by simp [strC]
theorem RowS.of_own {X : Nat → Prop} {w : World} {base : Nat} {v : Value} {l : List (List UInt8)} (h : w.ownsRow base 9 1 v l.length (strC l)) (hX : ∀ b, X b → b < base) : RowS X w v l :=
 RowC.of_own h hX (fun i hi => rfl) (fun i hi j u hj => by
  cases j with
  | zero =>
   simp at hj
   subst hj
   have e : l[i]?.getD [] = l[i] := by simp [hi]
   simp [strC, hi]
  | succ j => simp at hj)
theorem run_tok1 (a b c d e : Value) (w : World) : (Instr.field 41 (.agg #[a, b, c, d, e]) 1).run Tryz.prog w = .ok b w := by kernel_rfl
section
variable {w : World} {pb : Nat} {vT : Value} {L : List TokV} {s : PS}
theorem pnames_any (least : Bool) (h : PAt w pb vT L s) :
 Calls Tryz.prog 60 #[.pointer (some ⟨pb, 0, none⟩), .int .i64 (if least then 1 else 0)] w fun r w' => ∃ v, r = .returned v ∧ RowS (fun b => b < w.heap.size) w' v (namesF L (fuelP L) least [] s).1 ∧ PAt w' pb vT L (namesF L (fuelP L) least [] s).2 ∧ Fr (fun b => b = pb) w w' := by
 obtain ⟨i0, hi, hz0, hz1, hz2⟩ := info_parts infoS
 obtain ⟨R, hR⟩ : ∃ R, namesF L (fuelP L) least [] s = R := ⟨_, rfl⟩
 rw [hR]
 obtain ⟨F, hF⟩ : ∃ F, fuelP L = F := ⟨_, rfl⟩
 have hm := measP_le L s
 rw [hF] at hR hm
 have hF2 : F ≤ 1000002 := by have := h.sz; unfold fuelP at hF; omega
 obtain ⟨lv, hlv⟩ : ∃ lv : Int, (if least then 1 else 0) = lv := ⟨_, rfl⟩
 rw [hlv]
 have hpl := h.blk.lt
 have HP := Lib.hid (And.intro h (And.intro hR (And.intro hlv hm)))
 have htf := run_tok1
 clear h hR hlv hm hF
 go_enter Tryz.func60, Tryz.ntmps60
 go_wp2_with fail
 go_loopg [1, 5] F (fun g lo vo wr => ∃ (ls : Bool) (li : Int) (acc : List (List UInt8)) (st : PS) (v : Value), lo = .int .i64 li ∧ v = vo ∧ acc.length + g = F ∧ Hid (namesF L g ls acc st = R ∧ measP L st + 1 ≤ g ∧ wr.ownsRow w.heap.size 9 1 v acc.length (strC acc) ∧ PAt wr pb vT L st ∧ li = (if ls = true then 1 else 0)) ∧ Fr (fun b => b = pb) w wr)
 case atStart => exact ⟨least, lv, [], s, _, rfl, rfl, by simp, Lib.hid ⟨HP.out.2.1, HP.out.2.2.2, World.ownsRow_nil _ _ _ _, HP.out.1, HP.out.2.2.1.symm⟩, Fr.refl _ _⟩
 case round =>
  obtain ⟨ls, li, acc, st, v, rfl, rfl, hg, HS, hw⟩ := hrel
  obtain ⟨p0, p1, p2, p3, pf, pl⟩ := HS.out.2.2.2.1.facts
  obtain ⟨cc, hcc⟩ : ∃ cc, decide (st.e = 0 ∧ (ls = true ∨ kindP L st = 1)) = cc := ⟨_, rfl⟩
  have HCC := Lib.hid hcc
  clear hcc
  go_upto_region 2 with fail
  go_cut [19] (fun sv wx => sv = .bool cc ∧ Fr Nil wr wx)
  case first =>
   by_cases he : st.e = 0
   · have i2 : (st.e : Int) = 0 := by omega
     rw [i2] at p2
     cases ls with
     | true =>
      obtain rfl : li = 1 := HS.out.2.2.2.2
      go_wp2
      go_meet
      exact ⟨by rw [← HCC.out]; simp [he], by exact frA⟩
     | false =>
      obtain rfl : li = 0 := HS.out.2.2.2.2
      have HK := Lib.hid (pkind_any HS.out.2.2.2.1)
      have hcc := HCC.out
      by_cases hk : kindP L st = 1
      · rw [decide_eq_true ⟨he, .inr hk⟩] at hcc
        rw [hk] at HK
        subst hcc
        clear hk i2
        go_wp2_with fail
        refine HK.out.mono ?_
        rintro e w1 ⟨rfl, f1⟩
        go_wp2
        go_meet
        exact ⟨rfl, by exact frA⟩
      · rw [decide_eq_false (fun q => by rcases q.2 with q | q; cases q; exact hk q)] at hcc
        subst hcc
        generalize kindP L st = kd at hk HK
        have d1 := decide_eq_false hk
        have d2 : (kd == 1) = false := by simpa using hk
        clear i2
        go_wp2_with fail
        refine HK.out.mono ?_
        rintro e w1 ⟨rfl, f1⟩
        go_wp2
        go_meet
        exact ⟨by simp [d2], by exact frA⟩
   · have i2 : ¬ (st.e : Int) = 0 := by omega
     have d3 : ((st.e : Int) == 0) = false := by simpa using i2
     have hcc := HCC.out
     rw [decide_eq_false (fun q => he q.1)] at hcc
     subst hcc
     go_wp2
     go_meet
     exact ⟨by simp [d3], by exact frA⟩
  case rest =>
   obtain ⟨rfl, f1⟩ := hcut
   obtain ⟨wx, hwx⟩ : ∃ wx, wc = wx := ⟨_, rfl⟩
   rw [hwx] at f1 ⊢
   clear hwx p0 p1 p2 p3 pf pl
   cases cc with
   | true =>
    obtain ⟨he, hk⟩ := of_decide_eq_true HCC.out
    have hT := token_meas (L := L) (k := 1) (by decide) he
    have HT := Lib.hid (ptoken_any 1 (by decide) (HS.out.2.2.2.1.fr f1))
    obtain ⟨f, hf⟩ : ∃ f, gk = f + 1 := ⟨gk - 1, by have := HS.out.2.1; omega⟩
    have hstep : namesF L f false (acc ++ [(tokenF L 1 st).1.text]) (tokenF L 1 st).2 = R := by
     have h := HS.out.1
     rw [hf] at h
     unfold namesF at h
     rw [if_pos ⟨he, hk⟩] at h
     exact h
    obtain ⟨tk, st', hts⟩ : ∃ tk st', tokenF L 1 st = (tk, st') := ⟨_, _, rfl⟩
    rw [hts] at HT hstep hT
    have hmf : measP L st' + 1 ≤ f := by have := HS.out.2.1; simp only at hT; omega
    have HR := Lib.hid (And.intro hstep hmf)
    clear hstep hT hts hk he hmf
    go_wp2_with fail
    refine HT.out.mono ?_
    rintro e w2 ⟨rfl, h2, f2⟩
    unfold tokV
    have fw2 : Fr (fun b => b = pb) w w2 := (hw.via f1).comp f2
    have hown2 : w2.ownsRow w.heap.size 9 1 v acc.length (strC acc) := owns_frS (owns_fr HS.out.2.2.1 f1) f2 (fun k q e => by
     have h := (HS.out.2.2.1.lt k q).1
     have e' : k = pb := e
     omega)
    have hs2 := fw2.size
    have hown3 := hown2.lt
    have H2 := Lib.hid (And.intro h2 (And.intro hown2 (And.intro fw2 hown3)))
    clear h2 hown2 fw2 f2 f1 hown3 HS HCC
    go_wp2_with (first
     | (at_builtin; refine wpList_push rfl (.tmp 20) (.tmp 24) 45 rfl w.heap.size 9 i0 (.string ⟨#[]⟩) 1 16 Tryz.underlying45 hi hz0 hz1 hz2 rfl (by decide) v acc.length (strC acc) rfl H2.out.2.1 [.string ⟨tk.text.toArray⟩] rfl rfl (by simp [Value.oneCell']) (by unfold maxLen; omega) (by omega) hs2 ?_; intro v' w3 hown3 f3 _; have HO := Lib.hid (And.intro hown3 f3); clear hown3 f3)
     | fail)
    have fw3 : Fr (fun b => b = pb) w w3 := H2.out.2.2.1.trans HO.out.2 (fun k hk q => by have := (H2.out.2.2.2 k q).1; omega)
    have hP3 := HP.out.1.keep fw3 H2.out.1 HO.out.2 (fun q => by have := (H2.out.2.2.2 pb q).1; omega)
    go_roundg f
    case rel => exact ⟨false, 0, acc ++ [tk.text], st', v', rfl, rfl, by simp; omega, Lib.hid ⟨HR.out.1, HR.out.2, by rw [strC_snoc, List.length_append]; exact HO.out.1, hP3, rfl⟩, fw3⟩
    case measure => omega
   | false =>
    have hno := of_decide_eq_false HCC.out
    obtain ⟨f, hf⟩ : ∃ f, gk = f + 1 := ⟨gk - 1, by have := HS.out.2.1; omega⟩
    have hR : (acc, st) = R := by
     have h := HS.out.1
     rw [hf] at h
     unfold namesF at h
     rw [if_neg hno] at h
     exact h
    subst hR
    have hrow : RowS (fun b => b < w.heap.size) wr v acc := RowS.of_own HS.out.2.2.1 (fun b q => q)
    have HF := Lib.hid (And.intro (RowS.fr hrow f1 (fun _ q => q.elim)) (And.intro (HS.out.2.2.2.1.fr f1) (hw.via f1)))
    clear hrow hno
    go_wp2
    go_ret
    exact ⟨v, rfl, HF.out.1, HF.out.2.1, HF.out.2.2⟩
end
def eC (k : Nat) (n : ByteArray) (f : Bool) (b : Nat) (a0 : Option Addr) (n0 c0 : Nat) (a1 : Option Addr) (n1 c1 : Nat) (a2 : Option Addr) (n2 c2 : Nat) (a3 : Option Addr) (n3 c3 : Nat) : List Value :=
 [.int .i64 (k : Int), .string n, .bool f, .int .u64 (b : Int), .slice a0 n0 c0, .slice a1 n1 c1, .slice a2 n2 c2, .slice a3 n3 c3]
theorem EAt.form {X : Nat → Prop} {w : World} {cs : List Value} {t : TE} (h : EAt X w cs t) : ∃ k n f b a0 n0 c0 a1 n1 c1 a2 n2 c2 a3 n3 c3, cs = eC k n f b a0 n0 c0 a1 n1 c1 a2 n2 c2 a3 n3 c3 := by
 cases h with
 | mk kc bc ac be ae bp an hp hk hk2 hb hb1 hb2 hb3 ha ha1 ha2 ha3 =>
  obtain ⟨_, _, rfl⟩ := RowC.shape hp
  obtain ⟨_, _, rfl⟩ := hk.shape
  obtain ⟨_, _, rfl⟩ := hb.shape
  obtain ⟨_, _, rfl⟩ := ha.shape
  exact ⟨_, _, _, _, _, _, _, _, _, _, _, _, _, _, _, _, rfl⟩
def EVal (X : Nat → Prop) (w : World) (v : Value) (t : TE) : Prop := ∃ cs : List Value, v = .agg cs.toArray ∧ EAt X w cs t
def BVal (X : Nat → Prop) (w : World) (v : Value) (t : TB) : Prop :=
 ∃ (pn : Value) (cs : List Value), v = .agg (.string ⟨t.name.toArray⟩ :: pn :: cs).toArray ∧ RowS X w pn t.params ∧ EAt X w cs t.body
def AVal (X : Nat → Prop) (w : World) (v : Value) (t : TA) : Prop :=
 ∃ (pn : Value) (cs : List Value), v = .agg (.int .i64 (t.kind : Int) :: .string ⟨t.name.toArray⟩ :: .bool t.flt :: .int .u64 (t.bits : Int) :: pn :: cs).toArray ∧ RowS X w pn t.names ∧ EAt X w cs t.body
def Reads (pb : Nat) (vT : Value) (L : List TokV) (fn : Nat) (deep : Int) (ex : PS → TE × PS) : Prop :=
 ∀ w s, PAt w pb vT L s → Calls Tryz.prog fn #[.pointer (some ⟨pb, 0, none⟩), .int .i64 deep] w fun r w' => ∃ v, r = .returned v ∧ EVal (fun b => b < w.heap.size) w' v (ex s).1 ∧ PAt w' pb vT L (ex s).2 ∧ Fr (fun b => b = pb) w w'
theorem RowC.tail {X : Nat → Prop} {w : World} {b off n cap size : Nat} {cs : Nat → List Value} (h : RowC X w (.slice (some ⟨b, off, none⟩) (n + 1) cap) (n + 1) size cs) (A : Option Addr) (hA : 0 < n → A = some ⟨b, off + size, none⟩) : RowC X w (.slice A n (cap - 1)) n size (fun i => cs (i + 1)) := by
 obtain ⟨a1, cap1, e, h1, h2, hc⟩ := h
 cases e
 refine ⟨_, _, rfl, by omega, by omega, fun i hi => ?_⟩
 obtain ⟨b', off', e, hb, hl, hcell⟩ := hc (i + 1) (by omega)
 cases e
 refine ⟨b, off + size, hA (by omega), hb, hl, fun j u hj => ?_⟩
 have := hcell j u hj
 rw [show off + size + i * size + j = off + (i + 1) * size + j by rw [Nat.add_mul]; omega]
 exact this
section
variable {w : World} {pb : Nat} {vT : Value} {L : List TokV} {s : PS} {deep : Nat} {ex : PS → TE × PS}
set_option maxHeartbeats 2000000 in
theorem pbind_any (h : PAt w pb vT L s) (hd : deep ≤ 1000) (hex : Reads pb vT L 61 ((deep : Int) + 1) ex) :
 Calls Tryz.prog 27 #[.pointer (some ⟨pb, 0, none⟩), .int .i64 (deep : Int)] w fun r w' => ∃ v, r = .returned v ∧ BVal (fun b => b < w.heap.size) w' v (bindF L ex s).1 ∧ PAt w' pb vT L (bindF L ex s).2 ∧ Fr (fun b => b = pb) w w' := by
 obtain ⟨P, hP⟩ : ∃ P, namesF L (fuelP L) true [] s = P := ⟨_, rfl⟩
 obtain ⟨l, s1⟩ := P
 have e0 : bindF L ex s = (.mk (l.headD []) l.tail (ex (needF L [61] s1)).1, (ex (needF L [61] s1)).2) := by unfold bindF; rw [hP]
 rw [e0]
 have hpl := h.blk.lt
 have HP := Lib.hid (And.intro h (And.intro hex hP))
 have i1 : IntKind.i64.wrap ((deep : Int) + 1) = (deep : Int) + 1 := by rw [IntKind.wrap_i64]; omega
 clear h hex hP e0
 go_enter Tryz.func27, Tryz.ntmps27
 go_wp2_with fail
 have fA : Fr Nil w (w.alloc (.cells #[.string ⟨#[]⟩, .slice none 0 0, .int .i64 0, .string ⟨#[]⟩, .bool false, .int .u64 0, .slice none 0 0, .slice none 0 0, .slice none 0 0, .slice none 0 0] 51)) := by exact frA
 have bA := Blk.new w #[.string ⟨#[]⟩, .slice none 0 0, .int .i64 0, .string ⟨#[]⟩, .bool false, .int .u64 0, .slice none 0 0, .slice none 0 0, .slice none 0 0, .slice none 0 0] 51
 refine (pnames_any true (HP.out.1.fr fA)).mono ?_
 rw [HP.out.2.2]
 rintro e w1 ⟨vl, rfl, hl, h1, f1⟩
 obtain ⟨T, hT⟩ : ∃ T, w.heap.size = T := ⟨_, rfl⟩
 have hA : (w.alloc (.cells #[.string ⟨#[]⟩, .slice none 0 0, .int .i64 0, .string ⟨#[]⟩, .bool false, .int .u64 0, .slice none 0 0, .slice none 0 0, .slice none 0 0, .slice none 0 0] 51)).heap.size = T + 1 := by simp [hT]
 rw [hA] at hl
 rw [hT] at hpl bA ⊢
 have F1 : Fr (fun b => b = pb) w w1 := (Fr.of_nil fA).comp f1
 have hne : T ≠ pb := by omega
 have bA1 := f1.blk bA hne
 have H1 := Lib.hid (And.intro h1 (And.intro hl (And.intro F1 bA1)))
 clear h1 hl F1 bA1 bA fA f1 hA
 obtain ⟨av, cv, rfl⟩ := H1.out.2.1.shape
 go_wp2_with fail
 refine (pneed_any [61] H1.out.1).mono ?_
 rintro e w2 ⟨rfl, h2, f2⟩
 have F2 := H1.out.2.2.1.comp f2
 have H2 := Lib.hid (And.intro h2 (And.intro (RowS.fr H1.out.2.1 f2 (fun b q => by have q' : b = pb := q; omega)) (And.intro F2 (f2.blk H1.out.2.2.2 hne))))
 clear h2 F2 f2 H1
 go_wp2_with fail
 refine (HP.out.2.1 _ _ H2.out.1).mono ?_
 rintro e w3 ⟨ve, rfl, he, h3, f3⟩
 have F3 := H2.out.2.2.1.comp f3
 have bA3 := f3.blk H2.out.2.2.2 hne
 obtain ⟨cs, rfl, hE⟩ := he
 obtain ⟨k, nm, fl, bi, a0, n0, c0, a1, n1, c1, a2, n2, c2, a3, n3, c3, rfl⟩ := hE.form
 have hT2 := H2.out.2.2.2.lt
 have hsT := H2.out.2.2.1.size
 have hl3 := RowS.fr H2.out.2.1 f3 (fun b q => by have q' : b = pb := q; omega)
 have H3 := Lib.hid (And.intro h3 (And.intro hl3 hE))
 have hTl := bA3.lt
 have hAc := bA3.cell
 have hAf := bA3.free
 clear h3 f3 H2 bA3 hE
 unfold eC
 have fin : Hid (∀ wf, Fr (fun b => b = T) w3 wf → Fr (fun b => b = pb) w wf ∧ PAt wf pb vT L (ex (needF L [61] s1)).2 ∧ EAt (fun b => b < w.heap.size) wf (eC k nm fl bi a0 n0 c0 a1 n1 c1 a2 n2 c2 a3 n3 c3) (ex (needF L [61] s1)).1 ∧ RowS (fun b => b < T + 1) wf (.slice av l.length cv) l) := fun wf g => by
  have FF : Fr (fun b => b = pb) w wf := F3.trans g (fun b hb q => by have q' : b = T := q; omega)
  exact ⟨FF, HP.out.1.keep FF H3.out.1 g (fun q => hne q.symm), (H3.out.2.2.fr g (fun b q => by have q' : b = T := q; omega)).mono (fun b _ q => by omega), RowS.fr H3.out.2.1 g (fun b q => by have q' : b = T := q; omega)⟩
 cases l with
 | nil =>
  have finN : Hid (∀ wf, Fr (fun b => b = T) w3 wf → ∃ v', Ending.returned (.agg (.string ⟨#[]⟩ :: .slice none 0 0 :: eC k nm fl bi a0 n0 c0 a1 n1 c1 a2 n2 c2 a3 n3 c3).toArray) = .returned v' ∧ BVal (fun b => b < T) wf v' (.mk (([] : List (List UInt8)).headD []) ([] : List (List UInt8)).tail (ex (needF L [61] s1)).1) ∧ PAt wf pb vT L (ex (needF L [61] s1)).2 ∧ Fr (fun b => b = pb) w wf) := fun wf g => by
   obtain ⟨q1, q2, q3, q4⟩ := fin.out wf g
   rw [hT] at q3
   exact ⟨_, rfl, ⟨_, _, rfl, RowC.nil, q3⟩, q2, q1⟩
  simp only [List.length_nil]
  have i2 : ¬ (0 : Int) < ((0 : Nat) : Int) := by omega
  clear hl3 fin
  go_wp2
  (try simp only [Exit.inBlock, Exit.then])
  refine bodyPost_ret (v := .agg (.string ⟨#[]⟩ :: .slice none 0 0 :: eC k nm fl bi a0 n0 c0 a1 n1 c1 a2 n2 c2 a3 n3 c3).toArray) (by simp [results, Tryz.results27, go_sem, eC, *]) rfl ?_
  exact finN.out _ (by exact frG)
 | cons x r =>
  obtain ⟨b0, off0, rfl, hb0, hc0⟩ := RowC.at hl3 (i := 0) (by simp)
  have p0 := hc0 0 _ rfl
  simp at p0
  have hbl := World.block_lt_of_cell? _ _ p0
  obtain ⟨n, hn⟩ : ∃ n, (x :: r).length = n + 1 := ⟨r.length, by simp⟩
  rw [hn] at fin ⊢
  have hcap : n + 1 ≤ cv := by
   obtain ⟨_, _, e, q1, _⟩ := hl3
   cases e
   simpa [← hn] using q1
  have i2 : (0 : Int) < ((n + 1 : Nat) : Int) := by omega
  have i3 : (1 : Int) ≤ ((n + 1 : Nat) : Int) := by omega
  have i4 : ((n + 1 : Nat) : Int) ≤ (cv : Int) := by omega
  have i5 : (1 : Int) ≤ (cv : Int) := by omega
  have HN := Lib.hid (And.intro hn hcap)
  have finR : Hid (∀ wf, Fr (fun b => b = T) w3 wf → ∃ v', Ending.returned (.agg (.string ⟨x.toArray⟩ :: .slice (some ⟨b0, off0 + 1, none⟩) n (cv - 1) :: eC k nm fl bi a0 n0 c0 a1 n1 c1 a2 n2 c2 a3 n3 c3).toArray) = .returned v' ∧ BVal (fun b => b < T) wf v' (.mk ((x :: r).headD []) (x :: r).tail (ex (needF L [61] s1)).1) ∧ PAt wf pb vT L (ex (needF L [61] s1)).2 ∧ Fr (fun b => b = pb) w wf) := fun wf g => by
   obtain ⟨q1, q2, q3, q4⟩ := fin.out wf g
   rw [hT] at q3
   refine ⟨_, rfl, ⟨_, _, rfl, ?_, q3⟩, q2, q1⟩
   have hr : r.length = n := by have := HN.out.1; simp at this; exact this
   have q5 : RowC (fun b => b < T + 1) wf (.slice (some ⟨b0, off0, none⟩) (n + 1) cv) (n + 1) 1 (fun i => [.string ⟨((x :: r).getD i []).toArray⟩]) := by
    have h := q4
    unfold RowS at h
    rw [HN.out.1] at h
    exact h
   have q6 := (RowC.tail q5 (some ⟨b0, off0 + 1, none⟩) (fun hz => rfl)).mono (Y := fun b => b < T) (by decide) (fun b _ q => by omega)
   show RowC _ _ _ r.length 1 _
   rw [hr]
   exact q6.congr (fun i hi => rfl)
  have finL : Hid (cv = 1 → ∀ wf, Fr (fun b => b = T) w3 wf → ∃ v', Ending.returned (.agg (.string ⟨x.toArray⟩ :: .slice (some ⟨b0, off0, none⟩) n 0 :: eC k nm fl bi a0 n0 c0 a1 n1 c1 a2 n2 c2 a3 n3 c3).toArray) = .returned v' ∧ BVal (fun b => b < T) wf v' (.mk ((x :: r).headD []) (x :: r).tail (ex (needF L [61] s1)).1) ∧ PAt wf pb vT L (ex (needF L [61] s1)).2 ∧ Fr (fun b => b = pb) w wf) := fun hc wf g => by
   obtain ⟨q1, q2, q3, q4⟩ := fin.out wf g
   rw [hT] at q3
   refine ⟨_, rfl, ⟨_, _, rfl, ?_, q3⟩, q2, q1⟩
   have hr : r.length = n := by have := HN.out.1; simp at this; exact this
   have q5 : RowC (fun b => b < T + 1) wf (.slice (some ⟨b0, off0, none⟩) (n + 1) cv) (n + 1) 1 (fun i => [.string ⟨((x :: r).getD i []).toArray⟩]) := by
    have h := q4
    unfold RowS at h
    rw [HN.out.1] at h
    exact h
   have q6 := (RowC.tail q5 (some ⟨b0, off0, none⟩) (fun hz => by have := HN.out.2; omega)).mono (Y := fun b => b < T) (by decide) (fun b _ q => by omega)
   show RowC _ _ _ r.length 1 _
   rw [hr]
   rw [show cv - 1 = 0 by omega] at q6
   exact q6.congr (fun i hi => rfl)
  clear hl3 hc0 hn fin
  go_wp2
  case inr =>
   (try simp only [Exit.inBlock, Exit.then])
   refine bodyPost_ret (v := .agg (.string ⟨x.toArray⟩ :: .slice (some ⟨b0, off0 + 1, none⟩) n (cv - 1) :: eC k nm fl bi a0 n0 c0 a1 n1 c1 a2 n2 c2 a3 n3 c3).toArray) (by simp [results, Tryz.results27, go_sem, eC, *]) rfl ?_
   exact finR.out _ (by exact frG)
  case inl =>
   (try simp only [Exit.inBlock, Exit.then])
   refine bodyPost_ret (v := .agg (.string ⟨x.toArray⟩ :: .slice (some ⟨b0, off0, none⟩) n 0 :: eC k nm fl bi a0 n0 c0 a1 n1 c1 a2 n2 c2 a3 n3 c3).toArray) (by simp [results, Tryz.results27, go_sem, eC, *]) rfl ?_
   exact finL.out (by omega) _ (by exact frG)
end
def BAt (X : Nat → Prop) (w : World) (c : List Value) (t : TB) : Prop := ∃ (pn : Value) (cs : List Value), c = .string ⟨t.name.toArray⟩ :: pn :: cs ∧ RowS X w pn t.params ∧ EAt X w cs t.body
def AAt (X : Nat → Prop) (w : World) (c : List Value) (t : TA) : Prop := ∃ (pn : Value) (cs : List Value), c = .int .i64 (t.kind : Int) :: .string ⟨t.name.toArray⟩ :: .bool t.flt :: .int .u64 (t.bits : Int) :: pn :: cs ∧ RowS X w pn t.names ∧ EAt X w cs t.body
structure ElemLaw {α : Type} (R : (Nat → Prop) → World → List Value → α → Prop) (size : Nat) : Prop where
 fr : ∀ {X S : Nat → Prop} {w w' : World} {c : List Value} {a : α}, R X w c a → Fr S w w' → (∀ b, S b → X b) → R X w' c a
 mono : ∀ {X Y : Nat → Prop} {w : World} {c : List Value} {a : α}, R X w c a → (∀ b, b < w.heap.size → Y b → X b) → R Y w c a
 len : ∀ {X : Nat → Prop} {w : World} {c : List Value} {a : α}, R X w c a → c.length = size
theorem lawE : ElemLaw EAt 8 := ⟨fun h f hs => h.fr f hs, fun h hs => h.mono hs, fun h => h.len⟩
theorem lawB : ElemLaw BAt 10 :=
 ⟨fun ⟨pn, cs, e, h1, h2⟩ f hs => ⟨pn, cs, e, RowS.fr h1 f hs, h2.fr f hs⟩, fun ⟨pn, cs, e, h1, h2⟩ hs => ⟨pn, cs, e, RowC.mono h1 (by decide) hs, h2.mono hs⟩, fun ⟨pn, cs, e, h1, h2⟩ => by rw [e]; simp [h2.len]⟩
theorem lawA : ElemLaw AAt 13 :=
 ⟨fun ⟨pn, cs, e, h1, h2⟩ f hs => ⟨pn, cs, e, RowS.fr h1 f hs, h2.fr f hs⟩, fun ⟨pn, cs, e, h1, h2⟩ hs => ⟨pn, cs, e, RowC.mono h1 (by decide) hs, h2.mono hs⟩, fun ⟨pn, cs, e, h1, h2⟩ => by rw [e]; simp [h2.len]⟩
def RowsAt {α : Type} (R : (Nat → Prop) → World → List Value → α → Prop) (size : Nat) (t : TypeId) (base : Nat) (w : World) (v : Value) (acc : List α) : Prop :=
 ∃ cl : List (List Value), cl.length = acc.length ∧ (∀ i (h : i < cl.length) (h' : i < acc.length), R (fun b => b < base ∨ v.ownBlock = some b) w cl[i] acc[i]) ∧ w.ownsRow base t size v acc.length cl.flatten
section
variable {α : Type} {R : (Nat → Prop) → World → List Value → α → Prop} {size : Nat} {t : TypeId} {base : Nat} {w w' : World} {v : Value} {acc : List α}
theorem RowsAt.nil : RowsAt R size t base w (.slice none 0 0) ([] : List α) := ⟨[], rfl, fun i h _ => absurd h (Nat.not_lt_zero i), World.ownsRow_nil _ _ _ _⟩
theorem RowsAt.own (h : RowsAt R size t base w v acc) : ∀ k, v.ownBlock = some k → base ≤ k ∧ k < w.heap.size := by
 obtain ⟨cl, _, _, h⟩ := h
 exact h.lt
theorem RowsAt.shape (h : RowsAt R size t base w v acc) : ∃ a cap, v = .slice a acc.length cap := by
 obtain ⟨cl, _, _, h⟩ := h
 exact owns_shape h
theorem RowsAt.fr {S : Nat → Prop} (law : ElemLaw R size) (h : RowsAt R size t base w v acc) (f : Fr S w w') (hs : ∀ b, S b → b < base) : RowsAt R size t base w' v acc := by
 have ho := h.own
 obtain ⟨cl, h1, h2, h3⟩ := h
 exact ⟨cl, h1, fun i a b => law.fr (h2 i a b) f (fun b q => .inl (hs b q)), owns_frS h3 f (fun k q e => by have := (ho k q).1; have := hs k e; omega)⟩
theorem RowsAt.push {v' : Value} {w3 : World} {c : List Value} {a : α} (law : ElemLaw R size) (h : RowsAt R size t base w v acc) (hn : R (fun b => b < base ∨ v.ownBlock = some b) w c a) {cl : List Value} (hcl : w.ownsRow base t size v acc.length cl)
 (ho : w3.ownsRow base t size v' (acc.length + 1) (cl ++ c)) (f : Fr (fun k => v.ownBlock = some k) w w3) (hk : ∀ k, v'.ownBlock = some k → v.ownBlock = some k ∨ w.heap.size ≤ k) : RowsAt R size t base w3 v' (acc ++ [a]) := by
 obtain ⟨cl', h1, h2, h3⟩ := h
 have e : cl = cl'.flatten := by
  rcases h3.2 with ⟨q1, q2⟩ | ⟨g, cap, cur, q1, _, q3, _, _, _, q4⟩
  · have a1 := hcl.1
    have a2 := h3.1
    rw [q2, Nat.zero_mul] at a1 a2
    rw [List.eq_nil_of_length_eq_zero a1, List.eq_nil_of_length_eq_zero a2]
  · rcases hcl.2 with ⟨r1, r2⟩ | ⟨g', cap', cur', r1, _, r3, _, _, _, r4⟩
    · rw [q1] at r1; cases r1
    · rw [q1] at r1
      injection r1 with r1 r1' r1''
      injection r1 with r1
      injection r1 with r1
      subst r1
      rw [q3] at r3
      injection r3 with r3
      injection r3 with r3
      rw [← q4, ← r4, r3]
 have key : ∀ (c : List Value) (a : α), R (fun b => b < base ∨ v.ownBlock = some b) w c a → R (fun b => b < base ∨ v'.ownBlock = some b) w3 c a := fun c a hr =>
  law.mono (law.fr (law.mono (Y := fun b => b < base ∨ v.ownBlock = some b ∨ v'.ownBlock = some b) hr (fun b hb q => by
   rcases q with q | q | q
   · exact .inl q
   · exact .inr q
   · rcases hk b q with q | q
     · exact .inr q
     · omega)) f (fun b q => .inr (.inl q))) (fun b _ q => q.imp id .inr)
 refine ⟨cl' ++ [c], by simp [h1], fun i hi hi' => ?_, ?_⟩
 · by_cases q : i < cl'.length
   · rw [List.getElem_append_left q, List.getElem_append_left (by omega)]
     exact key _ _ (h2 i q (by omega))
   · have e1 : i = cl'.length := by simp at hi; omega
     subst e1
     rw [List.getElem_append_right (Nat.le_refl _), List.getElem_append_right (by omega)]
     simp only [Nat.sub_self, List.getElem_cons_zero, h1]
     exact key _ _ hn
 · rw [List.flatten_append, ← e, List.length_append]
   simpa using ho
theorem RowsAt.cells (h : RowsAt R size t base w v acc) : ∃ cl, w.ownsRow base t size v acc.length cl := by
 obtain ⟨cl, _, _, h⟩ := h
 exact ⟨_, h⟩
theorem flat_at {cl : List (List Value)} (hl : ∀ c ∈ cl, c.length = size) : ∀ {i j : Nat} {u : Value} (hi : i < cl.length), cl[i][j]? = some u → cl.flatten[i * size + j]? = some u := by
 induction cl with
 | nil => intro i j u hi; simp at hi
 | cons c r ih =>
  intro i j u hi hj
  have hc := hl c (by simp)
  cases i with
  | zero =>
   simp at hj ⊢
   rw [List.getElem?_append_left]
   · exact hj
   · exact (List.getElem?_eq_some_iff.1 hj).1
  | succ i =>
   simp only [List.getElem_cons_succ] at hj
   rw [List.flatten_cons, List.getElem?_append_right (by rw [hc, Nat.add_mul]; omega), hc, show (i + 1) * size + j - size = i * size + j by rw [Nat.add_mul]; omega]
   exact ih (fun c h => hl c (by simp [h])) (by simpa using hi) hj
theorem RowsAt.row (law : ElemLaw R size) (h : RowsAt R size t base w v acc) : ∃ cs : Nat → List Value, RowC (fun b => b < base) w v acc.length size cs ∧ ∀ i (hi : i < acc.length), R (fun b => b < base) w (cs i) acc[i] := by
 obtain ⟨cl, h1, h2, h3⟩ := h
 have hl : ∀ c ∈ cl, c.length = size := fun c hc => by
  obtain ⟨i, hi, rfl⟩ := List.getElem_of_mem hc
  exact law.len (h2 i hi (by omega))
 refine ⟨fun i => cl.getD i [], RowC.of_own h3 (fun b q => q) (fun i hi => ?_) (fun i hi j u hj => ?_), fun i hi => ?_⟩
 · have e : cl.getD i [] = cl[i] := by simp [List.getD, show i < cl.length by omega]
   rw [e]
   exact hl _ (List.getElem_mem _)
 · have e : cl.getD i [] = cl[i] := by simp [List.getD, show i < cl.length by omega]
   rw [e] at hj
   exact flat_at hl (by omega) hj
 · have e : cl.getD i [] = cl[i] := by simp [List.getD, show i < cl.length by omega]
   simp only [e]
   exact law.mono (h2 i (by omega) hi) (fun b _ q => .inl q)
end
theorem run_tok2 (a b c d e : Value) (w : World) : (Instr.field 41 (.agg #[a, b, c, d, e]) 2).run Tryz.prog w = .ok (.agg #[c, d]) w := by kernel_rfl
theorem EAt.leaf {X : Nat → Prop} {w : World} (kind : Nat) (name : List UInt8) (flt : Bool) (bits : Nat) : EAt X w [.int .i64 (kind : Int), .string ⟨name.toArray⟩, .bool flt, .int .u64 (bits : Int), .slice none 0 0, .slice none 0 0, .slice none 0 0, .slice none 0 0] (.mk kind name flt bits [] [] [] []) :=
 .mk (params := []) (kids := []) (binds := []) (alts := []) (fun _ => []) (fun _ => []) (fun _ => []) (fun _ => []) (fun _ => []) (fun _ => .bool false) (fun _ => .bool false) .nil .nil (fun i h => absurd h (Nat.not_lt_zero i)) .nil (fun i h => absurd h (Nat.not_lt_zero i)) (fun i h => absurd h (Nat.not_lt_zero i)) (fun i h => absurd h (Nat.not_lt_zero i)) .nil (fun i h => absurd h (Nat.not_lt_zero i)) (fun i h => absurd h (Nat.not_lt_zero i)) (fun i h => absurd h (Nat.not_lt_zero i))
theorem push_end {α : Type} {R : (Nat → Prop) → World → List Value → α → Prop} {size : Nat} {t : TypeId} {w wr wi Wc w3 : World} {pb Te : Nat} {vT v v' : Value} {L : List TokV} {s st' : PS} {acc : List α} {c cl : List Value} {a : α} (law : ElemLaw R size)
 (h0 : PAt w pb vT L s) (hw : Fr (fun b => b = pb) w wr) (hR : RowsAt R size t w.heap.size wr v acc) (FW : Fr (fun b => b = pb) wr Wc) (hi : PAt wi pb vT L st') (gi : Fr (fun b => b = Te) wi Wc) (hTe : Te ≠ pb)
 (he : R (fun b => b < w.heap.size ∨ v.ownBlock = some b) Wc c a) (hcl : Wc.ownsRow w.heap.size t size v acc.length cl) (ho : w3.ownsRow w.heap.size t size v' (acc.length + 1) (cl ++ c)) (f3 : Fr (fun k => v.ownBlock = some k) Wc w3) (hk : ∀ k, v'.ownBlock = some k → v.ownBlock = some k ∨ Wc.heap.size ≤ k) :
 RowsAt R size t w.heap.size w3 v' (acc ++ [a]) ∧ PAt w3 pb vT L st' ∧ Fr (fun b => b = pb) w w3 := by
 have hpb := h0.blk.lt
 have hR2 := hR.fr law FW (fun b q => by omega)
 have hown : ∀ k, v.ownBlock = some k → w.heap.size ≤ k := fun k q => (hR.own k q).1
 have FF : Fr (fun b => b = pb) w w3 := (hw.comp FW).trans f3 (fun k hk2 q => by have := hown k q; omega)
 refine ⟨hR2.push law he hcl ho f3 hk, h0.keep FF hi (S := fun b => b = Te ∨ v.ownBlock = some b) ((gi.mono (fun _ _ q => .inl q)).trans (f3.mono (fun _ _ q => Or.inr q)) (fun _ _ q => q)) (fun q => ?_), FF⟩
 rcases q with q | q
 · exact hTe q.symm
 · have := hown pb q; omega
section
variable {w : World} {pb : Nat} {vT : Value} {L : List TokV} {s : PS} {deep : Nat} {ex : PS → TE × PS}
theorem patoms_any (h : PAt w pb vT L s) (hd : deep ≤ 1000) (hgo : ∀ s, Goes L s (ex s).2) (hex : Reads pb vT L 61 ((deep : Int) + 1) ex) :
 Calls Tryz.prog 118 #[.pointer (some ⟨pb, 0, none⟩), .int .i64 (deep : Int)] w fun r w' => ∃ v, r = .returned v ∧ RowsAt EAt 8 49 w.heap.size w' v (atomsF L ex (fuelP L) [] s).1 ∧ PAt w' pb vT L (atomsF L ex (fuelP L) [] s).2 ∧ Fr (fun b => b = pb) w w' := by
 obtain ⟨i0, hi, hz0, hz1, hz2⟩ := info_parts infoE
 obtain ⟨R, hR⟩ : ∃ R, atomsF L ex (fuelP L) [] s = R := ⟨_, rfl⟩
 rw [hR]
 obtain ⟨F, hF⟩ : ∃ F, fuelP L = F := ⟨_, rfl⟩
 have hm := measP_le L s
 rw [hF] at hR hm
 have hF2 : F ≤ 1000002 := by have := h.sz; unfold fuelP at hF; omega
 have hpl := h.blk.lt
 have hf1 := run_tok1
 have hf2 := run_tok2
 have j1 : IntKind.i64.wrap ((deep : Int) + 1) = (deep : Int) + 1 := by rw [IntKind.wrap_i64]; omega
 have HP := Lib.hid (And.intro h (And.intro hR (And.intro hm (And.intro hex hgo))))
 clear h hR hm hF hex hgo
 go_enter Tryz.func118, Tryz.ntmps118
 go_wp2_with fail
 go_loopg [5] F (fun g vo wr => ∃ (acc : List TE) (st : PS) (v : Value), v = vo ∧ acc.length + g = F ∧ Hid (atomsF L ex g acc st = R ∧ measP L st + 1 ≤ g ∧ RowsAt EAt 8 49 w.heap.size wr v acc ∧ PAt wr pb vT L st) ∧ Fr (fun b => b = pb) w wr)
 case atStart => exact ⟨[], s, _, rfl, by simp, Lib.hid ⟨HP.out.2.1, HP.out.2.2.1, .nil, HP.out.1⟩, Fr.refl _ _⟩
 case round =>
  obtain ⟨acc, st, v, rfl, hg, HS, hw⟩ := hrel
  obtain ⟨p0, p1, p2, p3, pf, pl⟩ := HS.out.2.2.2.facts
  obtain ⟨f, hf⟩ : ∃ f, gk = f + 1 := ⟨gk - 1, by have := HS.out.2.1; omega⟩
  by_cases he : st.e = 0
  · have i2 : (st.e : Int) = 0 := by omega
    rw [i2] at p2
    obtain ⟨kd, hkd⟩ : ∃ kd, kindP L st = kd := ⟨_, rfl⟩
    have HKD := Lib.hid (fun w' (f : Fr Nil wr w') => pkind_any (HS.out.2.2.2.fr f))
    rw [hkd] at HKD
    have hst := HS.out.1
    rw [hf] at hst
    unfold atomsF at hst
    rw [if_neg (by simpa using he), hkd] at hst
    have HST := Lib.hid (And.intro hst (And.intro he hkd))
    obtain ⟨cl, hcl⟩ := HS.out.2.2.1.cells
    have hown := HS.out.2.2.1.own
    have HCL := Lib.hid (And.intro hcl hown)
    obtain ⟨Te, hTe⟩ : ∃ Te, wr.heap.size = Te := ⟨_, rfl⟩
    have hne : Te ≠ pb := by omega
    have hwsz := hw.size
    clear hst hkd he i2 hcl hown p3
    go_wp2_with fail
    refine (HKD.out _ (by exact frA)).mono ?_
    rintro e w1 ⟨rfl, f1⟩
    have bE1 : Blk w1 Te #[.int .i64 0, .string ⟨#[]⟩, .bool false, .int .u64 0, .slice none 0 0, .slice none 0 0, .slice none 0 0, .slice none 0 0] 49 := by
     have h := f1.new
     rw [hTe] at h
     exact h
    have F1 : Fr (fun b => b = pb) wr w1 := Fr.trans (S := fun b => b = pb) (S' := Nil) (by exact frG) f1 (fun _ _ q => q.elim)
    have h1 := HP.out.1.keep (hw.comp F1) HS.out.2.2.2 (S := Nil) (Fr.trans (S := Nil) (by exact frA) f1 (fun _ _ q => q)) (fun q => q)
    have H1 := Lib.hid (And.intro h1 bE1)
    clear HKD bE1 h1 f1 p0 p1 p2 pf pl
    by_cases hk1 : kd = 1
    · subst hk1
      have hst := HST.out.1
      rw [if_pos rfl] at hst
      have hT := token_meas (L := L) (k := 1) (by decide) HST.out.2.1
      obtain ⟨tk, st', hts⟩ : ∃ tk st', tokenF L 1 st = (tk, st') := ⟨_, _, rfl⟩
      rw [hts] at hst hT
      have HTS := Lib.hid hts
      have HST2 := Lib.hid (And.intro hst (show measP L st' + 1 ≤ f from by have := HS.out.2.1; simp only at hT; omega))
      clear hst hT hts
      go_wp2_with fail
      refine (ptoken_any 1 (by decide) H1.out.1).mono ?_
      rw [HTS.out]
      rintro e w2 ⟨rfl, h2, f2⟩
      unfold tokV
      have F2 : Fr (fun b => b = pb) wr w2 := F1.comp f2
      have bE2 := f2.blk H1.out.2 hne
      have hs2 := F2.size
      have Ec := bE2.cell
      have Ef := bE2.free
      have El := bE2.lt
      clear f2
      go_upto_region 18 with fail
      obtain ⟨W, hW⟩ : ∃ W, ((((((((w2).setCell ⟨Te, 0, none⟩ (.int .i64 1)).setCell ⟨Te, 1, none⟩ (.string ⟨tk.text.toArray⟩)).setCell ⟨Te, 2, none⟩ (.bool false)).setCell ⟨Te, 3, none⟩ (.int .u64 0)).setCell ⟨Te, 4, none⟩ (.slice none 0 0)).setCell ⟨Te, 5, none⟩ (.slice none 0 0)).setCell ⟨Te, 6, none⟩ (.slice none 0 0)).setCell ⟨Te, 7, none⟩ (.slice none 0 0) = W := ⟨_, rfl⟩
      rw [hW]
      have FW : Fr (fun b => b = pb) wr W := by rw [← hW]; exact frG
      have GW : Fr (fun b => b = Te) w2 W := by rw [← hW]; exact frG
      have bW : Blk W Te #[.int .i64 1, .string ⟨tk.text.toArray⟩, .bool false, .int .u64 0, .slice none 0 0, .slice none 0 0, .slice none 0 0, .slice none 0 0] 49 := by
       rw [← hW]
       exact blk1 bE2 <;> simp
      clear hW
      have HW := Lib.hid (And.intro FW GW)
      have hWs := FW.size
      clear Ec Ef El
      have Ec := bW.cell
      have Ef := bW.free
      have El := bW.lt
      clear bW FW GW
      go_wp2_with (first
       | (at_builtin; refine wpList_push (w := W) rfl (.tmp 56) (.tmp 58) 46 rfl w.heap.size 49 i0 (.agg #[.int .i64 0, .string ⟨#[]⟩, .bool false, .int .u64 0, .slice none 0 0, .slice none 0 0, .slice none 0 0, .slice none 0 0]) 8 136 Tryz.underlying46 hi hz0 hz1 hz2 rfl (by decide) v acc.length cl rfl (owns_frS HCL.out.1 HW.out.1 (fun k q e => by have := (HCL.out.2 k q).1; omega)) [.int .i64 1, .string ⟨tk.text.toArray⟩, .bool false, .int .u64 0, .slice none 0 0, .slice none 0 0, .slice none 0 0, .slice none 0 0] rfl rfl (by simp [Value.oneCell']) (by unfold maxLen; omega) (by omega) (by omega) ?_; intro v' w9 hown9 f9 hk9; have HO := Lib.hid (And.intro hown9 (And.intro f9 hk9)); clear hown9 f9 hk9)
       | fail)
      have E := push_end (Te := Te) (a := (.mk 1 tk.text false 0 [] [] [] [])) lawE HP.out.1 hw HS.out.2.2.1 HW.out.1 h2 HW.out.2 hne (EAt.leaf 1 tk.text false 0) (owns_frS HCL.out.1 HW.out.1 (fun k q e => by have := (HCL.out.2 k q).1; omega)) HO.out.1 HO.out.2.1 HO.out.2.2
      go_roundg f
      case rel => exact ⟨acc ++ [(.mk 1 tk.text false 0 [] [] [] [])], st', v', rfl, by simp; omega, Lib.hid ⟨HST2.out.1, HST2.out.2, E.1, E.2.1⟩, E.2.2⟩
      case measure => omega
    by_cases hk2 : kd = 2
    · subst hk2
      have hst := HST.out.1
      rw [if_neg (by decide), if_pos rfl] at hst
      have hT := token_meas (L := L) (k := 2) (by decide) HST.out.2.1
      obtain ⟨tk, st', hts⟩ : ∃ tk st', tokenF L 2 st = (tk, st') := ⟨_, _, rfl⟩
      rw [hts] at hst hT
      have HTS := Lib.hid hts
      have HST2 := Lib.hid (And.intro hst (show measP L st' + 1 ≤ f from by have := HS.out.2.1; simp only at hT; omega))
      clear hst hT hts
      go_wp2_with fail
      refine (ptoken_any 2 (by decide) H1.out.1).mono ?_
      rw [HTS.out]
      rintro e w2 ⟨rfl, h2, f2⟩
      unfold tokV
      have F2 : Fr (fun b => b = pb) wr w2 := F1.comp f2
      have bE2 := f2.blk H1.out.2 hne
      have hs2 := F2.size
      have Ec := bE2.cell
      have Ef := bE2.free
      have El := bE2.lt
      clear f2
      go_upto_region 18 with fail
      obtain ⟨W, hW⟩ : ∃ W, ((((((((w2).setCell ⟨Te, 0, none⟩ (.int .i64 2)).setCell ⟨Te, 1, none⟩ (.string ⟨tk.text.toArray⟩)).setCell ⟨Te, 2, none⟩ (.bool false)).setCell ⟨Te, 3, none⟩ (.int .u64 0)).setCell ⟨Te, 4, none⟩ (.slice none 0 0)).setCell ⟨Te, 5, none⟩ (.slice none 0 0)).setCell ⟨Te, 6, none⟩ (.slice none 0 0)).setCell ⟨Te, 7, none⟩ (.slice none 0 0) = W := ⟨_, rfl⟩
      rw [hW]
      have FW : Fr (fun b => b = pb) wr W := by rw [← hW]; exact frG
      have GW : Fr (fun b => b = Te) w2 W := by rw [← hW]; exact frG
      have bW : Blk W Te #[.int .i64 2, .string ⟨tk.text.toArray⟩, .bool false, .int .u64 0, .slice none 0 0, .slice none 0 0, .slice none 0 0, .slice none 0 0] 49 := by
       rw [← hW]
       exact blk1 bE2 <;> simp
      clear hW
      have HW := Lib.hid (And.intro FW GW)
      have hWs := FW.size
      clear Ec Ef El
      have Ec := bW.cell
      have Ef := bW.free
      have El := bW.lt
      clear bW FW GW
      go_wp2_with (first
       | (at_builtin; refine wpList_push (w := W) rfl (.tmp 56) (.tmp 58) 46 rfl w.heap.size 49 i0 (.agg #[.int .i64 0, .string ⟨#[]⟩, .bool false, .int .u64 0, .slice none 0 0, .slice none 0 0, .slice none 0 0, .slice none 0 0]) 8 136 Tryz.underlying46 hi hz0 hz1 hz2 rfl (by decide) v acc.length cl rfl (owns_frS HCL.out.1 HW.out.1 (fun k q e => by have := (HCL.out.2 k q).1; omega)) [.int .i64 2, .string ⟨tk.text.toArray⟩, .bool false, .int .u64 0, .slice none 0 0, .slice none 0 0, .slice none 0 0, .slice none 0 0] rfl rfl (by simp [Value.oneCell']) (by unfold maxLen; omega) (by omega) (by omega) ?_; intro v' w9 hown9 f9 hk9; have HO := Lib.hid (And.intro hown9 (And.intro f9 hk9)); clear hown9 f9 hk9)
       | fail)
      have E := push_end (Te := Te) (a := (.mk 2 tk.text false 0 [] [] [] [])) lawE HP.out.1 hw HS.out.2.2.1 HW.out.1 h2 HW.out.2 hne (EAt.leaf 2 tk.text false 0) (owns_frS HCL.out.1 HW.out.1 (fun k q e => by have := (HCL.out.2 k q).1; omega)) HO.out.1 HO.out.2.1 HO.out.2.2
      go_roundg f
      case rel => exact ⟨acc ++ [(.mk 2 tk.text false 0 [] [] [] [])], st', v', rfl, by simp; omega, Lib.hid ⟨HST2.out.1, HST2.out.2, E.1, E.2.1⟩, E.2.2⟩
      case measure => omega
    by_cases hk7 : kd = 7
    · subst hk7
      have hst := HST.out.1
      rw [if_neg (by decide), if_neg (by decide), if_pos rfl] at hst
      have hT := token_meas (L := L) (k := 7) (by decide) HST.out.2.1
      obtain ⟨tk, st', hts⟩ : ∃ tk st', tokenF L 7 st = (tk, st') := ⟨_, _, rfl⟩
      rw [hts] at hst hT
      have HTS := Lib.hid hts
      have HST2 := Lib.hid (And.intro hst (show measP L st' + 1 ≤ f from by have := HS.out.2.1; simp only at hT; omega))
      clear hst hT hts
      go_wp2_with fail
      refine (ptoken_any 7 (by decide) H1.out.1).mono ?_
      rw [HTS.out]
      rintro e w2 ⟨rfl, h2, f2⟩
      unfold tokV
      have F2 : Fr (fun b => b = pb) wr w2 := F1.comp f2
      have bE2 := f2.blk H1.out.2 hne
      have hs2 := F2.size
      have Ec := bE2.cell
      have Ef := bE2.free
      have El := bE2.lt
      clear f2
      go_upto_region 18 with fail
      obtain ⟨W, hW⟩ : ∃ W, ((((((((w2).setCell ⟨Te, 0, none⟩ (.int .i64 5)).setCell ⟨Te, 1, none⟩ (.string ⟨tk.text.toArray⟩)).setCell ⟨Te, 2, none⟩ (.bool false)).setCell ⟨Te, 3, none⟩ (.int .u64 0)).setCell ⟨Te, 4, none⟩ (.slice none 0 0)).setCell ⟨Te, 5, none⟩ (.slice none 0 0)).setCell ⟨Te, 6, none⟩ (.slice none 0 0)).setCell ⟨Te, 7, none⟩ (.slice none 0 0) = W := ⟨_, rfl⟩
      rw [hW]
      have FW : Fr (fun b => b = pb) wr W := by rw [← hW]; exact frG
      have GW : Fr (fun b => b = Te) w2 W := by rw [← hW]; exact frG
      have bW : Blk W Te #[.int .i64 5, .string ⟨tk.text.toArray⟩, .bool false, .int .u64 0, .slice none 0 0, .slice none 0 0, .slice none 0 0, .slice none 0 0] 49 := by
       rw [← hW]
       exact blk1 bE2 <;> simp
      clear hW
      have HW := Lib.hid (And.intro FW GW)
      have hWs := FW.size
      clear Ec Ef El
      have Ec := bW.cell
      have Ef := bW.free
      have El := bW.lt
      clear bW FW GW
      go_wp2_with (first
       | (at_builtin; refine wpList_push (w := W) rfl (.tmp 56) (.tmp 58) 46 rfl w.heap.size 49 i0 (.agg #[.int .i64 0, .string ⟨#[]⟩, .bool false, .int .u64 0, .slice none 0 0, .slice none 0 0, .slice none 0 0, .slice none 0 0]) 8 136 Tryz.underlying46 hi hz0 hz1 hz2 rfl (by decide) v acc.length cl rfl (owns_frS HCL.out.1 HW.out.1 (fun k q e => by have := (HCL.out.2 k q).1; omega)) [.int .i64 5, .string ⟨tk.text.toArray⟩, .bool false, .int .u64 0, .slice none 0 0, .slice none 0 0, .slice none 0 0, .slice none 0 0] rfl rfl (by simp [Value.oneCell']) (by unfold maxLen; omega) (by omega) (by omega) ?_; intro v' w9 hown9 f9 hk9; have HO := Lib.hid (And.intro hown9 (And.intro f9 hk9)); clear hown9 f9 hk9)
       | fail)
      have E := push_end (Te := Te) (a := (.mk 5 tk.text false 0 [] [] [] [])) lawE HP.out.1 hw HS.out.2.2.1 HW.out.1 h2 HW.out.2 hne (EAt.leaf 5 tk.text false 0) (owns_frS HCL.out.1 HW.out.1 (fun k q e => by have := (HCL.out.2 k q).1; omega)) HO.out.1 HO.out.2.1 HO.out.2.2
      go_roundg f
      case rel => exact ⟨acc ++ [(.mk 5 tk.text false 0 [] [] [] [])], st', v', rfl, by simp; omega, Lib.hid ⟨HST2.out.1, HST2.out.2, E.1, E.2.1⟩, E.2.2⟩
      case measure => omega
    by_cases hk3 : kd = 3
    · subst hk3
      have hst := HST.out.1
      rw [if_neg (by decide), if_neg (by decide), if_neg (by decide), if_pos rfl] at hst
      have hT := token_meas (L := L) (k := 3) (by decide) HST.out.2.1
      obtain ⟨tk, st', hts⟩ : ∃ tk st', tokenF L 3 st = (tk, st') := ⟨_, _, rfl⟩
      rw [hts] at hst hT
      have HTS := Lib.hid hts
      have HST2 := Lib.hid (And.intro hst (show measP L st' + 1 ≤ f from by have := HS.out.2.1; simp only at hT; omega))
      clear hst hT hts
      go_wp2_with fail
      refine (ptoken_any 3 (by decide) H1.out.1).mono ?_
      rw [HTS.out]
      rintro e w2 ⟨rfl, h2, f2⟩
      unfold tokV
      have F2 : Fr (fun b => b = pb) wr w2 := F1.comp f2
      have bE2 := f2.blk H1.out.2 hne
      have hs2 := F2.size
      have Ec := bE2.cell
      have Ef := bE2.free
      have El := bE2.lt
      clear f2
      go_upto_region 18 with fail
      obtain ⟨W, hW⟩ : ∃ W, ((((((((w2).setCell ⟨Te, 0, none⟩ (.int .i64 3)).setCell ⟨Te, 1, none⟩ (.string ⟨#[]⟩)).setCell ⟨Te, 2, none⟩ (.bool tk.flt)).setCell ⟨Te, 3, none⟩ (.int .u64 (tk.bits : Int))).setCell ⟨Te, 4, none⟩ (.slice none 0 0)).setCell ⟨Te, 5, none⟩ (.slice none 0 0)).setCell ⟨Te, 6, none⟩ (.slice none 0 0)).setCell ⟨Te, 7, none⟩ (.slice none 0 0) = W := ⟨_, rfl⟩
      rw [hW]
      have FW : Fr (fun b => b = pb) wr W := by rw [← hW]; exact frG
      have GW : Fr (fun b => b = Te) w2 W := by rw [← hW]; exact frG
      have bW : Blk W Te #[.int .i64 3, .string ⟨#[]⟩, .bool tk.flt, .int .u64 (tk.bits : Int), .slice none 0 0, .slice none 0 0, .slice none 0 0, .slice none 0 0] 49 := by
       rw [← hW]
       exact blk1 bE2 <;> simp
      clear hW
      have HW := Lib.hid (And.intro FW GW)
      have hWs := FW.size
      clear Ec Ef El
      have Ec := bW.cell
      have Ef := bW.free
      have El := bW.lt
      clear bW FW GW
      go_wp2_with (first
       | (at_builtin; refine wpList_push (w := W) rfl (.tmp 56) (.tmp 58) 46 rfl w.heap.size 49 i0 (.agg #[.int .i64 0, .string ⟨#[]⟩, .bool false, .int .u64 0, .slice none 0 0, .slice none 0 0, .slice none 0 0, .slice none 0 0]) 8 136 Tryz.underlying46 hi hz0 hz1 hz2 rfl (by decide) v acc.length cl rfl (owns_frS HCL.out.1 HW.out.1 (fun k q e => by have := (HCL.out.2 k q).1; omega)) [.int .i64 3, .string ⟨#[]⟩, .bool tk.flt, .int .u64 (tk.bits : Int), .slice none 0 0, .slice none 0 0, .slice none 0 0, .slice none 0 0] rfl rfl (by simp [Value.oneCell']) (by unfold maxLen; omega) (by omega) (by omega) ?_; intro v' w9 hown9 f9 hk9; have HO := Lib.hid (And.intro hown9 (And.intro f9 hk9)); clear hown9 f9 hk9)
       | fail)
      have E := push_end (Te := Te) (a := (.mk 3 [] tk.flt tk.bits [] [] [] [])) lawE HP.out.1 hw HS.out.2.2.1 HW.out.1 h2 HW.out.2 hne (EAt.leaf 3 [] tk.flt tk.bits) (owns_frS HCL.out.1 HW.out.1 (fun k q e => by have := (HCL.out.2 k q).1; omega)) HO.out.1 HO.out.2.1 HO.out.2.2
      go_roundg f
      case rel => exact ⟨acc ++ [(.mk 3 [] tk.flt tk.bits [] [] [] [])], st', v', rfl, by simp; omega, Lib.hid ⟨HST2.out.1, HST2.out.2, E.1, E.2.1⟩, E.2.2⟩
      case measure => omega
    have hst := HST.out.1
    rw [if_neg hk1, if_neg hk2, if_neg hk7, if_neg hk3] at hst
    have HX := Lib.hid hst
    have d1 : (kd == 1) = false := by simpa using hk1
    have d2 : (kd == 2) = false := by simpa using hk2
    have d3 : (kd == 7) = false := by simpa using hk7
    have d4 : (kd == 3) = false := by simpa using hk3
    have g1 := decide_eq_false hk1
    have g2 := decide_eq_false hk2
    have g3 := decide_eq_false hk7
    have g4 := decide_eq_false hk3
    obtain ⟨sx, hsx⟩ : ∃ sx, seesF L [40] st = sx := ⟨_, rfl⟩
    have HSX := Lib.hid hsx
    clear hst hsx hk1 hk2 hk7 hk3
    go_wp2_with fail
    refine (psees_any [40] H1.out.1).mono ?_
    rw [HSX.out]
    rintro e w2 ⟨rfl, f2⟩
    cases sx with
    | false =>
     have hx := HX.out
     rw [if_pos HSX.out] at hx
     have HX := Lib.hid hx
     have H2 := Lib.hid (And.intro (HS.out.2.2.1.fr lawE (F1.comp (Fr.of_nil f2)) (fun b q => by omega)) (And.intro (H1.out.1.fr f2) (hw.comp (F1.comp (Fr.of_nil f2)))))
     clear hx f2
     go_wp2
     go_ret
     rw [← HX.out]
     exact ⟨v, rfl, H2.out.1, H2.out.2.1, H2.out.2.2⟩
    | true =>
     have hlt := sees_lt HSX.out
     have hx := HX.out
     rw [if_neg (by rw [HSX.out]; decide)] at hx
     have hT : measP L (needF L [41] (ex { st with at_ := st.at_ + 1 }).2) < measP L st := measP_lt HST.out.2.1 hlt ((HP.out.2.2.2.2 _).trans (need_goes _ _))
     have HST2 := Lib.hid (And.intro hx (show measP L (needF L [41] (ex { st with at_ := st.at_ + 1 }).2) + 1 ≤ f from by have := HS.out.2.1; omega))
     have h2 := H1.out.1.fr f2
     obtain ⟨p0, p1, p2, p3, pf, pl⟩ := h2.facts
     have hszL := h2.sz
     have j2 : IntKind.i64.wrap ((st.at_ : Int) + 1) = (st.at_ : Int) + 1 := by rw [IntKind.wrap_i64]; omega
     go_upto_region 8 with fail
     obtain ⟨V, hV⟩ : ∃ V, w2.setCell ⟨pb, 1, none⟩ (.int .i64 ((st.at_ : Int) + 1)) = V := ⟨_, rfl⟩
     rw [hV]
     have fV : Fr (fun b => b = pb) w2 V := by rw [← hV]; exact frG
     have bV : Blk V pb #[vT, .int .i64 ((st.at_ : Int) + 1), .int .i64 (st.e : Int), .int .i64 (st.line : Int)] 76 := by
      rw [← hV]
      (unfold Blk; simp (disch := first | omega | (simp; done) | (simp; omega)) only [hp_drew, hp_drewN, hp_alloc, hp_other, hp_same, hp_new, upd_cells, Option.map_some, (h2.blk).eq])
      simp
     have hPV : PAt V pb vT L { st with at_ := st.at_ + 1 } := h2.to fV bV hlt
     have FV : Fr (fun b => b = pb) wr V := F1.comp ((Fr.of_nil f2).comp fV)
     have bEV := fV.blk (f2.blk H1.out.2 (fun q => q)) hne
     have hVs := FV.size
     have hEV := bEV.lt
     have HV := Lib.hid (And.intro hPV bEV)
     clear hV fV bV hPV bEV h2 f2 p0 p1 p2 p3 pf pl hx hT
     go_wp2_with fail
     refine (HP.out.2.2.2.1 _ _ HV.out.1).mono ?_
     rintro e w3 ⟨ve, rfl, he, h3, f3⟩
     obtain ⟨cs, rfl, hE⟩ := he
     obtain ⟨k, nm, fl, bi, a0, n0, c0, a1, n1, c1, a2, n2, c2, a3, n3, c3, rfl⟩ := hE.form
     have bE3 := f3.blk HV.out.2 hne
     have F3 := FV.comp f3
     have H3 := Lib.hid (And.intro h3 hE)
     have Ec := bE3.cell
     have Ef := bE3.free
     have El := bE3.lt
     clear h3 hE f3
     unfold eC
     go_upto_region 9 with fail
     obtain ⟨W, hW⟩ : ∃ W, ((((((((w3).setCell ⟨Te, 0, none⟩ (.int .i64 (k : Int))).setCell ⟨Te, 1, none⟩ (.string nm)).setCell ⟨Te, 2, none⟩ (.bool fl)).setCell ⟨Te, 3, none⟩ (.int .u64 (bi : Int))).setCell ⟨Te, 4, none⟩ (.slice a0 n0 c0)).setCell ⟨Te, 5, none⟩ (.slice a1 n1 c1)).setCell ⟨Te, 6, none⟩ (.slice a2 n2 c2)).setCell ⟨Te, 7, none⟩ (.slice a3 n3 c3) = W := ⟨_, rfl⟩
     rw [hW]
     have GW : Fr (fun b => b = Te) w3 W := by rw [← hW]; exact frG
     have FW : Fr (fun b => b = pb) wr W := by rw [← hW]; exact frG
     have bW : Blk W Te #[.int .i64 (k : Int), .string nm, .bool fl, .int .u64 (bi : Int), .slice a0 n0 c0, .slice a1 n1 c1, .slice a2 n2 c2, .slice a3 n3 c3] 49 := by
      rw [← hW]
      exact blk1 bE3 <;> simp
     have hPW := HP.out.1.keep (hw.comp FW) H3.out.1 GW (fun q => hne q.symm)
     have hEW := H3.out.2.fr GW (fun b q => by have q' : b = Te := q; omega)
     clear hW Ec Ef El bE3 F3
     go_wp2_with fail
     refine (pneed_any [41] hPW).mono ?_
     rintro e w4 ⟨rfl, h4, f4⟩
     have FX := FW.comp f4
     have bX := f4.blk bW hne
     have hEX : EAt (fun b => b < w.heap.size ∨ v.ownBlock = some b) w4 (eC k nm fl bi a0 n0 c0 a1 n1 c1 a2 n2 c2 a3 n3 c3) _ := (hEW.fr f4 (fun b q => by have q' : b = pb := q; omega)).mono (fun b _ q => by rcases q with q | q; omega; have := (HCL.out.2 b q).2; omega)
     have HX4 := Lib.hid (And.intro h4 (And.intro FX hEX))
     have hWs := FX.size
     have Ec := bX.cell
     have Ef := bX.free
     have El := bX.lt
     clear bW bX FW GW hPW hEW FX h4 hEX f4
     go_wp2_with (first
      | (at_builtin; refine wpList_push (w := w4) rfl (.tmp 56) (.tmp 58) 46 rfl w.heap.size 49 i0 (.agg #[.int .i64 0, .string ⟨#[]⟩, .bool false, .int .u64 0, .slice none 0 0, .slice none 0 0, .slice none 0 0, .slice none 0 0]) 8 136 Tryz.underlying46 hi hz0 hz1 hz2 rfl (by decide) v acc.length cl rfl (owns_frS HCL.out.1 HX4.out.2.1 (fun k q e => by have := (HCL.out.2 k q).1; omega)) [.int .i64 (k : Int), .string nm, .bool fl, .int .u64 (bi : Int), .slice a0 n0 c0, .slice a1 n1 c1, .slice a2 n2 c2, .slice a3 n3 c3] rfl rfl (by simp [Value.oneCell']) (by unfold maxLen; omega) (by omega) (by omega) ?_; intro v' w9 hown9 f9 hk9; have HO := Lib.hid (And.intro hown9 (And.intro f9 hk9)); clear hown9 f9 hk9)
      | fail)
     have E := push_end (Te := Te) (a := (ex { st with at_ := st.at_ + 1 }).1) lawE HP.out.1 hw HS.out.2.2.1 HX4.out.2.1 HX4.out.1 (Fr.refl _ _) hne HX4.out.2.2 (owns_frS HCL.out.1 HX4.out.2.1 (fun k q e => by have := (HCL.out.2 k q).1; omega)) HO.out.1 HO.out.2.1 HO.out.2.2
     go_roundg f
     case rel => exact ⟨acc ++ [(ex { st with at_ := st.at_ + 1 }).1], _, v', rfl, by simp; omega, Lib.hid ⟨HST2.out.1, HST2.out.2, E.1, E.2.1⟩, E.2.2⟩
     case measure => omega
  · have hst := HS.out.1
    rw [hf] at hst
    unfold atomsF at hst
    rw [if_pos (by simpa using he)] at hst
    have i2 : ¬ (st.e : Int) = 0 := by omega
    have d3 : ((st.e : Int) == 0) = false := by simpa using i2
    have HX := Lib.hid hst
    clear hst
    go_wp2
    go_ret
    rw [← HX.out]
    exact ⟨v, rfl, HS.out.2.2.1, HS.out.2.2.2, hw⟩
end
theorem EAt.withKids {X : Nat → Prop} {w : World} {k : Nat} {n : ByteArray} {f : Bool} {b : Nat} {a0 : Option Addr} {n0 c0 : Nat} {a1 : Option Addr} {n1 c1 : Nat} {a2 : Option Addr} {n2 c2 : Nat} {a3 : Option Addr} {n3 c3 : Nat} {t : TE} {ks : List TE} {a4 : Option Addr} {n4 c4 : Nat} {kc : Nat → List Value}
 (h : EAt X w (eC k n f b a0 n0 c0 a1 n1 c1 a2 n2 c2 a3 n3 c3) t) (hk : RowC X w (.slice a4 n4 c4) ks.length 8 kc) (hk2 : ∀ i (h : i < ks.length), EAt X w (kc i) ks[i]) : EAt X w (eC k n f b a0 n0 c0 a4 n4 c4 a2 n2 c2 a3 n3 c3) (t.withKids ks) := by
 generalize hcs : eC k n f b a0 n0 c0 a1 n1 c1 a2 n2 c2 a3 n3 c3 = cs at h
 cases h with
 | mk kc' bc ac be ae bp an hp hk' hk2' hb hb1 hb2 hb3 ha ha1 ha2 ha3 =>
  unfold eC at hcs
  injection hcs with e1 hcs
  injection hcs with e2 hcs
  injection hcs with e3 hcs
  injection hcs with e4 hcs
  injection hcs with e5 hcs
  injection hcs with e6 hcs
  injection hcs with e7 hcs
  injection hcs with e8 hcs
  subst e5 e7 e8
  unfold eC TE.withKids
  rw [e1, e2, e3, e4]
  exact .mk kc bc ac be ae bp an hp hk hk2 hb hb1 hb2 hb3 ha ha1 ha2 ha3
theorem EAt.app {X : Nat → Prop} {w : World} {v : Value} {ks : List TE} {kc : Nat → List Value} (kind : Nat) (name : List UInt8) (hk : RowC X w v ks.length 8 kc) (hk2 : ∀ i (h : i < ks.length), EAt X w (kc i) ks[i]) : EAt X w [.int .i64 (kind : Int), .string ⟨name.toArray⟩, .bool false, .int .u64 ((0 : Nat) : Int), .slice none 0 0, v, .slice none 0 0, .slice none 0 0] (.mk kind name false 0 [] ks [] []) :=
 .mk (params := []) (binds := []) (alts := []) kc (fun _ => []) (fun _ => []) (fun _ => []) (fun _ => []) (fun _ => .bool false) (fun _ => .bool false) .nil hk hk2 .nil (fun i h => absurd h (Nat.not_lt_zero i)) (fun i h => absurd h (Nat.not_lt_zero i)) (fun i h => absurd h (Nat.not_lt_zero i)) .nil (fun i h => absurd h (Nat.not_lt_zero i)) (fun i h => absurd h (Nat.not_lt_zero i)) (fun i h => absurd h (Nat.not_lt_zero i))
def rowEnd (L : List TokV) (kd : Int) (l : List TE) (s : PS) : TE × PS :=
 match l with
 | [] => (zeroE, faultF L 3 s)
 | [e] => (e, s)
 | e :: r => if kd = 2 ∨ kd = 7 then (e.withKids r, s) else (.mk 4 [] false 0 [] (e :: r) [] [], s)
theorem rowF_eq (L : List TokV) (ex : PS → TE × PS) (s : PS) : rowF L ex s = rowEnd L (kindP L s) (atomsF L ex (fuelP L) [] s).1 (atomsF L ex (fuelP L) [] s).2 := by
 unfold rowF
 generalize atomsF L ex (fuelP L) [] s = p
 obtain ⟨l, t⟩ := p
 rcases l with _ | ⟨e, _ | ⟨e2, r⟩⟩ <;> rfl
section
variable {w : World} {pb : Nat} {vT : Value} {L : List TokV} {s : PS} {deep : Nat} {ex : PS → TE × PS}
theorem prow_any (h : PAt w pb vT L s) (hd : deep ≤ 1000) (hgo : ∀ s, Goes L s (ex s).2) (hex : Reads pb vT L 61 ((deep : Int) + 1) ex) :
 Calls Tryz.prog 95 #[.pointer (some ⟨pb, 0, none⟩), .int .i64 (deep : Int)] w fun r w' => ∃ v, r = .returned v ∧ EVal (fun b => b < w.heap.size) w' v (rowF L ex s).1 ∧ PAt w' pb vT L (rowF L ex s).2 ∧ Fr (fun b => b = pb) w w' := by
 obtain ⟨l, s1, hP⟩ : ∃ l s1, atomsF L ex (fuelP L) [] s = (l, s1) := ⟨_, _, rfl⟩
 obtain ⟨kd, hkd⟩ : ∃ kd, kindP L s = kd := ⟨_, rfl⟩
 have e0 : rowF L ex s = rowEnd L kd l s1 := by rw [rowF_eq, hP, hkd]
 rw [e0]
 have hpl := h.blk.lt
 have HKD := Lib.hid (fun w' (f : Fr Nil w w') => pkind_any (h.fr f))
 rw [hkd] at HKD
 have HP := Lib.hid (And.intro h (And.intro hP (And.intro hgo hex)))
 obtain ⟨T, hT⟩ : ∃ T, w.heap.size = T := ⟨_, rfl⟩
 rw [hT] at hpl ⊢
 have hne : T ≠ pb := by omega
 clear h hP e0 hkd hgo hex
 go_enter Tryz.func95, Tryz.ntmps95
 go_wp2_with fail
 refine (HKD.out _ (by exact frA)).mono ?_
 rintro e w1 ⟨rfl, f1⟩
 have bE1 : Blk w1 T #[.int .i64 0, .string ⟨#[]⟩, .bool false, .int .u64 0, .slice none 0 0, .slice none 0 0, .slice none 0 0, .slice none 0 0] 49 := by
  have h := f1.new
  rw [hT] at h
  exact h
 have F1 : Fr Nil w w1 := Fr.trans (S := Nil) (by exact frA) f1 (fun _ _ q => q)
 have h1 := HP.out.1.fr F1
 have hT1 := bE1.lt
 clear f1 HKD
 go_wp2_with fail
 refine (patoms_any h1 hd HP.out.2.2.1 HP.out.2.2.2).mono ?_
 rw [HP.out.2.1]
 rintro e w2 ⟨v, rfl, hv, h2, f2⟩
 have hv : RowsAt EAt 8 49 _ w2 v l := hv
 have h2 : PAt w2 pb vT L s1 := h2
 have F2 : Fr (fun b => b = pb) w w2 := (Fr.of_nil F1).comp f2
 have bE2 := f2.blk bE1 hne
 obtain ⟨av, cv, rfl⟩ := hv.shape
 obtain ⟨cs, hrow, hcs⟩ := hv.row lawE
 have hrow := hrow.mono (Y := fun b => b < T + 1) (by decide) (fun b _ q => by omega)
 have hcs : ∀ i (hi : i < l.length), EAt (fun b => b < T + 1) w2 (cs i) l[i] := fun i hi => (hcs i hi).mono (fun b _ q => by omega)
 have Ec := bE2.cell
 have Ef := bE2.free
 have El := bE2.lt
 have H2 := Lib.hid (And.intro h2 (And.intro F2 (And.intro bE2 (And.intro hrow hcs))))
 have fin : Hid (∀ wf, Fr (fun b => b = T) w2 wf → Fr (fun b => b = pb) w wf ∧ PAt wf pb vT L s1 ∧ RowC (fun b => b < T + 1) wf (.slice av l.length cv) l.length 8 cs ∧ ∀ i (hi : i < l.length), EAt (fun b => b < T + 1) wf (cs i) l[i]) := fun wf g => by
  have FF : Fr (fun b => b = pb) w wf := F2.trans g (fun b hb q => by have q' : b = T := q; omega)
  exact ⟨FF, HP.out.1.keep FF h2 g (fun q => hne q.symm), hrow.fr g (fun b q => by have q' : b = T := q; omega), fun i hi => (hcs i hi).fr g (fun b q => by have q' : b = T := q; omega)⟩
 clear hv h2 f2 bE2 bE1 h1 F1 F2 hT1 hcs
 rcases l with _ | ⟨x, _ | ⟨y, r⟩⟩
 · simp only [List.length_nil]
   clear hrow fin
   go_wp2_with fail
   refine (pfault_any 3 H2.out.1).mono ?_
   rintro e w3 ⟨rfl, h3, f3⟩
   have bE3 := f3.blk H2.out.2.2.1 hne
   have F3 := H2.out.2.1.comp f3
   have H3 := Lib.hid (And.intro h3 F3)
   clear Ec Ef El
   have Ec := bE3.cell
   have Ef := bE3.free
   have El := bE3.lt
   have fin : Hid (∀ wf, Fr (fun b => b = T) w3 wf → ∃ v', Ending.returned (.agg #[.int .i64 0, .string ⟨#[]⟩, .bool false, .int .u64 0, .slice none 0 0, .slice none 0 0, .slice none 0 0, .slice none 0 0]) = .returned v' ∧ EVal (fun b => b < T) wf v' zeroE ∧ PAt wf pb vT L (faultF L 3 s1) ∧ Fr (fun b => b = pb) w wf) := fun wf g => by
    have FF : Fr (fun b => b = pb) w wf := F3.trans g (fun b hb q => by have q' : b = T := q; omega)
    exact ⟨_, rfl, ⟨_, rfl, EAt.zero⟩, HP.out.1.keep FF h3 g (fun q => hne q.symm), FF⟩
   clear bE3 F3 h3 f3
   go_wp2
   (try simp only [Exit.inBlock, Exit.then])
   refine bodyPost_ret (v := .agg #[.int .i64 0, .string ⟨#[]⟩, .bool false, .int .u64 0, .slice none 0 0, .slice none 0 0, .slice none 0 0, .slice none 0 0]) (by simp [results, Tryz.results95, go_sem, *]) rfl ?_
   exact fin.out _ (by exact frG)
 · have i1 : ¬ (([x] : List TE).length : Int) = 0 := by simp
   simp only [List.length_cons, List.length_nil, Nat.zero_add] at hrow ⊢
   obtain ⟨b0, off0, rfl, hb0, hc0⟩ := RowC.at hrow (i := 0) (by simp)
   have hE0 := H2.out.2.2.2.2 0 (by simp)
   obtain ⟨k, nm, fl, bi, a0, n0, c0, a1, n1, c1, a2, n2, c2, a3, n3, c3, hcs0⟩ := hE0.form
   rw [hcs0] at hc0 hE0
   have q0 := hc0 0 _ rfl
   have q1 := hc0 1 _ rfl
   have q2 := hc0 2 _ rfl
   have q3 := hc0 3 _ rfl
   have q4 := hc0 4 _ rfl
   have q5 := hc0 5 _ rfl
   have q6 := hc0 6 _ rfl
   have q7 := hc0 7 _ rfl
   simp at q0 q1 q2 q3 q4 q5 q6 q7
   have hbl := World.block_lt_of_cell? _ _ q0
   have finR : Hid (∀ wf, Fr (fun b => b = T) w2 wf → ∃ v', Ending.returned (.agg (eC k nm fl bi a0 n0 c0 a1 n1 c1 a2 n2 c2 a3 n3 c3).toArray) = .returned v' ∧ EVal (fun b => b < T) wf v' x ∧ PAt wf pb vT L s1 ∧ Fr (fun b => b = pb) w wf) := fun wf g => by
    obtain ⟨r1, r2, r3, r4⟩ := fin.out wf g
    have h := r4 0 (by simp)
    rw [hcs0] at h
    exact ⟨_, rfl, ⟨_, rfl, h.mono (fun b _ q => by omega)⟩, r2, r1⟩
   clear hrow hc0 hE0 hcs0 fin hb0
   unfold eC at finR
   go_wp2
   (try simp only [Exit.inBlock, Exit.then])
   refine bodyPost_ret (v := .agg (eC k nm fl bi a0 n0 c0 a1 n1 c1 a2 n2 c2 a3 n3 c3).toArray) (by simp [results, Tryz.results95, go_sem, eC, *]) rfl ?_
   exact finR.out _ (by exact frG)
 · obtain ⟨m, hm⟩ : ∃ m, (x :: y :: r).length = m + 1 := ⟨(y :: r).length, rfl⟩
   have hm1 : (y :: r).length = m := by simpa using hm
   have hmp : 1 ≤ m := by rw [← hm1]; simp
   have hcv : m + 1 ≤ cv := by
    obtain ⟨_, _, e, q1, _⟩ := hrow
    cases e
    rw [hm] at q1
    exact q1
   obtain ⟨b0, off0, rfl, hb0, hc0⟩ := RowC.at hrow (i := 0) (by simp)
   have hE0 := H2.out.2.2.2.2 0 (by simp)
   obtain ⟨k, nm, fl, bi, a0, n0, c0, a1, n1, c1, a2, n2, c2, a3, n3, c3, hcs0⟩ := hE0.form
   rw [hcs0] at hc0 hE0
   have q0 := hc0 0 _ rfl
   have q1 := hc0 1 _ rfl
   have q2 := hc0 2 _ rfl
   have q3 := hc0 3 _ rfl
   have q4 := hc0 4 _ rfl
   have q5 := hc0 5 _ rfl
   have q6 := hc0 6 _ rfl
   have q7 := hc0 7 _ rfl
   simp at q0 q1 q2 q3 q4 q5 q6 q7
   have hbl := World.block_lt_of_cell? _ _ q0
   rw [hm] at hrow ⊢
   have HM := Lib.hid (And.intro hm (And.intro hm1 (And.intro hcs0 hrow)))
   have j1 : ¬ (((m + 1 : Nat) : Int) = 0) := by omega
   have j2 : ¬ (((m + 1 : Nat) : Int) = 1) := by omega
   have j3 : ((((m + 1 : Nat) : Int)) == 0) = false := by simpa using j1
   have j4 : ((((m + 1 : Nat) : Int)) == 1) = false := by simpa using j2
   have j3' : (((m : Int) + 1) == 0) = false := by simpa using j1
   have j4' : (((m : Int) + 1) == 1) = false := by simp; omega
   have j5 : (0 : Int) < ((m + 1 : Nat) : Int) := by omega
   have j6 : (1 : Int) ≤ ((m + 1 : Nat) : Int) := by omega
   have j7 : ((m + 1 : Nat) : Int) ≤ (cv : Int) := by omega
   have j8 : (1 : Int) ≤ (cv : Int) := by omega
   have j9 : ¬ cv = 1 := by omega
   by_cases hk : kd = 2 ∨ kd = 7
   · have e1 : rowEnd L kd (x :: y :: r) s1 = (x.withKids (y :: r), s1) := by
      show (if kd = 2 ∨ kd = 7 then _ else _) = _
      rw [if_pos hk]
     have finR : Hid (∀ wf, Fr (fun b => b = T) w2 wf → ∃ v', Ending.returned (.agg (eC k nm fl bi a0 n0 c0 (some ⟨b0, off0 + 8, none⟩) m (cv - 1) a2 n2 c2 a3 n3 c3).toArray) = .returned v' ∧ EVal (fun b => b < T) wf v' (rowEnd L kd (x :: y :: r) s1).1 ∧ PAt wf pb vT L (rowEnd L kd (x :: y :: r) s1).2 ∧ Fr (fun b => b = pb) w wf) := fun wf g => by
      obtain ⟨r1, r2, r3, r4⟩ := fin.out wf g
      rw [e1]
      have h := r4 0 (by simp)
      rw [HM.out.2.2.1] at h
      rw [HM.out.1] at r3
      have ht := RowC.tail r3 (some ⟨b0, off0 + 8, none⟩) (fun _ => rfl)
      refine ⟨_, rfl, ⟨_, rfl, (EAt.withKids h (kc := fun i => cs (i + 1)) (by rw [HM.out.2.1]; exact ht) (fun i hi => ?_)).mono (fun b _ q => by omega)⟩, r2, r1⟩
      exact r4 (i + 1) (by simp at hi ⊢; omega)
     clear hrow hc0 hE0 hcs0 fin hb0 hm hm1 e1
     rcases hk with rfl | rfl
     · skip
       go_wp2
       (try simp only [Exit.inBlock, Exit.then])
       refine bodyPost_ret (v := .agg (eC k nm fl bi a0 n0 c0 (some ⟨b0, off0 + 8, none⟩) m (cv - 1) a2 n2 c2 a3 n3 c3).toArray) (by simp [results, Tryz.results95, go_sem, eC, *]) rfl ?_
       exact finR.out _ (by exact frG)
     · skip
       go_wp2
       (try simp only [Exit.inBlock, Exit.then])
       refine bodyPost_ret (v := .agg (eC k nm fl bi a0 n0 c0 (some ⟨b0, off0 + 8, none⟩) m (cv - 1) a2 n2 c2 a3 n3 c3).toArray) (by simp [results, Tryz.results95, go_sem, eC, *]) rfl ?_
       exact finR.out _ (by exact frG)
   · have e1 : rowEnd L kd (x :: y :: r) s1 = (.mk 4 [] false 0 [] (x :: y :: r) [] [], s1) := by
      show (if kd = 2 ∨ kd = 7 then _ else _) = _
      rw [if_neg hk]
     have finR : Hid (∀ wf, Fr (fun b => b = T) w2 wf → ∃ v', Ending.returned (.agg #[.int .i64 4, .string ⟨#[]⟩, .bool false, .int .u64 0, .slice none 0 0, .slice (some ⟨b0, off0, none⟩) (m + 1) cv, .slice none 0 0, .slice none 0 0]) = .returned v' ∧ EVal (fun b => b < T) wf v' (rowEnd L kd (x :: y :: r) s1).1 ∧ PAt wf pb vT L (rowEnd L kd (x :: y :: r) s1).2 ∧ Fr (fun b => b = pb) w wf) := fun wf g => by
      obtain ⟨r1, r2, r3, r4⟩ := fin.out wf g
      rw [e1]
      rw [HM.out.1] at r3
      refine ⟨_, rfl, ⟨_, rfl, (EAt.app 4 [] (kc := cs) (by rw [HM.out.1]; exact r3) (fun i hi => r4 i hi)).mono (fun b _ q => by omega)⟩, r2, r1⟩
     have d1 : ¬ kd = 2 := fun q => hk (.inl q)
     have d2 : ¬ kd = 7 := fun q => hk (.inr q)
     have d3 : (kd == 2) = false := by simpa using d1
     have d4 : (kd == 7) = false := by simpa using d2
     clear hrow hc0 hE0 hcs0 fin hb0 hm hm1 e1 hk
     go_wp2
     (try simp only [Exit.inBlock, Exit.then])
     refine bodyPost_ret (v := .agg #[.int .i64 4, .string ⟨#[]⟩, .bool false, .int .u64 0, .slice none 0 0, .slice (some ⟨b0, off0, none⟩) (m + 1) cv, .slice none 0 0, .slice none 0 0]) (by simp [results, Tryz.results95, go_sem, eC, *]) rfl ?_
     exact finR.out _ (by exact frG)
end
end Go.Proofs.YtlnmicddobgppaaGreatDoor
