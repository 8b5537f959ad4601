/-
  The program's reader of tokens (layer 8): the next token, a fault that breaks off, a token of a kind, a sign. No conditions. The program's reader of tokens (layer 8): a token of a kind, a sign, one that must stand there. No conditions. The program's reader of tokens (layer 8): names. No conditions. The program's reader of tokens (layer 8): at least one name; what may begin an expression. No conditions.
-/
import Derived.BigQuiet
import Derived.StillTailTactics
import Derived.Test.YtlnmicddobgppaaGreatDoorNnF
import Derived.Test.YtlnmicddobgppaaGreatDoorNnL
import Derived.Test.YtlnmicddobgppaaGreatDoorNnK
import Derived.Test.YtlnmicddobgppaaGreatDoorNnA
namespace Go.Proofs.YtlnmicddobgppaaGreatDoor
set_option maxRecDepth 100000
set_option linter.unusedSimpArgs false
set_option linter.unusedVariables false
open Go.RowKit
structure QAt (w : World) (pb : Nat) (vT : Value) (L : List TokV) (at_ : Nat) (dp : Int) : Prop where
 blk : Blk w pb #[vT, .int .i64 (at_ : Int), .int .i64 dp] 62
 toks : RowC (fun b => b = pb) w vT L.length 5 (fun i => tokCells (L.getD i (none_ 0)))
 le : at_ ≤ L.length
 sz : L.length ≤ 1000000
theorem QAt.fr {w w' : World} {pb : Nat} {vT : Value} {L : List TokV} {at_ : Nat} {dp : Int} (h : QAt w pb vT L at_ dp) (f : Fr Nil w w') : QAt w' pb vT L at_ dp := ⟨f.blk h.blk (fun q => q), h.toks.fr f (fun _ q => q.elim), h.le, h.sz⟩
theorem QAt.to {w w' : World} {pb : Nat} {vT : Value} {L : List TokV} {at_ at' : Nat} {dp dp' : Int} (h : QAt w pb vT L at_ dp) (f : Fr (fun b => b = pb) w w') (hb : Blk w' pb #[vT, .int .i64 (at' : Int), .int .i64 dp'] 62) (hl : at' ≤ L.length) : QAt w' pb vT L at' dp' :=
 ⟨hb, h.toks.fr f (fun _ q => q), hl, h.sz⟩
def stopV (s : PS) : Value := .iface 58 (.agg #[.int .i64 (s.e : Int), .int .i64 (s.line : Int)])
def StopE (s : PS) : Ending := .panicked [{ v := stopV s, recovered := false }]
def Broke (pb : Nat) (vT : Value) (w : World) (s : PS) (e : Ending) (w' : World) : Prop := s.e ≠ 0 ∧ e = StopE s ∧ (∃ a d : Int, Blk w' pb #[vT, .int .i64 a, .int .i64 d] 62) ∧ Fr (fun b => b = pb) w w'
def QEnds (pb : Nat) (vT : Value) (L : List TokV) (dp : Int) (w : World) (V : World → Value → Prop) (s : PS) (e : Ending) (w' : World) : Prop :=
 (s.e = 0 ∧ ∃ v, e = .returned v ∧ V w' v ∧ QAt w' pb vT L s.at_ dp ∧ Fr (fun b => b = pb) w w') ∨ Broke pb vT w s e w'
section
variable {w : World} {pb : Nat} {vT : Value} {L : List TokV} {at_ : Nat} {dp : Int}
theorem QAt.facts (h : QAt w pb vT L at_ dp) : w.cell? ⟨pb, 0, none⟩ = some vT ∧ w.cell? ⟨pb, 1, none⟩ = some (.int .i64 (at_ : Int)) ∧ w.cell? ⟨pb, 2, none⟩ = some (.int .i64 dp) ∧ (∀ o, w.frozen? ⟨pb, o, none⟩ = false) ∧ pb < w.heap.size := by
 have h0 := h.blk.cell 0
 have h1 := h.blk.cell 1
 have h2 := h.blk.cell 2
 simp at h0 h1 h2
 exact ⟨h0, h1, h2, fun o => h.blk.free o, h.blk.lt⟩
theorem QAt.tok {a : Option Addr} {cap : Nat} (h : QAt w pb (.slice a L.length cap) L at_ dp) {i : Nat} (hi : i < L.length) : ∃ b off, a = some ⟨b, off, none⟩ ∧ b < w.heap.size ∧ b ≠ pb ∧ w.cell? ⟨b, off + i * 5, none⟩ = some (.int .i64 L[i].kind) ∧ w.cell? ⟨b, off + i * 5 + 1, none⟩ = some (.string ⟨L[i].text.toArray⟩) ∧ w.cell? ⟨b, off + i * 5 + 2, none⟩ = some (.bool L[i].flt) ∧ w.cell? ⟨b, off + i * 5 + 3, none⟩ = some (.int .u64 (L[i].bits : Int)) ∧ w.cell? ⟨b, off + i * 5 + 4, none⟩ = some (.int .i64 (L[i].line : Int)) := by
 obtain ⟨b, off, rfl, hb, hc⟩ := h.toks.at hi
 have e : L.getD i (none_ 0) = L[i] := by simp [List.getD, hi]
 rw [e] at hc
 have h0 := hc 0 _ rfl
 exact ⟨b, off, rfl, World.block_lt_of_cell? _ _ h0, hb, h0, hc 1 _ rfl, hc 2 _ rfl, hc 3 _ rfl, hc 4 _ rfl⟩
def peekT (L : List TokV) (at_ : Nat) : TokV := L[at_]?.getD (none_ 0)
theorem qpeek_any (h : QAt w pb vT L at_ dp) :
 Calls Tryz.prog 72 #[.pointer (some ⟨pb, 0, none⟩)] w fun e w' => e = .returned (tokV (peekT L at_)) ∧ Fr Nil w w' := by
 obtain ⟨a, cap, rfl⟩ := h.toks.shape
 have hsz := h.sz
 obtain ⟨n, hn⟩ : ∃ n, L.length = n := ⟨_, rfl⟩
 obtain ⟨p0, p1, p2, pf, pl⟩ := h.facts
 rw [hn] at p0
 by_cases hlt : at_ < L.length
 · obtain ⟨b, off, rfl, hb, hbp, t0, t1, t2, t3, t4⟩ := h.tok hlt
   have e : peekT L at_ = L[at_] := by unfold peekT; rw [List.getElem?_eq_getElem hlt]; rfl
   rw [e]
   obtain ⟨⟨tk, tx, tf, tb, tl⟩, htk⟩ : ∃ tk, L[at_] = tk := ⟨_, rfl⟩
   rw [htk] at t0 t1 t2 t3 t4 ⊢
   rw [hn] at hlt
   have i1 : ¬ (n : Int) ≤ (at_ : Int) := by omega
   have i2 : (at_ : Int) < (n : Int) := by omega
   have i0 : (0 : Int) ≤ (at_ : Int) := by omega
   clear h hn e htk p2
   go_enter Tryz.func72, Tryz.ntmps72
   go_wp2
   go_quiet (fail)
   go_wp2
   obtain ⟨T, hT⟩ : ∃ T, w.heap.size = T := ⟨_, rfl⟩
   rw [hT]
   obtain ⟨V, hV⟩ : ∃ V, (w.alloc (.cells #[.int .i64 0, .string ⟨#[]⟩, .bool false, .int .u64 0, .int .i64 0] 41)).drewN nq = V := ⟨_, rfl⟩
   rw [hV]
   have fV : Fr Nil w V := by rw [← hV]; exact frA
   have bT : Blk V T #[.int .i64 0, .string ⟨#[]⟩, .bool false, .int .u64 0, .int .i64 0] 41 := by rw [← hV, ← hT]; exact blk0
   have p0 := fV.cell p0 (fun q => q)
   have p1 := fV.cell p1 (fun q => q)
   have t0 := fV.cell t0 (fun q => q)
   have t1 := fV.cell t1 (fun q => q)
   have t2 := fV.cell t2 (fun q => q)
   have t3 := fV.cell t3 (fun q => q)
   have t4 := fV.cell t4 (fun q => q)
   have hb' := fV.lt hb
   have pl' := fV.lt pl
   have hbT : b < T := by rw [← hT]; exact hb
   have hpT : pb < T := by rw [← hT]; exact pl
   have y0 := bT.cell 0
   have y1 := bT.cell 1
   have y2 := bT.cell 2
   have y3 := bT.cell 3
   have y4 := bT.cell 4
   simp at y0 y1 y2 y3 y4
   have yf := bT.free
   have yl := bT.lt
   have HV := Lib.hid (And.intro fV hT)
   clear hV hT fV bT pf hb pl
   go_still_tail 10, (by kernel_rfl)
   change wpList _ _ _ _ _ V.drew
   go_wp2
   (try simp only [Exit.inBlock, Exit.then])
   refine bodyPost_ret (v := tokV ⟨tk, tx, tf, tb, tl⟩) (by simp [results, Tryz.results72, go_sem, tokV, *]) rfl ⟨rfl, ?_⟩
   refine HV.out.1.trans (S' := fun k => k = T) ?_ (fun k hk q => by have q' : k = T := q; have := HV.out.2; omega)
   exact frG
 · have e : peekT L at_ = none_ 0 := by unfold peekT; rw [List.getElem?_eq_none (Nat.le_of_not_lt hlt)]; rfl
   rw [e]
   rw [hn] at hlt
   have i1 : (n : Int) ≤ (at_ : Int) := by omega
   clear h hn e p2
   go_enter Tryz.func72, Tryz.ntmps72
   go_wp2
   go_quiet (fail)
   go_wp2
   (try simp only [Exit.inBlock, Exit.then])
   refine bodyPost_ret (v := tokV (none_ 0)) (by simp [results, Tryz.results72, go_sem, tokV, none_, *]) rfl ⟨rfl, ?_⟩
   exact frA
theorem qend_any (h : QAt w pb vT L at_ dp) :
 Calls Tryz.prog 100 #[.pointer (some ⟨pb, 0, none⟩)] w fun e w' => e = .returned (.int .i64 ((((L.getLast?.map (·.line)).getD 1 : Nat)) : Int)) ∧ Fr Nil w w' := by
 obtain ⟨a, cap, rfl⟩ := h.toks.shape
 have hsz := h.sz
 obtain ⟨n, hn⟩ : ∃ n, L.length = n := ⟨_, rfl⟩
 obtain ⟨p0, p1, p2, pf, pl⟩ := h.facts
 by_cases h0 : n = 0
 · subst h0
   obtain rfl : L = [] := List.eq_nil_of_length_eq_zero hn
   clear h hn p1 p2
   simp only [List.length_nil] at p0
   go_enter Tryz.func100, Tryz.ntmps100
   go_wp2
   go_ret
   exact ⟨rfl, by exact frA⟩
 · have hlt : n - 1 < L.length := by omega
   obtain ⟨b, off, rfl, hb, hbp, t0, t1, t2, t3, t4⟩ := h.tok hlt
   have e : (L.getLast?.map (·.line)).getD 1 = L[n - 1].line := by
    rw [List.getLast?_eq_getElem?, hn, List.getElem?_eq_getElem hlt]
    rfl
   rw [e]
   rw [hn] at p0
   generalize L[n - 1].line = tl at t4 ⊢
   obtain ⟨m, rfl⟩ : ∃ m, n = m + 1 := ⟨n - 1, by omega⟩
   simp only [Nat.add_sub_cancel] at t4
   have i0 : (0 : Int) ≤ (m : Int) := by omega
   have i1 : (m : Int) < (m : Int) + 1 := by omega
   have i2 : IntKind.i64.wrap ((m : Int) + 1 - 1) = (m : Int) := by rw [IntKind.wrap_i64]; omega
   have i4 : IntKind.i64.wrap (m : Int) = (m : Int) := by rw [IntKind.wrap_i64]; omega
   have i3 : ((m : Int) + 1 == 0) = false := by rw [beq_eq_false_iff_ne]; omega
   have i5 : ¬ (m : Int) + 1 = 0 := by omega
   clear h hn e p1 p2 t0 t1 t2 t3
   go_enter Tryz.func100, Tryz.ntmps100
   go_wp2
   go_quiet (fail)
   go_wp2
   go_ret
   exact ⟨rfl, by exact frA⟩
theorem qfail_any {e l0 : Nat} (he : e ≠ 0) (h : QAt w pb vT L at_ dp) :
 Calls Tryz.prog 74 #[.pointer (some ⟨pb, 0, none⟩), .int .i64 (e : Int)] w (Broke pb vT w (faultF L e ⟨at_, 0, l0⟩)) := by
 have hb0 : ∃ a d : Int, Blk w pb #[vT, .int .i64 a, .int .i64 d] 62 := ⟨_, _, h.blk⟩
 have HB := Lib.hid hb0
 obtain ⟨a, cap, rfl⟩ := h.toks.shape
 have hsz := h.sz
 obtain ⟨n, hn⟩ : ∃ n, L.length = n := ⟨_, rfl⟩
 obtain ⟨p0, p1, p2, pf, pl⟩ := h.facts
 by_cases hlt : at_ < L.length
 · obtain ⟨b, off, rfl, hb, hbp, t0, t1, t2, t3, t4⟩ := h.tok hlt
   have e1 : faultF L e ⟨at_, 0, l0⟩ = ⟨at_, e, L[at_].line⟩ := by unfold faultF; rw [if_neg (by simp)]; simp only; rw [List.getElem?_eq_getElem hlt]
   rw [e1]
   generalize L[at_].line = tl at t4 ⊢
   rw [hn] at p0 hlt
   have i1 : ¬ (n : Int) ≤ (at_ : Int) := by omega
   have i2 : (at_ : Int) < (n : Int) := by omega
   have i0 : (0 : Int) ≤ (at_ : Int) := by omega
   have HE := Lib.hid he
   clear h hn e1 p2 t0 t1 t2 t3 hb0 he
   go_enter Tryz.func74, Tryz.ntmps74
   go_wp2
   go_quiet (fail)
   go_wp2
   obtain ⟨V, hV⟩ : ∃ V, w.drewN nq = V := ⟨_, rfl⟩
   rw [hV]
   have fV : Fr Nil w V := by rw [← hV]; exact frA
   have p0 := fV.cell p0 (fun q => q)
   have p1 := fV.cell p1 (fun q => q)
   have t4 := fV.cell t4 (fun q => q)
   have hb' := fV.lt hb
   have pl' := fV.lt pl
   have HV := Lib.hid fV
   clear hV fV
   go_still_tail 14, (by kernel_rfl)
   change wpList _ _ _ _ _ V.drew
   go_wp2
   obtain ⟨a0, d0, hb0⟩ := HB.out
   exact ⟨rfl, HE.out, rfl, ⟨a0, d0, (HV.out.drew).blk hb0 (fun q => q)⟩, (Fr.of_nil HV.out).drew⟩
 · have e1 : faultF L e ⟨at_, 0, l0⟩ = ⟨at_, 17, (L.getLast?.map (·.line)).getD 1⟩ := by unfold faultF; rw [if_neg (by simp)]; simp only; rw [List.getElem?_eq_none (Nat.le_of_not_lt hlt)]
   have HN := Lib.hid (fun w' (f : Fr Nil w w') => qend_any (h.fr f))
   rw [e1]
   generalize (L.getLast?.map (·.line)).getD 1 = tl at HN ⊢
   rw [hn] at p0 hlt
   have i1 : (n : Int) ≤ (at_ : Int) := by omega
   clear h hn e1 p2 hb0
   go_enter Tryz.func74, Tryz.ntmps74
   go_wp2
   go_quiet (fail)
   go_wp2_with fail
   refine (HN.out _ (by exact frA)).mono ?_
   rintro r w1 ⟨rfl, f1⟩
   go_wp2
   have F1 : Fr Nil w w1 := Fr.comp (S := Nil) (by exact frA) f1
   obtain ⟨a0, d0, hb0⟩ := HB.out
   exact ⟨rfl, by simp, rfl, ⟨a0, d0, F1.blk hb0 (fun q => q)⟩, Fr.of_nil F1⟩
end
theorem peek_kind (L : List TokV) (s : PS) : kindP L s = (peekT L s.at_).kind := by
 unfold kindP peekT
 cases L[s.at_]? <;> rfl
theorem peek_lt {L : List TokV} {s : PS} {k : Int} (h : (peekT L s.at_).kind = k) (hk : k ≠ 0) : s.at_ < L.length := kind_lt (by rw [peek_kind]; exact h) hk
theorem peek_sees (L : List TokV) (x : List UInt8) (s : PS) : seesF L x s = ((decide ((peekT L s.at_).kind = 5) || decide ((peekT L s.at_).kind = 6)) && decide ((peekT L s.at_).text = x)) := by
 unfold seesF peekT
 cases L[s.at_]? with
 | none => rfl
 | some t => rfl
theorem fault_ne {L : List TokV} {e : Nat} (he : e ≠ 0) (s : PS) : (faultF L e s).e ≠ 0 := (fault_goes (L := L) (e := e) (s := s) he).2.1
theorem Broke.back {pb : Nat} {vT : Value} {w0 w w' : World} {s : PS} {e : Ending} (h : Broke pb vT w s e w') (f : Fr (fun b => b = pb) w0 w) : Broke pb vT w0 s e w' := ⟨h.1, h.2.1, h.2.2.1, f.comp h.2.2.2⟩
section
variable {w : World} {pb : Nat} {vT : Value} {L : List TokV} {s : PS} {dp : Int}
theorem qfail_at {e : Nat} (he : e ≠ 0) (hs : s.e = 0) (h : QAt w pb vT L s.at_ dp) :
 Calls Tryz.prog 74 #[.pointer (some ⟨pb, 0, none⟩), .int .i64 (e : Int)] w (Broke pb vT w (faultF L e s)) := by
 obtain ⟨a, q, l⟩ := s
 obtain rfl : q = 0 := hs
 exact qfail_any he h
set_option maxHeartbeats 1000000 in
theorem qkind_any {k : Int} (hs : s.e = 0) (hk : k ≠ 0) (h : QAt w pb vT L s.at_ dp) :
 Calls Tryz.prog 73 #[.pointer (some ⟨pb, 0, none⟩), .int .i64 k] w (QEnds pb vT L dp w (fun _ v => v = tokV (tokenF L k s).1) (tokenF L k s).2) := by
 obtain ⟨T, hT⟩ : ∃ T, w.heap.size = T := ⟨_, rfl⟩
 obtain ⟨W1, hW1⟩ : ∃ W1, w.alloc (.cells #[.int .i64 0, .string ⟨#[]⟩, .bool false, .int .u64 0, .int .i64 0] 41) = W1 := ⟨_, rfl⟩
 have f1 : Fr Nil w W1 := by rw [← hW1]; exact frA
 have bT1 : Blk W1 T #[.int .i64 0, .string ⟨#[]⟩, .bool false, .int .u64 0, .int .i64 0] 41 := by rw [← hW1, ← hT]; exact Blk.new _ _ _
 have hpT : pb < T := by rw [← hT]; exact h.blk.lt
 have hp := fun w' (f : Fr Nil W1 w') => qpeek_any (h.fr (f1.comp f))
 have hsz := h.sz
 have hle := h.le
 have hkp := peek_kind L s
 obtain ⟨⟨tk, tx, tf, tb, tl⟩, htk⟩ : ∃ t, peekT L s.at_ = t := ⟨_, rfl⟩
 rw [htk] at hp hkp
 have HP := Lib.hid hp
 have H1 := Lib.hid (And.intro f1 (And.intro bT1 (And.intro h (And.intro hT hs))))
 have HFL : Hid (∀ w', Fr Nil w w' → Calls Tryz.prog 74 #[.pointer (some ⟨pb, 0, none⟩), .int .i64 3] w' (Broke pb vT w' (faultF L 3 s))) := Lib.hid (fun w' f => qfail_at (e := 3) (by decide) hs (h.fr f))
 by_cases hx : kindP L s = k
 · have hlt := kind_lt hx hk
   have e1 : tokenF L k s = (⟨tk, tx, tf, tb, tl⟩, { s with at_ := s.at_ + 1 }) := by unfold tokenF; rw [if_pos ⟨hs, hx⟩]; unfold peekT at htk; rw [htk]
   rw [e1]
   obtain rfl : tk = k := by rw [← hx, hkp]
   have i3 : IntKind.i64.wrap ((s.at_ : Int) + 1) = (s.at_ : Int) + 1 := by rw [IntKind.wrap_i64]; omega
   clear hp f1 bT1 h htk hkp hx e1 hle
   go_enter Tryz.func73, Tryz.ntmps73
   go_upto_region 1 with fail
   try rw [hT]
   try rw [hW1]
   clear hT hW1
   go_wp2_with fail
   refine (HP.out W1 (Fr.refl _ _)).mono ?_
   rintro e w2 ⟨rfl, f2⟩
   unfold tokV
   have bT2 := f2.blk H1.out.2.1 (fun q => q)
   have bp2 := (H1.out.1.comp f2).blk H1.out.2.2.1.blk (fun q => q)
   have s2 := f2.size
   have sT := H1.out.2.1.lt
   have y0 := bT2.cell 0
   have y1 := bT2.cell 1
   have y2 := bT2.cell 2
   have y3 := bT2.cell 3
   have y4 := bT2.cell 4
   simp at y0 y1 y2 y3 y4
   have yf := bT2.free
   have yl := bT2.lt
   have p0 := bp2.cell 0
   have p1 := bp2.cell 1
   have p2 := bp2.cell 2
   simp at p0 p1 p2
   have pf := bp2.free
   have pl := bp2.lt
   have hne : pb ≠ T := by omega
   have hne2 : T ≠ pb := by omega
   have HB := Lib.hid (And.intro bT2 (And.intro bp2 (H1.out.1.comp f2)))
   clear f2 bT2 bp2
   have F2 := HB.out.2.2
   have hwT : w.heap.size ≤ T := Nat.le_of_eq H1.out.2.2.2.1
   go_wp2
   (try simp only [Exit.inBlock, Exit.then])
   refine bodyPost_ret (v := tokV ⟨tk, tx, tf, tb, tl⟩) (by simp [results, Tryz.results73, go_sem, tokV, *]) rfl (.inl ⟨H1.out.2.2.2.2, _, rfl, rfl, ?_, ?_⟩)
   · refine H1.out.2.2.1.to (at' := s.at_ + 1) (dp' := dp) (by exact frG) ?_ hlt
     (unfold Blk; simp (disch := first | omega | (simp; done) | (simp; omega)) only [hp_drew, hp_drewN, hp_alloc, hp_other, hp_same, hp_new, upd_cells, Option.map_some, (HB.out.2.1).eq])
     simp
   · exact frG
 · have e1 : tokenF L k s = (none_ 0, faultF L 3 s) := by unfold tokenF; rw [if_neg (fun q => hx q.2)]
   rw [e1]
   have hx2 : ¬ tk = k := fun q => hx (by rw [hkp, ← q])
   have d1 : (tk == k) = false := by simpa using hx2
   clear hp f1 bT1 h htk hkp hx e1 hle
   go_enter Tryz.func73, Tryz.ntmps73
   go_upto_region 1 with fail
   try rw [hT]
   try rw [hW1]
   clear hT hW1
   go_wp2_with fail
   refine (HP.out W1 (Fr.refl _ _)).mono ?_
   rintro e w2 ⟨rfl, f2⟩
   unfold tokV
   have HF := Lib.hid (H1.out.1.comp f2)
   clear f2
   go_wp2_with fail
   refine (HFL.out _ (Fr.comp (S := Nil) HF.out (by exact frA))).mono ?_
   rintro r w3 hbr
   have hb2 := hbr.back (Fr.of_nil (Fr.comp (S := Nil) HF.out (by exact frA)))
   obtain ⟨_, rfl, _⟩ := hbr
   exact ⟨rfl, .inr hb2⟩
set_option maxHeartbeats 1000000 in
theorem qis_any (x : List UInt8) (hs : s.e = 0) (h : QAt w pb vT L s.at_ dp) :
 Calls Tryz.prog 38 #[.pointer (some ⟨pb, 0, none⟩), .string ⟨x.toArray⟩] w fun e w' => e = .returned (.bool (seesF L x s)) ∧ QAt w' pb vT L (if seesF L x s = true then s.at_ + 1 else s.at_) dp ∧ Fr (fun b => b = pb) w w' := by
 have hp := fun w' (f : Fr Nil w w') => qpeek_any (h.fr f)
 have hsz := h.sz
 have hle := h.le
 have hse := peek_sees L x s
 have hlt0 : seesF L x s = true → s.at_ < L.length := fun q => sees_lt q
 obtain ⟨⟨tk, tx, tf, tb, tl⟩, htk⟩ : ∃ t, peekT L s.at_ = t := ⟨_, rfl⟩
 rw [htk] at hp hse
 simp only at hse
 have HP := Lib.hid hp
 have H1 := Lib.hid h
 have hpl := h.blk.lt
 have i3 : IntKind.i64.wrap ((s.at_ : Int) + 1) = (s.at_ : Int) + 1 := by rw [IntKind.wrap_i64]; omega
 by_cases hx : tx = x
 · by_cases hk : tk = 5 ∨ tk = 6
   · have e1 : seesF L x s = true := by rw [hse]; rcases hk with rfl | rfl <;> simp [hx]
     have hlt := hlt0 e1
     rw [e1, if_pos rfl]
     subst hx
     clear hp h htk hse hle hlt0 e1
     rcases hk with rfl | rfl
     · go_enter Tryz.func38, Tryz.ntmps38
       go_wp2_with fail
       refine (HP.out _ (by exact frA)).mono ?_
       rintro e w1 ⟨rfl, f1⟩
       unfold tokV
       have F1 : Fr Nil w w1 := Fr.comp (S := Nil) (by exact frA) f1
       have bp := F1.blk H1.out.blk (fun q => q)
       have p0 := bp.cell 0
       have p1 := bp.cell 1
       have p2 := bp.cell 2
       simp at p0 p1 p2
       have pf := bp.free
       have pl := bp.lt
       have HB := Lib.hid (And.intro bp F1)
       clear f1 bp F1
       have F2 := HB.out.2
       go_wp2
       go_ret
       refine ⟨rfl, ?_, ?_⟩
       · refine H1.out.to (at' := s.at_ + 1) (dp' := dp) (by exact frG) ?_ hlt
         (unfold Blk; simp (disch := first | omega | (simp; done) | (simp; omega)) only [hp_drew, hp_drewN, hp_alloc, hp_other, hp_same, hp_new, upd_cells, Option.map_some, (HB.out.1).eq])
         simp
       · exact frG
     · go_enter Tryz.func38, Tryz.ntmps38
       go_wp2_with fail
       refine (HP.out _ (by exact frA)).mono ?_
       rintro e w1 ⟨rfl, f1⟩
       unfold tokV
       have F1 : Fr Nil w w1 := Fr.comp (S := Nil) (by exact frA) f1
       have bp := F1.blk H1.out.blk (fun q => q)
       have p0 := bp.cell 0
       have p1 := bp.cell 1
       have p2 := bp.cell 2
       simp at p0 p1 p2
       have pf := bp.free
       have pl := bp.lt
       have HB := Lib.hid (And.intro bp F1)
       clear f1 bp F1
       have F2 := HB.out.2
       go_wp2
       go_ret
       refine ⟨rfl, ?_, ?_⟩
       · refine H1.out.to (at' := s.at_ + 1) (dp' := dp) (by exact frG) ?_ hlt
         (unfold Blk; simp (disch := first | omega | (simp; done) | (simp; omega)) only [hp_drew, hp_drewN, hp_alloc, hp_other, hp_same, hp_new, upd_cells, Option.map_some, (HB.out.1).eq])
         simp
       · exact frG
   · have e1 : seesF L x s = false := by
      rw [hse]
      have h5 : ¬ tk = 5 := fun q => hk (.inl q)
      have h6 : ¬ tk = 6 := fun q => hk (.inr q)
      simp [h5, h6]
     have h5 : ¬ tk = 5 := fun q => hk (.inl q)
     have h6 : ¬ tk = 6 := fun q => hk (.inr q)
     have d5 : (tk == 5) = false := by simpa using h5
     have d6 : (tk == 6) = false := by simpa using h6
     have n5 : (tk != 5) = true := by simpa using h5
     have n6 : (tk != 6) = true := by simpa using h6
     rw [e1, if_neg (by decide)]
     subst hx
     clear hp h htk hse hle hlt0 e1 hk
     go_enter Tryz.func38, Tryz.ntmps38
     go_wp2_with fail
     refine (HP.out _ (by exact frA)).mono ?_
     rintro e w1 ⟨rfl, f1⟩
     unfold tokV
     have F1 : Fr Nil w w1 := Fr.comp (S := Nil) (by exact frA) f1
     have bp := F1.blk H1.out.blk (fun q => q)
     have p0 := bp.cell 0
     have p1 := bp.cell 1
     have p2 := bp.cell 2
     simp at p0 p1 p2
     have pf := bp.free
     have pl := bp.lt
     have HB := Lib.hid (And.intro bp F1)
     clear f1 bp F1
     go_wp2
     go_ret
     refine ⟨by simp, H1.out.fr ?_, Fr.of_nil ?_⟩ <;> (refine Fr.comp (S := Nil) HB.out.2 ?_; exact frA)
 · have e1 : seesF L x s = false := by rw [hse]; simp [hx]
   have d1 : (tx == x) = false := by simpa using hx
   rw [e1, if_neg (by decide)]
   clear hp h htk hse hle hlt0 e1
   go_enter Tryz.func38, Tryz.ntmps38
   go_wp2_with fail
   refine (HP.out _ (by exact frA)).mono ?_
   rintro e w1 ⟨rfl, f1⟩
   unfold tokV
   have F1 : Fr Nil w w1 := Fr.comp (S := Nil) (by exact frA) f1
   have bp := F1.blk H1.out.blk (fun q => q)
   have p0 := bp.cell 0
   have p1 := bp.cell 1
   have p2 := bp.cell 2
   simp at p0 p1 p2
   have pf := bp.free
   have pl := bp.lt
   have HB := Lib.hid (And.intro bp F1)
   clear f1 bp F1
   go_wp2
   go_ret
   refine ⟨by simp, H1.out.fr ?_, Fr.of_nil ?_⟩ <;> (refine Fr.comp (S := Nil) HB.out.2 ?_; exact frA)
set_option maxHeartbeats 1000000 in
theorem qwant_any (x : List UInt8) (hs : s.e = 0) (h : QAt w pb vT L s.at_ dp) :
 Calls Tryz.prog 41 #[.pointer (some ⟨pb, 0, none⟩), .string ⟨x.toArray⟩] w (QEnds pb vT L dp w (fun _ v => v = .tuple #[]) (needF L x s)) := by
 have HI := Lib.hid (fun w' (f : Fr Nil w w') => qis_any x hs (h.fr f))
 by_cases hx : seesF L x s = true
 · have e1 : needF L x s = { s with at_ := s.at_ + 1 } := by unfold needF; rw [if_pos ⟨hs, hx⟩]
   rw [e1]
   simp only [hx, if_true] at HI
   have HS := Lib.hid hs
   clear h hx e1 hs
   go_enter Tryz.func41, Tryz.ntmps41
   go_wp2_with fail
   refine (HI.out _ (by exact frA)).mono ?_
   rintro e w1 ⟨rfl, h1, f1⟩
   have H2 := Lib.hid (And.intro h1 f1)
   clear h1 f1
   go_wp2
   go_end0
   exact .inl ⟨HS.out, _, rfl, rfl, H2.out.1, H2.out.2⟩
 · have hxf : seesF L x s = false := by simpa using hx
   have e1 : needF L x s = faultF L 3 s := by unfold needF; rw [if_neg (fun q => hx q.2)]
   rw [e1]
   simp only [hxf, Bool.false_eq_true, if_false] at HI
   have HFL : Hid (∀ w', QAt w' pb vT L s.at_ dp → Calls Tryz.prog 74 #[.pointer (some ⟨pb, 0, none⟩), .int .i64 3] w' (Broke pb vT w' (faultF L 3 s))) := Lib.hid (fun w' h' => qfail_at (e := 3) (by decide) hs h')
   clear h hx e1 hs hxf
   go_enter Tryz.func41, Tryz.ntmps41
   go_wp2_with fail
   refine (HI.out _ (by exact frA)).mono ?_
   rintro e w1 ⟨rfl, h1, f1⟩
   have H2 := Lib.hid (And.intro h1 f1)
   clear h1 f1
   go_wp2_with fail
   refine (HFL.out _ H2.out.1).mono ?_
   rintro r w3 hbr
   have hb2 := hbr.back H2.out.2
   obtain ⟨_, rfl, _⟩ := hbr
   exact ⟨rfl, .inr hb2⟩
end
theorem names_fuel {L : List TokV} : ∀ (g g' : Nat) (least : Bool) (acc : List (List UInt8)) (s : PS), measP L s + 1 ≤ g → measP L s + 1 ≤ g' → namesF L g least acc s = namesF L g' least acc s
 | 0, g', least, acc, s, h, _ => by omega
 | g + 1, g', least, acc, s, h1, h2 => by
  obtain ⟨f, rfl⟩ : ∃ f, g' = f + 1 := ⟨g' - 1, by omega⟩
  unfold namesF
  by_cases hc : s.e = 0 ∧ (least = true ∨ kindP L s = 1)
  · rw [if_pos hc, if_pos hc]
    have m1 := token_meas (L := L) (k := 1) (by decide) hc.1
    exact names_fuel g f false _ _ (by omega) (by omega)
  · rw [if_neg hc, if_neg hc]
theorem names_acc {L : List TokV} : ∀ (g : Nat) (acc : List (List UInt8)) (s : PS), namesF L g false acc s = (acc ++ (namesF L g false [] s).1, (namesF L g false [] s).2)
 | 0, acc, s => by simp [namesF]
 | g + 1, acc, s => by
  unfold namesF
  by_cases hc : s.e = 0 ∧ (false = true ∨ kindP L s = 1)
  · rw [if_pos hc, if_pos hc, names_acc g (acc ++ _), names_acc g ([] ++ _)]
    simp
  · rw [if_neg hc, if_neg hc]
    simp
theorem names_e {L : List TokV} : ∀ (g : Nat) (acc : List (List UInt8)) (s : PS), s.e = 0 → (namesF L g false acc s).2.e = 0
 | 0, acc, s, h => h
 | g + 1, acc, s, h => by
  unfold namesF
  by_cases hc : s.e = 0 ∧ (false = true ∨ kindP L s = 1)
  · rw [if_pos hc]
    refine names_e g _ _ ?_
    rw [token_ok hc.1 (by simpa using hc.2)]
    exact h
  · rw [if_neg hc]
    exact h
theorem names_some {L : List TokV} {s : PS} (hs : s.e = 0) (hk : kindP L s = 1) : namesF L (fuelP L) true [] s = ((peekT L s.at_).text :: (namesF L (fuelP L) false [] { s with at_ := s.at_ + 1 }).1, (namesF L (fuelP L) false [] { s with at_ := s.at_ + 1 }).2) := by
 obtain ⟨f, hf⟩ : ∃ f, fuelP L = f + 1 := ⟨L.length + 1, rfl⟩
 have hm := measP_le L s
 have m1 := token_meas (L := L) (k := 1) (by decide) hs
 rw [hf] at hm
 have e : namesF L (f + 1) true [] s = namesF L f false ([] ++ [(tokenF L 1 s).1.text]) (tokenF L 1 s).2 := by
  rw [namesF, if_pos ⟨hs, .inl rfl⟩]
 rw [hf, e, names_fuel f (f + 1) false _ _ (by omega) (by omega), names_acc, token_ok hs hk]
 unfold tokenF peekT
 rw [if_pos ⟨hs, hk⟩]
 rfl
theorem names_none {L : List TokV} {s : PS} (hs : s.e = 0) (hk : kindP L s ≠ 1) : (namesF L (fuelP L) true [] s).2 = faultF L 3 s := by
 obtain ⟨f, hf⟩ : ∃ f, fuelP L = f + 1 := ⟨L.length + 1, rfl⟩
 rw [hf, namesF, if_pos ⟨hs, .inl rfl⟩]
 have e : (tokenF L 1 s).2 = faultF L 3 s := by unfold tokenF; rw [if_neg (fun q => hk q.2)]
 rw [e]
 have hne := fault_ne (L := L) (e := 3) (by decide) s
 cases f with
 | zero => rfl
 | succ f =>
  rw [namesF, if_neg (fun q => hne q.1)]
theorem run_tok0 (a b c d e : Value) (w : World) : (Instr.field 41 (.agg #[a, b, c, d, e]) 0).run Tryz.prog w = .ok a w := by kernel_rfl
section
variable {w : World} {pb : Nat} {vT : Value} {L : List TokV} {s : PS} {dp : Int}
theorem qkind_ok {k : Int} (hs : s.e = 0) (hk : k ≠ 0) (hx : kindP L s = k) (h : QAt w pb vT L s.at_ dp) :
 Calls Tryz.prog 73 #[.pointer (some ⟨pb, 0, none⟩), .int .i64 k] w fun e w' => e = .returned (tokV (peekT L s.at_)) ∧ QAt w' pb vT L (s.at_ + 1) dp ∧ Fr (fun b => b = pb) w w' := by
 have e1 : tokenF L k s = (peekT L s.at_, { s with at_ := s.at_ + 1 }) := by unfold tokenF; rw [if_pos ⟨hs, hx⟩]; rfl
 have h1 := qkind_any hs hk h
 rw [e1] at h1
 refine h1.mono ?_
 rintro e w' (⟨_, v, rfl, rfl, q, f⟩ | ⟨hne, _⟩)
 · exact ⟨rfl, q, f⟩
 · exact absurd hs hne
set_option maxHeartbeats 1000000 in
theorem qnames_any (hs : s.e = 0) (h : QAt w pb vT L s.at_ dp) :
 Calls Tryz.prog 101 #[.pointer (some ⟨pb, 0, none⟩)] w fun r w' => ∃ v, r = .returned v ∧ w'.ownsRow w.heap.size 9 1 v (namesF L (fuelP L) false [] s).1.length (strC (namesF L (fuelP L) false [] s).1) ∧ QAt w' pb vT L (namesF L (fuelP L) false [] s).2.at_ dp ∧ Fr (fun b => b = pb) w w' := by
 obtain ⟨i0, hi, hz0, hz1, hz2⟩ := info_parts infoS
 obtain ⟨R, hR⟩ : ∃ R, namesF L (fuelP L) false [] s = R := ⟨_, rfl⟩
 rw [hR]
 obtain ⟨F, hF⟩ : ∃ F, fuelP L = F := ⟨_, rfl⟩
 have hm := measP_le L s
 rw [hF] at hR hm
 have hF2 : F ≤ 1000002 := by have := h.sz; unfold fuelP at hF; omega
 have hpl := h.blk.lt
 have HP := Lib.hid (And.intro h (And.intro hR (And.intro hm hs)))
 have htf := run_tok0
 have htf1 := run_tok1
 clear h hR hm hF hs
 go_enter Tryz.func101, Tryz.ntmps101
 go_wp2_with fail
 go_loopg [3] F (fun g vo wr => ∃ (acc : List (List UInt8)) (st : PS) (v : Value), v = vo ∧ acc.length + g = F ∧ Hid (namesF L g false acc st = R ∧ measP L st + 1 ≤ g ∧ st.e = 0 ∧ wr.ownsRow w.heap.size 9 1 v acc.length (strC acc) ∧ QAt wr pb vT L st.at_ dp) ∧ Fr (fun b => b = pb) w wr)
 case atStart => exact ⟨[], s, _, rfl, by simp, Lib.hid ⟨HP.out.2.1, HP.out.2.2.1, HP.out.2.2.2, World.ownsRow_nil _ _ _ _, HP.out.1⟩, Fr.refl _ _⟩
 case round =>
  obtain ⟨acc, st, v, rfl, hg, HS, hw⟩ := hrel
  obtain ⟨Vr, hVr⟩ : ∃ V, V = wr := ⟨_, rfl⟩
  subst hVr
  obtain ⟨hst, hme, he, hown, hq⟩ := HS.out
  have hkp := peek_kind L st
  have hpk := fun w' (f : Fr Nil Vr w') => qpeek_any (hq.fr f)
  obtain ⟨⟨tk, tx, tf, tb, tl⟩, htk⟩ : ∃ t, peekT L st.at_ = t := ⟨_, rfl⟩
  rw [htk] at hpk hkp
  have HPK := Lib.hid hpk
  have HOQ := Lib.hid (And.intro hown (And.intro hq he))
  have hsw := hw.size
  clear hpk hown hq
  obtain ⟨f, rfl⟩ : ∃ f, gk = f + 1 := ⟨gk - 1, by omega⟩
  go_wp2_with fail
  refine (HPK.out _ (by exact frA)).mono ?_
  rintro e w1 ⟨rfl, f1⟩
  unfold tokV
  have g1 : Fr Nil Vr w1 := Fr.comp (S := Nil) (by exact frA) f1
  have HG1 := Lib.hid g1
  clear f1
  by_cases hx : tk = 1
  · subst hx
    have hk1 : kindP L st = 1 := hkp
    have hT := token_meas (L := L) (k := 1) (by decide) he
    have hnx : namesF L f false (acc ++ [tx]) { st with at_ := st.at_ + 1 } = R := by
     rw [namesF, if_pos ⟨he, .inr hk1⟩] at hst
     rw [token_ok he hk1] at hst
     have e2 : (tokenF L 1 st).1 = peekT L st.at_ := by unfold tokenF; rw [if_pos ⟨he, hk1⟩]; rfl
     rw [e2, htk] at hst
     exact hst
    rw [token_ok he hk1] at hT
    have HT := Lib.hid (qkind_ok he (by decide) hk1 (HOQ.out.2.1.fr g1))
    rw [htk] at HT
    have hmf : measP L { st with at_ := st.at_ + 1 } + 1 ≤ f := by omega
    have HR := Lib.hid (And.intro hnx hmf)
    clear hst hT hnx hmf hk1 hkp htk hme g1 HS he
    go_wp2_with fail
    refine HT.out.mono ?_
    rintro e w2 ⟨rfl, h2, f2⟩
    unfold tokV
    have fw2 : Fr (fun b => b = pb) w w2 := (hw.via HG1.out).comp f2
    have hown2 : w2.ownsRow w.heap.size 9 1 v acc.length (strC acc) := owns_frS (owns_fr HOQ.out.1 HG1.out) f2 (fun k q e => by
     have h := (HOQ.out.1.lt k q).1
     have e' : k = pb := e
     omega)
    have hs2 := fw2.size
    have hown3 := hown2.lt
    have H2 := Lib.hid (And.intro h2 (And.intro hown2 (And.intro fw2 hown3)))
    clear h2 hown2 fw2 f2 hown3
    go_wp2_with (first
     | (at_builtin; refine wpList_push rfl (.tmp 8) (.tmp 12) 45 rfl w.heap.size 9 i0 (.string ⟨#[]⟩) 1 16 Tryz.underlying45 hi hz0 hz1 hz2 rfl (by decide) v acc.length (strC acc) rfl H2.out.2.1 [.string ⟨tx.toArray⟩] rfl rfl (by simp [Value.oneCell']) (by unfold maxLen; omega) (by omega) hs2 ?_; intro v' w3 hown3 f3 _; have HO := Lib.hid (And.intro hown3 f3); clear hown3 f3)
     | fail)
    have fw3 : Fr (fun b => b = pb) w w3 := H2.out.2.2.1.trans HO.out.2 (fun k hk q => by have := (H2.out.2.2.2 k q).1; omega)
    have hQ3 : QAt w3 pb vT L (st.at_ + 1) dp := by
     have hne : ¬ Value.ownBlock v = some pb := fun q => by have := (H2.out.2.2.2 pb q).1; omega
     exact ⟨HO.out.2.blk H2.out.1.blk hne, HP.out.1.toks.fr fw3 (fun _ q => q), H2.out.1.le, H2.out.1.sz⟩
    go_roundg f
    case rel => exact ⟨acc ++ [tx], { st with at_ := st.at_ + 1 }, v', rfl, by simp; omega, Lib.hid ⟨HR.out.1, HR.out.2, HOQ.out.2.2, by rw [strC_snoc, List.length_append]; exact HO.out.1, hQ3⟩, fw3⟩
    case measure => omega
  · have d1 : (tk == 1) = false := by simpa using hx
    have hRe : (acc, st) = R := by
     rw [namesF, if_neg (fun q => hx (by rw [← hkp]; simpa using q.2))] at hst
     exact hst
    subst hRe
    clear hst hkp htk hme g1 he HS
    go_wp2
    go_ret
    refine ⟨v, rfl, owns_fr HOQ.out.1 HG1.out, HOQ.out.2.1.fr HG1.out, hw.via HG1.out⟩
end
theorem owns_oneB {w : World} {base k : Nat} {v : Value} {e : TypeId} (h : Blk w k #[v] e) (hb : base ≤ k) : w.ownsRow base e 1 (.slice (some ⟨k, 0, none⟩) 1 1) 1 [v] :=
 ⟨rfl, .inr ⟨k, 1, _, rfl, hb, h, Nat.le_refl _, by unfold maxLen; omega, rfl, rfl⟩⟩
theorem strC_oneB (l : List (List UInt8)) : ∀ u ∈ strC l, u.oneCell' = true := fun u hu => by
 unfold strC at hu
 obtain ⟨x, _, rfl⟩ := List.mem_map.1 hu
 rfl
theorem srcFB {w2 w' : World} {A : Option Addr} {m size : Nat} {news : List Value} (h : Src w2 A m size news) (f : Fr Nil w2 w') : Src w' A m size news := by
 rcases h with h | ⟨ad, rfl, hl, hc⟩
 · exact .inl h
 · exact .inr ⟨ad, rfl, hl, fun j u hj => f.cell (hc j u hj) (fun q => q)⟩
theorem names_lenB {L : List TokV} {s : PS} (hL : L.length ≤ 1000000) : (namesF L (fuelP L) false [] s).1.length ≤ 1000002 := by
 have h : ∀ (g : Nat) (acc : List (List UInt8)) (s : PS), (namesF L g false acc s).1.length ≤ acc.length + g := fun g => by
  induction g with
  | zero => intro acc s; exact Nat.le_refl _
  | succ g ih =>
   intro acc s
   unfold namesF
   split
   · have := ih (acc ++ [(tokenF L 1 s).1.text]) (tokenF L 1 s).2
     simp only [List.length_append, List.length_singleton] at this
     omega
   · simp only; omega
 have := h (fuelP L) [] s
 unfold fuelP at this ⊢
 simp only [List.length_nil] at this
 omega
section
variable {w : World} {pb : Nat} {vT : Value} {L : List TokV} {s : PS} {dp : Int}
set_option maxHeartbeats 1000000 in
theorem qsome_any (hs : s.e = 0) (h : QAt w pb vT L s.at_ dp) :
 Calls Tryz.prog 75 #[.pointer (some ⟨pb, 0, none⟩)] w (QEnds pb vT L dp w (fun w' v => w'.ownsRow w.heap.size 9 1 v (namesF L (fuelP L) true [] s).1.length (strC (namesF L (fuelP L) true [] s).1)) (namesF L (fuelP L) true [] s).2) := by
 obtain ⟨i0, hi, hz0, hz1, hz2⟩ := info_parts infoS
 have htf1 := run_tok1
 have hpl := h.blk.lt
 by_cases hk : kindP L s = 1
 · have hlt := kind_lt hk (by decide)
   rw [names_some hs hk]
   have hln := names_lenB (s := { s with at_ := s.at_ + 1 }) h.sz
   have hne := names_e (L := L) (fuelP L) [] { s with at_ := s.at_ + 1 } hs
   have HK := Lib.hid (fun w' (f : Fr Nil w w') => qkind_ok hs (by decide) hk (h.fr f))
   obtain ⟨⟨tk, tx, tf, tb, tl⟩, htk⟩ : ∃ t, peekT L s.at_ = t := ⟨_, rfl⟩
   rw [htk] at HK ⊢
   have HN := Lib.hid (fun w' (h' : QAt w' pb vT L (s.at_ + 1) dp) => qnames_any (s := { s with at_ := s.at_ + 1 }) hs h')
   obtain ⟨⟨R, S⟩, hR⟩ : ∃ R, namesF L (fuelP L) false [] { s with at_ := s.at_ + 1 } = R := ⟨_, rfl⟩
   rw [hR] at HN hne hln ⊢
   simp only at HN hne hln
   obtain ⟨n, hn⟩ : ∃ n, R.length = n := ⟨_, rfl⟩
   rw [hn] at HN hln
   have H0 := Lib.hid (And.intro h (And.intro hne hn))
   clear h hs hk htk hR hlt hne
   go_enter Tryz.func75, Tryz.ntmps75
   go_wp2_with fail
   refine (HK.out _ (by exact frA)).mono ?_
   rintro e w1 ⟨rfl, h1, f1⟩
   unfold tokV
   have hs1 := f1.size
   have H1 := Lib.hid (And.intro h1 f1)
   clear h1 f1
   go_wp2_with fail
   obtain ⟨B, hB⟩ : ∃ B, w1.heap.size = B := ⟨_, rfl⟩
   rw [hB]
   obtain ⟨W2, hW2⟩ : ∃ W, w1.alloc (.cells #[.string ⟨tx.toArray⟩] 9) = W := ⟨_, rfl⟩
   rw [hW2]
   have f2 : Fr Nil w1 W2 := by rw [← hW2]; exact frA
   have b2 : Blk W2 B #[.string ⟨tx.toArray⟩] 9 := by rw [← hW2, ← hB]; exact Blk.new _ _ _
   have s2 := f2.size
   have bl2 := b2.lt
   have H2 := Lib.hid (And.intro f2 b2)
   have hwB : w.heap.size ≤ B := by omega
   clear hW2 hB f2 b2
   refine (HN.out W2 (H1.out.1.fr H2.out.1)).mono ?_
   rintro e w3 ⟨v3, rfl, ho3, h3, f3⟩
   obtain ⟨va, vc, rfl, hsr⟩ := owns_src ho3
   have hnB : ¬ B = pb := by omega
   have b3 := f3.blk H2.out.2 hnB
   have s3 := f3.size
   have F3 : Fr (fun b => b = pb) w w3 := (H1.out.2.via H2.out.1).comp f3
   have H3 := Lib.hid (And.intro h3 (And.intro hsr (And.intro b3 F3)))
   clear h3 f3 hsr b3 F3 ho3
   go_wp2_with (first
    | (at_builtin; refine wpList_append_src rfl (.tmp 6) (.tmp 8) 45 rfl w.heap.size 9 i0 (.string ⟨#[]⟩) 1 16 Tryz.underlying45 hi hz0 hz1 hz2 rfl (by decide) (.slice (some ⟨B, 0, none⟩) 1 1) 1 [.string ⟨tx.toArray⟩] rfl (owns_oneB H3.out.2.2.1 hwB) va n vc (strC R) rfl H3.out.2.1 (strC_oneB R) (by unfold maxLen; omega) (by omega) (by omega) ?_; intro v4 w4 hown4 g4 _; have HO := Lib.hid (And.intro hown4 g4); clear hown4 g4)
    | fail)
   have f4 : Fr (fun k => k = B) w3 w4 := Fr.grown (Fr.refl _ _) HO.out.2 (fun k q _ => by have e : some B = some k := q; injection e with e; exact e.symm)
   have F4 : Fr (fun b => b = pb) w w4 := H3.out.2.2.2.trans f4 (fun k hk q => by have q' : k = B := q; omega)
   have hQ4 : QAt w4 pb vT L S.at_ dp := ⟨f4.blk H3.out.1.blk (fun q => hnB q.symm), H0.out.1.toks.fr F4 (fun _ q => q), H3.out.1.le, H3.out.1.sz⟩
   have hown : w4.ownsRow w.heap.size 9 1 v4 (tx :: R).length (strC (tx :: R)) := by
    rw [List.length_cons, H0.out.2.2, Nat.add_comm]
    exact HO.out.1
   have HF := Lib.hid (And.intro hown (And.intro hQ4 F4))
   clear hown hQ4 F4 f4
   go_wp2
   go_ret
   exact .inl ⟨H0.out.2.1, v4, rfl, HF.out.1, HF.out.2.1, HF.out.2.2⟩
 · have e1 := names_none hs hk
   have e2 : (tokenF L 1 s).2 = faultF L 3 s := by unfold tokenF; rw [if_neg (fun q => hk q.2)]
   have hne := fault_ne (L := L) (e := 3) (by decide) s
   have HK := Lib.hid (fun w' (f : Fr Nil w w') => qkind_any hs (k := 1) (by decide) (h.fr f))
   rw [e2] at HK
   have HE := Lib.hid (And.intro e1 hne)
   clear h hs hk e1 e2 hne
   go_enter Tryz.func75, Tryz.ntmps75
   go_wp2_with fail
   refine (HK.out _ (by exact frA)).mono ?_
   rintro e w1 (⟨q, _⟩ | hbr)
   · exact absurd q HE.out.2
   · have hb2 := hbr.back (Fr.of_nil (by exact frA))
     obtain ⟨_, rfl, _⟩ := hbr
     refine ⟨rfl, ?_⟩
     rw [HE.out.1]
     exact .inr hb2
end
end Go.Proofs.YtlnmicddobgppaaGreatDoor
