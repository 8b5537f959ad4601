/-
  A map literal with texts as keys and anything as elements, made and ranged over. No conditions. May the next token begin an expression, as the program asks it (layer 8)? Given that tokens of such texts are of such kinds. The program's expr (layer 8): its deferred end. No conditions. The program's expr (layer 8), deeper than may be. Given that tokens of such texts are of such kinds. The program's expr (layer 8), one level, given what it does one level deeper. No conditions.
-/
import Derived.Maps.RangeWalk
import Derived.Maps.RangeRun
import Derived.Defers
import Derived.Recover
import Derived.Test.YtlnmicddobgppaaGreatDoorNnM
import Derived.Test.YtlnmicddobgppaaGreatDoorNnS
import Derived.Test.YtlnmicddobgppaaGreatDoorNnT
import Derived.Test.YtlnmicddobgppaaGreatDoorNnU
import Derived.Test.YtlnmicddobgppaaGreatDoorNnA
namespace Go.Proofs.YtlnmicddobgppaaGreatDoor
set_option maxRecDepth 100000
set_option linter.unusedSimpArgs false
set_option linter.unusedVariables false
open Go.RowKit
open Go.ChangeMaps (setBlock)
section
variable {S : Nat → Prop} {w w1 : World}
theorem setB_same {r : Nat} {o : Obj} (w : World) (h : w.heap[r]? = some o) (o' : Obj) : (setBlock w r o').heap[r]? = some o' := by
 have hr : r < w.heap.size := by
  rcases Nat.lt_or_ge r w.heap.size with q | q
  · exact q
  · simp [Array.getElem?_eq_none q] at h
 show (w.heap.setIfInBounds r o')[r]? = _
 simp [hr]
theorem Fr.setB (h : Fr S w w1) (r : Nat) (o : Obj) (hr : r < w.heap.size → S r) : Fr S w (setBlock w1 r o) :=
 ⟨h.os, h.tape, h.output, by show w.heap.size ≤ (w1.heap.setIfInBounds r o).size; simpa using h.size, fun k hk hn => by
  show (w1.heap.setIfInBounds r o)[k]? = _
  have hne : r ≠ k := fun q => hn (q ▸ hr (q ▸ hk))
  rw [Array.getElem?_setIfInBounds_ne hne]
  exact h.block k hk hn⟩
end
section
variable {P : Program} (w : World) (mty kt et : TypeId) (hm : P.underlying mty = some (.map kt et)) (hk : P.underlying kt = some .string)
include hm hk
theorem run_insV (es : Array MapEntry) (n : Nat) (s : List UInt8) (v : Value) (hf : Instr.findNow .string (.string ⟨s.toArray⟩) es.toList 0 = some none) :
 (Instr.mapUpdate mty (.map (some w.heap.size)) (.string ⟨s.toArray⟩) v).run P (w.alloc (.map es n)) = .ok () (w.alloc (.map (es.push { key := .string ⟨s.toArray⟩, val := v, born := n }) (n + 1))) := by
 have hb : (w.alloc (.map es n)).heap[w.heap.size]? = some (.map es n) := heap_alloc_new w _
 have hc : (Instr.checkKey false 10000 kt (.string ⟨s.toArray⟩)).run P (w.alloc (.map es n)) = .ok () _ := MapKept.run_checkKey (k := .string ⟨s.toArray⟩) hk (by simp [MapKept.IsKey]) false 9999
 simp [Instr.mapUpdate, run_underlying hm, MapKept.run_getObj_map hb, hc, MapKept.run_findKey hk hf, MapKept.run_setObj_map _ hb, Result.andThen]
 rw [put_new]
 rfl
end
section
variable {P : Program} {w : World} {ops : Array Oper} {rest : List Oper} {o : Oper} {a : Act} {Q : Exit → Act → World → Prop}
theorem wpList_next_at (hg : o.guard = none) (it : Operand) (hop : o.op = Op.next it false) (r bm since c0 : Nat) (seen : Array Nat) (es : Array MapEntry) (clock : Nat) (hit : a.eval it = .pointer (some ⟨r, 0, none⟩))
 (hr : w.heap[r]? = some (.mapIter (some bm) since seen c0)) (hb : w.heap[bm]? = some (.map es clock)) (hold : ∀ x ∈ es.toList, x.born < since) (hsc : since ≤ c0)
 (hDone : (leftOf es seen).size = 0 → wpList P ops Q rest (a.put o.dst (.tuple #[.bool false])) w)
 (hMore : ∀ e ∈ (leftOf es seen).toList, ∀ w1, (w1 = w ∨ w1 = w.drew) → wpList P ops Q rest (a.put o.dst (.tuple #[.bool true, e.key, e.val])) (setBlock w1 r (.mapIter (some bm) since (seen.push e.born) clock))) :
 wpList P ops Q (o :: rest) a w := by
 refine wpList_plain hg fun K' hK' => ?_
 unfold Oper.wp
 rcases run_next_at (P := P) w o.type r bm since c0 seen es clock hr hb hold hsc with ⟨h0, hrun⟩ | ⟨e, he, w1, hw1, hrun⟩
 · simp [execOp, hop, hit, hrun, Result.andThen]
   exact hK' _ _ (hDone h0)
 · simp [execOp, hop, hit, hrun, Result.andThen]
   exact hK' _ _ (hMore e he w1 hw1)
theorem wpList_range_at (hg : o.guard = none) (m : Operand) (t k e : TypeId) (hop : o.op = Op.range t m) (ht : P.underlying t = some (.map k e)) (bm : Nat) (es : Array MapEntry) (clock : Nat) (hm : a.eval m = .map (some bm)) (hb : w.heap[bm]? = some (.map es clock))
 (hK : wpList P ops Q rest (a.put o.dst (.pointer (some ⟨w.heap.size, 0, none⟩))) (w.alloc (.mapIter (some bm) clock #[] clock))) : wpList P ops Q (o :: rest) a w := by
 refine wpList_plain hg fun K' hK' => ?_
 unfold Oper.wp
 simp [execOp, hop, hm, run_range_map (P := P) w t k e bm es clock ht hb, Result.andThen]
 exact hK' _ _ hK
end
def BeginL (L : List TokV) : Prop := ∀ t ∈ L, (t.text = [108, 101, 116] ∨ t.text = [99, 97, 115, 101] ∨ t.text = [40] ∨ t.text = [92]) → t.kind = 1 ∨ t.kind = 2 ∨ t.kind = 3 ∨ t.kind = 5 ∨ t.kind = 6 ∨ t.kind = 7
theorem peek_begin {L : List TokV} (h : BeginL L) (a : Nat) (x : (peekT L a).text = [108, 101, 116] ∨ (peekT L a).text = [99, 97, 115, 101] ∨ (peekT L a).text = [40] ∨ (peekT L a).text = [92]) : (peekT L a).kind = 1 ∨ (peekT L a).kind = 2 ∨ (peekT L a).kind = 3 ∨ (peekT L a).kind = 5 ∨ (peekT L a).kind = 6 ∨ (peekT L a).kind = 7 := by
 revert x
 unfold peekT
 cases hL : L[a]? with
 | none => intro x; simp [none_] at x
 | some t => intro x; exact h t (List.mem_of_getElem? hL) x
section
variable {w : World} {pb : Nat} {vT : Value} {L : List TokV} {s : PS} {dp : Int}
set_option maxHeartbeats 2000000 in
theorem qbegins_any (hB : BeginL L) (h : QAt w pb vT L s.at_ dp) :
 Calls Tryz.prog 102 #[.pointer (some ⟨pb, 0, none⟩)] w fun e w' => e = .returned (.bool (startsF L s)) ∧ Fr Nil w w' := by
 have hp := fun w' (f : Fr Nil w w') => qpeek_any (h.fr f)
 have hbg := peek_begin hB s.at_
 have hs1 := peek_sees L [108, 101, 116] s
 have hs2 := peek_sees L [99, 97, 115, 101] s
 have hs3 := peek_sees L [40] s
 have hs4 := peek_sees L [92] s
 have hkp := peek_kind L s
 obtain ⟨⟨tk, tx, tf, tb, tl⟩, htk⟩ : ∃ t, peekT L s.at_ = t := ⟨_, rfl⟩
 rw [htk] at hp hs1 hs2 hs3 hs4 hbg hkp
 simp only at hs1 hs2 hs3 hs4 hbg hkp
 have HP := Lib.hid hp
 obtain ⟨r, hr⟩ : ∃ r, startsF L s = r := ⟨_, rfl⟩
 rw [hr]
 unfold startsF at hr
 rw [hkp, hs1, hs2, hs3, hs4] at hr
 have hbg2 : ∀ x : List UInt8, (x = [108, 101, 116] ∨ x = [99, 97, 115, 101] ∨ x = [40] ∨ x = [92]) → tx = x → (decide (tk = 5) || decide (tk = 6)) = true ∨ (tk = 1 ∨ tk = 2 ∨ tk = 3 ∨ tk = 7) := fun x q e => by
  subst e
  rcases hbg q with z | z | z | z | z | z <;> simp [z]
 clear hs1 hs2 hs3 hs4 hkp htk hbg hp h hB
 by_cases hx1 : tk = 1
 · subst hx1
   have e1 : r = true := by rw [← hr]; rfl
   clear hr hbg2
   go_enter Tryz.func102, Tryz.ntmps102
   go_wp2_with fail
   refine (HP.out _ (by exact frA)).mono ?_
   rintro e w1 ⟨rfl, f1⟩
   unfold tokV
   have F1 : Fr Nil w w1 := Fr.comp (S := Nil) (by exact frA) f1
   obtain ⟨Tk, hTk⟩ : ∃ Tk, w1.heap.size = Tk := ⟨_, rfl⟩
   obtain ⟨W2, hW2⟩ : ∃ W2, w1.alloc (.cells #[.int .i64 1, .string ⟨tx.toArray⟩, .bool tf, .int .u64 (tb : Int), .int .i64 (tl : Int)] 41) = W2 := ⟨_, rfl⟩
   have f2 : Fr Nil w1 W2 := by rw [← hW2]; exact frA
   have bK : Blk W2 Tk #[.int .i64 1, .string ⟨tx.toArray⟩, .bool tf, .int .u64 (tb : Int), .int .i64 (tl : Int)] 41 := by rw [← hW2, ← hTk]; exact Blk.new _ _ _
   have HW2 := Lib.hid (And.intro hTk hW2)
   clear hTk hW2
   go_upto_region 2 with fail
   try rw [HW2.out.1]
   try rw [HW2.out.2]
   have u0 := bK.cell 0
   have u1 := bK.cell 1
   have u2 := bK.cell 2
   have u3 := bK.cell 3
   have u4 := bK.cell 4
   simp at u0 u1 u2 u3 u4
   have uf := bK.free
   have ul := bK.lt
   have HF := Lib.hid (F1.comp f2)
   clear HW2 f1 f2 F1 bK
   go_wp2
   go_ret
   exact ⟨by rw [e1]; first | rfl | simp, by have F0 := HF.out; exact frA⟩
 by_cases hx2 : tk = 2
 · subst hx2
   have e1 : r = true := by rw [← hr]; rfl
   clear hr hbg2
   go_enter Tryz.func102, Tryz.ntmps102
   go_wp2_with fail
   refine (HP.out _ (by exact frA)).mono ?_
   rintro e w1 ⟨rfl, f1⟩
   unfold tokV
   have F1 : Fr Nil w w1 := Fr.comp (S := Nil) (by exact frA) f1
   obtain ⟨Tk, hTk⟩ : ∃ Tk, w1.heap.size = Tk := ⟨_, rfl⟩
   obtain ⟨W2, hW2⟩ : ∃ W2, w1.alloc (.cells #[.int .i64 2, .string ⟨tx.toArray⟩, .bool tf, .int .u64 (tb : Int), .int .i64 (tl : Int)] 41) = W2 := ⟨_, rfl⟩
   have f2 : Fr Nil w1 W2 := by rw [← hW2]; exact frA
   have bK : Blk W2 Tk #[.int .i64 2, .string ⟨tx.toArray⟩, .bool tf, .int .u64 (tb : Int), .int .i64 (tl : Int)] 41 := by rw [← hW2, ← hTk]; exact Blk.new _ _ _
   have HW2 := Lib.hid (And.intro hTk hW2)
   clear hTk hW2
   go_upto_region 2 with fail
   try rw [HW2.out.1]
   try rw [HW2.out.2]
   have u0 := bK.cell 0
   have u1 := bK.cell 1
   have u2 := bK.cell 2
   have u3 := bK.cell 3
   have u4 := bK.cell 4
   simp at u0 u1 u2 u3 u4
   have uf := bK.free
   have ul := bK.lt
   have HF := Lib.hid (F1.comp f2)
   clear HW2 f1 f2 F1 bK
   go_wp2
   go_ret
   exact ⟨by rw [e1]; first | rfl | simp, by have F0 := HF.out; exact frA⟩
 by_cases hx3 : tk = 3
 · subst hx3
   have e1 : r = true := by rw [← hr]; rfl
   clear hr hbg2
   go_enter Tryz.func102, Tryz.ntmps102
   go_wp2_with fail
   refine (HP.out _ (by exact frA)).mono ?_
   rintro e w1 ⟨rfl, f1⟩
   unfold tokV
   have F1 : Fr Nil w w1 := Fr.comp (S := Nil) (by exact frA) f1
   obtain ⟨Tk, hTk⟩ : ∃ Tk, w1.heap.size = Tk := ⟨_, rfl⟩
   obtain ⟨W2, hW2⟩ : ∃ W2, w1.alloc (.cells #[.int .i64 3, .string ⟨tx.toArray⟩, .bool tf, .int .u64 (tb : Int), .int .i64 (tl : Int)] 41) = W2 := ⟨_, rfl⟩
   have f2 : Fr Nil w1 W2 := by rw [← hW2]; exact frA
   have bK : Blk W2 Tk #[.int .i64 3, .string ⟨tx.toArray⟩, .bool tf, .int .u64 (tb : Int), .int .i64 (tl : Int)] 41 := by rw [← hW2, ← hTk]; exact Blk.new _ _ _
   have HW2 := Lib.hid (And.intro hTk hW2)
   clear hTk hW2
   go_upto_region 2 with fail
   try rw [HW2.out.1]
   try rw [HW2.out.2]
   have u0 := bK.cell 0
   have u1 := bK.cell 1
   have u2 := bK.cell 2
   have u3 := bK.cell 3
   have u4 := bK.cell 4
   simp at u0 u1 u2 u3 u4
   have uf := bK.free
   have ul := bK.lt
   have HF := Lib.hid (F1.comp f2)
   clear HW2 f1 f2 F1 bK
   go_wp2
   go_ret
   exact ⟨by rw [e1]; first | rfl | simp, by have F0 := HF.out; exact frA⟩
 by_cases hx7 : tk = 7
 · subst hx7
   have e1 : r = true := by rw [← hr]; rfl
   clear hr hbg2
   go_enter Tryz.func102, Tryz.ntmps102
   go_wp2_with fail
   refine (HP.out _ (by exact frA)).mono ?_
   rintro e w1 ⟨rfl, f1⟩
   unfold tokV
   have F1 : Fr Nil w w1 := Fr.comp (S := Nil) (by exact frA) f1
   obtain ⟨Tk, hTk⟩ : ∃ Tk, w1.heap.size = Tk := ⟨_, rfl⟩
   obtain ⟨W2, hW2⟩ : ∃ W2, w1.alloc (.cells #[.int .i64 7, .string ⟨tx.toArray⟩, .bool tf, .int .u64 (tb : Int), .int .i64 (tl : Int)] 41) = W2 := ⟨_, rfl⟩
   have f2 : Fr Nil w1 W2 := by rw [← hW2]; exact frA
   have bK : Blk W2 Tk #[.int .i64 7, .string ⟨tx.toArray⟩, .bool tf, .int .u64 (tb : Int), .int .i64 (tl : Int)] 41 := by rw [← hW2, ← hTk]; exact Blk.new _ _ _
   have HW2 := Lib.hid (And.intro hTk hW2)
   clear hTk hW2
   go_upto_region 2 with fail
   try rw [HW2.out.1]
   try rw [HW2.out.2]
   have u0 := bK.cell 0
   have u1 := bK.cell 1
   have u2 := bK.cell 2
   have u3 := bK.cell 3
   have u4 := bK.cell 4
   simp at u0 u1 u2 u3 u4
   have uf := bK.free
   have ul := bK.lt
   have HF := Lib.hid (F1.comp f2)
   clear HW2 f1 f2 F1 bK
   go_wp2
   go_ret
   exact ⟨by rw [e1]; first | rfl | simp, by have F0 := HF.out; exact frA⟩
 have d1 : (tk == 1) = false := by simpa using hx1
 have d2 : (tk == 2) = false := by simpa using hx2
 have d3 : (tk == 3) = false := by simpa using hx3
 have d7 : (tk == 7) = false := by simpa using hx7
 have hno : ¬ (tk = 1 ∨ tk = 2 ∨ tk = 3 ∨ tk = 7) := fun q => by rcases q with q | q | q | q; exact hx1 q; exact hx2 q; exact hx3 q; exact hx7 q
 rw [if_neg hno] at hr
 by_cases hw0 : tx = [108, 101, 116]
 · have hz := (hbg2 [108, 101, 116] (.inl rfl) hw0).resolve_right hno
   subst hw0
   have e1 : r = true := by rw [← hr, hz]; simp
   clear hr hbg2 hz hno
   go_enter Tryz.func102, Tryz.ntmps102
   go_wp2_with fail
   refine (HP.out _ (by exact frA)).mono ?_
   rintro e w1 ⟨rfl, f1⟩
   unfold tokV
   have F1 : Fr Nil w w1 := Fr.comp (S := Nil) (by exact frA) f1
   obtain ⟨Tk, hTk⟩ : ∃ Tk, w1.heap.size = Tk := ⟨_, rfl⟩
   obtain ⟨W2, hW2⟩ : ∃ W2, w1.alloc (.cells #[.int .i64 tk, .string ⟨([108, 101, 116] : List UInt8).toArray⟩, .bool tf, .int .u64 (tb : Int), .int .i64 (tl : Int)] 41) = W2 := ⟨_, rfl⟩
   have f2 : Fr Nil w1 W2 := by rw [← hW2]; exact frA
   have bK : Blk W2 Tk #[.int .i64 tk, .string ⟨([108, 101, 116] : List UInt8).toArray⟩, .bool tf, .int .u64 (tb : Int), .int .i64 (tl : Int)] 41 := by rw [← hW2, ← hTk]; exact Blk.new _ _ _
   have HW2 := Lib.hid (And.intro hTk hW2)
   clear hTk hW2
   go_upto_region 2 with fail
   try rw [HW2.out.1]
   try rw [HW2.out.2]
   have u0 := bK.cell 0
   have u1 := bK.cell 1
   have u2 := bK.cell 2
   have u3 := bK.cell 3
   have u4 := bK.cell 4
   simp at u0 u1 u2 u3 u4
   have uf := bK.free
   have ul := bK.lt
   have HF := Lib.hid (F1.comp f2)
   clear HW2 f1 f2 F1 bK
   go_wp2
   go_ret
   exact ⟨by rw [e1]; first | rfl | simp, by have F0 := HF.out; exact frA⟩
 have b0 : (tx == [108, 101, 116]) = false := by simpa using hw0
 by_cases hw1 : tx = [99, 97, 115, 101]
 · have hz := (hbg2 [99, 97, 115, 101] (.inr (.inl rfl)) hw1).resolve_right hno
   subst hw1
   have e1 : r = true := by rw [← hr, hz]; simp
   clear hr hbg2 hz hno
   go_enter Tryz.func102, Tryz.ntmps102
   go_wp2_with fail
   refine (HP.out _ (by exact frA)).mono ?_
   rintro e w1 ⟨rfl, f1⟩
   unfold tokV
   have F1 : Fr Nil w w1 := Fr.comp (S := Nil) (by exact frA) f1
   obtain ⟨Tk, hTk⟩ : ∃ Tk, w1.heap.size = Tk := ⟨_, rfl⟩
   obtain ⟨W2, hW2⟩ : ∃ W2, w1.alloc (.cells #[.int .i64 tk, .string ⟨([99, 97, 115, 101] : List UInt8).toArray⟩, .bool tf, .int .u64 (tb : Int), .int .i64 (tl : Int)] 41) = W2 := ⟨_, rfl⟩
   have f2 : Fr Nil w1 W2 := by rw [← hW2]; exact frA
   have bK : Blk W2 Tk #[.int .i64 tk, .string ⟨([99, 97, 115, 101] : List UInt8).toArray⟩, .bool tf, .int .u64 (tb : Int), .int .i64 (tl : Int)] 41 := by rw [← hW2, ← hTk]; exact Blk.new _ _ _
   have HW2 := Lib.hid (And.intro hTk hW2)
   clear hTk hW2
   go_upto_region 2 with fail
   try rw [HW2.out.1]
   try rw [HW2.out.2]
   have u0 := bK.cell 0
   have u1 := bK.cell 1
   have u2 := bK.cell 2
   have u3 := bK.cell 3
   have u4 := bK.cell 4
   simp at u0 u1 u2 u3 u4
   have uf := bK.free
   have ul := bK.lt
   have HF := Lib.hid (F1.comp f2)
   clear HW2 f1 f2 F1 bK
   go_wp2
   go_ret
   exact ⟨by rw [e1]; first | rfl | simp, by have F0 := HF.out; exact frA⟩
 have b1 : (tx == [99, 97, 115, 101]) = false := by simpa using hw1
 by_cases hw2 : tx = [40]
 · have hz := (hbg2 [40] (.inr (.inr (.inl rfl))) hw2).resolve_right hno
   subst hw2
   have e1 : r = true := by rw [← hr, hz]; simp
   clear hr hbg2 hz hno
   go_enter Tryz.func102, Tryz.ntmps102
   go_wp2_with fail
   refine (HP.out _ (by exact frA)).mono ?_
   rintro e w1 ⟨rfl, f1⟩
   unfold tokV
   have F1 : Fr Nil w w1 := Fr.comp (S := Nil) (by exact frA) f1
   obtain ⟨Tk, hTk⟩ : ∃ Tk, w1.heap.size = Tk := ⟨_, rfl⟩
   obtain ⟨W2, hW2⟩ : ∃ W2, w1.alloc (.cells #[.int .i64 tk, .string ⟨([40] : List UInt8).toArray⟩, .bool tf, .int .u64 (tb : Int), .int .i64 (tl : Int)] 41) = W2 := ⟨_, rfl⟩
   have f2 : Fr Nil w1 W2 := by rw [← hW2]; exact frA
   have bK : Blk W2 Tk #[.int .i64 tk, .string ⟨([40] : List UInt8).toArray⟩, .bool tf, .int .u64 (tb : Int), .int .i64 (tl : Int)] 41 := by rw [← hW2, ← hTk]; exact Blk.new _ _ _
   have HW2 := Lib.hid (And.intro hTk hW2)
   clear hTk hW2
   go_upto_region 2 with fail
   try rw [HW2.out.1]
   try rw [HW2.out.2]
   have u0 := bK.cell 0
   have u1 := bK.cell 1
   have u2 := bK.cell 2
   have u3 := bK.cell 3
   have u4 := bK.cell 4
   simp at u0 u1 u2 u3 u4
   have uf := bK.free
   have ul := bK.lt
   have HF := Lib.hid (F1.comp f2)
   clear HW2 f1 f2 F1 bK
   go_wp2
   go_ret
   exact ⟨by rw [e1]; first | rfl | simp, by have F0 := HF.out; exact frA⟩
 have b2 : (tx == [40]) = false := by simpa using hw2
 by_cases hw3 : tx = [92]
 · have hz := (hbg2 [92] (.inr (.inr (.inr rfl))) hw3).resolve_right hno
   subst hw3
   have e1 : r = true := by rw [← hr, hz]; simp
   clear hr hbg2 hz hno
   go_enter Tryz.func102, Tryz.ntmps102
   go_wp2_with fail
   refine (HP.out _ (by exact frA)).mono ?_
   rintro e w1 ⟨rfl, f1⟩
   unfold tokV
   have F1 : Fr Nil w w1 := Fr.comp (S := Nil) (by exact frA) f1
   obtain ⟨Tk, hTk⟩ : ∃ Tk, w1.heap.size = Tk := ⟨_, rfl⟩
   obtain ⟨W2, hW2⟩ : ∃ W2, w1.alloc (.cells #[.int .i64 tk, .string ⟨([92] : List UInt8).toArray⟩, .bool tf, .int .u64 (tb : Int), .int .i64 (tl : Int)] 41) = W2 := ⟨_, rfl⟩
   have f2 : Fr Nil w1 W2 := by rw [← hW2]; exact frA
   have bK : Blk W2 Tk #[.int .i64 tk, .string ⟨([92] : List UInt8).toArray⟩, .bool tf, .int .u64 (tb : Int), .int .i64 (tl : Int)] 41 := by rw [← hW2, ← hTk]; exact Blk.new _ _ _
   have HW2 := Lib.hid (And.intro hTk hW2)
   clear hTk hW2
   go_upto_region 2 with fail
   try rw [HW2.out.1]
   try rw [HW2.out.2]
   have u0 := bK.cell 0
   have u1 := bK.cell 1
   have u2 := bK.cell 2
   have u3 := bK.cell 3
   have u4 := bK.cell 4
   simp at u0 u1 u2 u3 u4
   have uf := bK.free
   have ul := bK.lt
   have HF := Lib.hid (F1.comp f2)
   clear HW2 f1 f2 F1 bK
   go_wp2
   go_ret
   exact ⟨by rw [e1]; first | rfl | simp, by have F0 := HF.out; exact frA⟩
 have b3 : (tx == [92]) = false := by simpa using hw3
 have e1 : r = false := by rw [← hr]; simp [hw0, hw1, hw2, hw3]
 clear hr hbg2 hno
 go_enter Tryz.func102, Tryz.ntmps102
 go_wp2_with fail
 refine (HP.out _ (by exact frA)).mono ?_
 rintro e w1 ⟨rfl, f1⟩
 unfold tokV
 have F1 : Fr Nil w w1 := Fr.comp (S := Nil) (by exact frA) f1
 obtain ⟨Tk, hTk⟩ : ∃ Tk, w1.heap.size = Tk := ⟨_, rfl⟩
 obtain ⟨W2, hW2⟩ : ∃ W2, w1.alloc (.cells #[.int .i64 tk, .string ⟨tx.toArray⟩, .bool tf, .int .u64 (tb : Int), .int .i64 (tl : Int)] 41) = W2 := ⟨_, rfl⟩
 have f2 : Fr Nil w1 W2 := by rw [← hW2]; exact frA
 have bK : Blk W2 Tk #[.int .i64 tk, .string ⟨tx.toArray⟩, .bool tf, .int .u64 (tb : Int), .int .i64 (tl : Int)] 41 := by rw [← hW2, ← hTk]; exact Blk.new _ _ _
 have HW2 := Lib.hid (And.intro hTk hW2)
 clear hTk hW2
 go_upto_region 2 with fail
 try rw [HW2.out.1]
 try rw [HW2.out.2]
 have u0 := bK.cell 0
 have u1 := bK.cell 1
 have u2 := bK.cell 2
 have u3 := bK.cell 3
 have u4 := bK.cell 4
 simp at u0 u1 u2 u3 u4
 have uf := bK.free
 have ul := bK.lt
 have HF := Lib.hid (F1.comp f2)
 clear HW2 f1 f2 F1 bK
 go_wp2
 go_ret
 exact ⟨by rw [e1]; first | rfl | simp, by have F0 := HF.out; exact frA⟩
end
section
variable {w : World} {pb : Nat} {vT : Value} {L : List TokV} {s : PS} {dp : Int} {d : Nat}
theorem qdeep_any {u : FrameMode} {c : Nat} {a e : Int} {t : TypeId} (hc : Blk w c #[.pointer (some ⟨pb, 0, none⟩)] t) (hb : Blk w pb #[vT, .int .i64 a, .int .i64 e] 62) (he : IntKind.i64.wrap (e - 1) = e - 1) (hn : c ≠ pb) :
 CallsD Tryz.prog 103 #[.pointer (some ⟨c, 0, none⟩)] u w fun r u' w' => u' = u ∧ (r = .returned (.tuple #[]) ∧ Blk w' pb #[vT, .int .i64 a, .int .i64 (e - 1)] 62 ∧ Fr (fun b => b = pb) w w') := by
 have c0 := hc.cell 0
 simp at c0
 have cl := hc.lt
 have p2 := hb.cell 2
 simp at p2
 have pl := hb.lt
 have pf := hb.free
 have HB := Lib.hid hb
 clear hc hb
 go_enter_d Tryz.func103, Tryz.ntmps103
 go_wp2
 go_end0
 refine ⟨rfl, HB.out.put rfl, Fr.set (S := fun b => b = pb) (Fr.refl _ _) _ _ (fun _ => rfl)⟩
end
theorem fault_twice {L : List TokV} {e f : Nat} {s : PS} (he : e ≠ 0) : faultF L f (faultF L e s) = faultF L e s := by
 have h := fault_ne (L := L) he s
 generalize faultF L e s = t at h ⊢
 unfold faultF
 rw [if_pos h]
section
variable {pb : Nat} {vT : Value} {L : List TokV}
set_option maxHeartbeats 2000000 in
theorem qexpr_zero (hB : BeginL L) : QReads pb vT L 0 200 := by
 intro w s hs h
 have hmf : ∀ (fn : Fn) (first cap : Array Value) (w : World), (Instr.makeFunc fn first cap).run Tryz.prog w = .ok (.func fn first cap) w := fun _ _ _ _ => rfl
 obtain ⟨p0, p1, p2, pf, pl⟩ := h.facts
 have i3 : IntKind.i64.wrap ((200 : Int) + 1) = 201 := by rw [IntKind.wrap_i64]; omega
 have i4 : (200 : Int) < 201 := by decide
 obtain ⟨R, hR⟩ : ∃ R, exprF L 0 s = R := ⟨_, rfl⟩
 rw [hR]
 unfold exprF at hR
 rw [if_neg (by simpa using hs)] at hR
 have HBG := Lib.hid (fun w' (h' : QAt w' pb vT L s.at_ 201) => qbegins_any (s := s) hB h')
 have HFL := Lib.hid (fun w' (e : Nat) (he : e ≠ 0) (h' : QAt w' pb vT L s.at_ 201) => qfail_at (e := e) he hs h')
 obtain ⟨Bx, hBx⟩ : ∃ Bx, w.heap.size = Bx := ⟨_, rfl⟩
 obtain ⟨T, hT⟩ : ∃ T, Bx + 1 = T := ⟨_, rfl⟩
 obtain ⟨V, hV⟩ : ∃ V, ((w.setCell ⟨pb, 2, none⟩ (.int .i64 201)).alloc (.cells #[.pointer (some ⟨pb, 0, none⟩)] 60)).alloc (.cells #[.int .i64 0, .string ⟨#[]⟩, .bool false, .int .u64 0, .slice none 0 0, .slice none 0 0, .slice none 0 0, .slice none 0 0] 49) = V := ⟨_, rfl⟩
 have FV : Fr (fun b => b = pb) w V := by rw [← hV]; exact frG
 have hsz0 : (w.setCell ⟨pb, 2, none⟩ (.int .i64 201)).heap.size = Bx := by simp [World.setCell, hBx]
 have bX : Blk V Bx #[.pointer (some ⟨pb, 0, none⟩)] 60 := by
  rw [← hV]
  have h := Blk.new (w.setCell ⟨pb, 2, none⟩ (.int .i64 201)) #[.pointer (some ⟨pb, 0, none⟩)] 60
  rw [hsz0] at h
  exact ((Fr.refl Nil _).alloc _).blk h (fun q => q)
 have bT : Blk V T #[.int .i64 0, .string ⟨#[]⟩, .bool false, .int .u64 0, .slice none 0 0, .slice none 0 0, .slice none 0 0, .slice none 0 0] 49 := by
  rw [← hV]
  have h := Blk.new ((w.setCell ⟨pb, 2, none⟩ (.int .i64 201)).alloc (.cells #[.pointer (some ⟨pb, 0, none⟩)] 60)) #[.int .i64 0, .string ⟨#[]⟩, .bool false, .int .u64 0, .slice none 0 0, .slice none 0 0, .slice none 0 0, .slice none 0 0] 49
  rw [show ((w.setCell ⟨pb, 2, none⟩ (.int .i64 201)).alloc (.cells #[.pointer (some ⟨pb, 0, none⟩)] 60)).heap.size = T by simp [hsz0, hT]] at h
  exact h
 have bP : Blk V pb #[vT, .int .i64 (s.at_ : Int), .int .i64 201] 62 := by
  rw [← hV]
  (unfold Blk; simp (disch := first | omega | (simp; done) | (simp; omega)) only [hp_drew, hp_drewN, hp_alloc, hp_other, hp_same, hp_new, upd_cells, Option.map_some, (h.blk).eq])
  simp
 have hQ : QAt V pb vT L s.at_ 201 := h.to FV bP h.le
 have hpB : pb < Bx := by rw [← hBx]; exact pl
 have HV := Lib.hid (And.intro FV (And.intro hQ bX))
 have HVe := Lib.hid (And.intro hBx (And.intro hT hV))
 have HRO := Lib.hid (And.intro hR hs)
 have H0 := Lib.hid h
 have c0 := bX.cell 0
 simp at c0
 have cl := bX.lt
 clear hR hs h hBx hT hV FV hQ bT bP bX hsz0
 cases hst : startsF L s with
 | true =>
  have eR : R.2 = faultF L 12 s := by
   have h := HRO.out.1
   rw [hst, if_pos rfl, fault_twice (by decide)] at h
   rw [← h]
  rw [hst] at HBG
  have HRE := Lib.hid eR
  clear eR hst
  go_enter_defers Tryz.func76, Tryz.ntmps76
  go_upto_region 2 with fail
  try rw [HVe.out.1]
  try rw [HVe.out.2.1]
  try rw [HVe.out.2.2]
  clear p0 p1 p2 pf pl
  have p2 := HV.out.2.1.blk.cell 2
  simp at p2
  go_wp2_with fail
  refine (HBG.out _ HV.out.2.1).mono ?_
  rintro e w2 ⟨rfl, f2⟩
  have c2 := f2.cell c0 (fun q => q)
  have H2 := Lib.hid f2
  clear f2
  go_wp2_with fail
  refine (HFL.out _ 12 (by decide) (HV.out.2.1.fr H2.out)).mono ?_
  rintro r w3 hbr
  have hb2 := hbr.back (HV.out.1.via H2.out)
  obtain ⟨_, rfl, _⟩ := hbr
  refine .inr ?_
  rw [HRE.out]
  exact hb2
 | false =>
  have eR : R.2 = faultF L 3 s := by
   have h := HRO.out.1
   rw [hst, if_neg (by decide)] at h
   rw [← h]
  rw [hst] at HBG
  have HRE := Lib.hid eR
  clear eR hst
  go_enter_defers Tryz.func76, Tryz.ntmps76
  go_upto_region 2 with fail
  try rw [HVe.out.1]
  try rw [HVe.out.2.1]
  try rw [HVe.out.2.2]
  clear p0 p1 p2 pf pl
  have p2 := HV.out.2.1.blk.cell 2
  simp at p2
  go_wp2_with fail
  refine (HBG.out _ HV.out.2.1).mono ?_
  rintro e w2 ⟨rfl, f2⟩
  have c2 := f2.cell c0 (fun q => q)
  have H2 := Lib.hid f2
  clear f2
  go_wp2_with fail
  refine (HFL.out _ 3 (by decide) (HV.out.2.1.fr H2.out)).mono ?_
  rintro r w3 hbr
  have hb2 := hbr.back (HV.out.1.via H2.out)
  obtain ⟨_, rfl, _⟩ := hbr
  refine .inr ?_
  rw [HRE.out]
  exact hb2
end
open Go.ChangeMaps (setBlock)
section
variable {pb : Nat} {vT : Value} {L : List TokV} {dp : Int} {d : Nat}
theorem qdeep_bad {w : World} {u : FrameMode} {c : Nat} {a e : Int} {t : TypeId} (hc : Blk w c #[.pointer (some ⟨pb, 0, none⟩)] t) (hb : Blk w pb #[vT, .int .i64 a, .int .i64 e] 62) (hn : c ≠ pb) :
 CallsD Tryz.prog 103 #[.pointer (some ⟨c, 0, none⟩)] u w fun r u' w' => u' = u ∧ (r = .returned (.tuple #[]) ∧ (∃ a d : Int, Blk w' pb #[vT, .int .i64 a, .int .i64 d] 62) ∧ Fr (fun b => b = pb) w w') := by
 have c0 := hc.cell 0
 simp at c0
 have cl := hc.lt
 have p2 := hb.cell 2
 simp at p2
 have pl := hb.lt
 have pf := hb.free
 have HB := Lib.hid hb
 clear hc hb
 go_enter_d Tryz.func103, Tryz.ntmps103
 go_wp2
 go_end0
 refine ⟨rfl, ⟨a, _, HB.out.put rfl⟩, Fr.set (S := fun b => b = pb) (Fr.refl _ _) _ _ (fun _ => rfl)⟩
theorem sees_other {L : List TokV} {s : PS} {x y : List UInt8} (h : seesF L x s = true) (hne : y ≠ x) : seesF L y s = false := by
 unfold seesF at h ⊢
 cases hL : L[s.at_]? with
 | none => rfl
 | some t =>
  rw [hL] at h
  simp only [Bool.and_eq_true, decide_eq_true_eq] at h
  have : ¬ t.text = y := fun q => hne (by rw [← q, h.2])
  simp [this]
def mapE (pb : Nat) : Array MapEntry := #[{ key := .string ⟨#[108, 101, 116]⟩, val := .func (.func 104) #[.pointer (some ⟨pb, 0, none⟩)] #[], born := 0 }, { key := .string ⟨#[99, 97, 115, 101]⟩, val := .func (.func 105) #[.pointer (some ⟨pb, 0, none⟩)] #[], born := 1 }, { key := .string ⟨#[92]⟩, val := .func (.func 106) #[.pointer (some ⟨pb, 0, none⟩)] #[], born := 2 }]
theorem mapE_mem {pb : Nat} {e : MapEntry} (h : e ∈ (mapE pb).toList) : e = { key := .string ⟨#[108, 101, 116]⟩, val := .func (.func 104) #[.pointer (some ⟨pb, 0, none⟩)] #[], born := 0 } ∨ e = { key := .string ⟨#[99, 97, 115, 101]⟩, val := .func (.func 105) #[.pointer (some ⟨pb, 0, none⟩)] #[], born := 1 } ∨ e = { key := .string ⟨#[92]⟩, val := .func (.func 106) #[.pointer (some ⟨pb, 0, none⟩)] #[], born := 2 } := by
 simpa [mapE] using h
theorem mapE_old {pb : Nat} : ∀ x ∈ (mapE pb).toList, x.born < 3 := fun x hx => by
 rcases mapE_mem hx with rfl | rfl | rfl
 · exact (by decide : 0 < 3)
 · exact (by decide : 1 < 3)
 · exact (by decide : 2 < 3)
theorem mapE_nodup {pb : Nat} : ((mapE pb).toList.map (·.born)).Nodup := by
 show [0, 1, 2].Nodup
 decide
set_option maxHeartbeats 8000000 in
theorem qexpr_step (h0 : 0 ≤ dp) (h1 : dp ≤ 199) (hex : QReads pb vT L d (dp + 1)) : QReads pb vT L (d + 1) dp := by
 intro w s hs h
 have hmf : ∀ (fn : Fn) (first cap : Array Value) (w : World), (Instr.makeFunc fn first cap).run Tryz.prog w = .ok (.func fn first cap) w := fun _ _ _ _ => rfl
 obtain ⟨p0, p1, p2, pf, pl⟩ := h.facts
 have i3 : IntKind.i64.wrap (dp + 1) = dp + 1 := by rw [IntKind.wrap_i64]; omega
 have i4 : ¬ (200 : Int) < dp + 1 := by omega
 have i5 : IntKind.i64.wrap (dp + 1 - 1) = dp + 1 - 1 := by rw [IntKind.wrap_i64]; omega
 have i6 : dp + 1 - 1 = dp := by omega
 have I56 := Lib.hid (And.intro i5 i6)
 clear i5 i6
 obtain ⟨R, hR⟩ : ∃ R, exprF L (d + 1) s = R := ⟨_, rfl⟩
 rw [hR]
 have eR : R = if seesF L [108, 101, 116] s = true then letF L (exprF L d) s else if seesF L [99, 97, 115, 101] s = true then choiceF L (exprF L d) s else if seesF L [92] s = true then lamF L (exprF L d) s else opF L (exprF L d) s := by
  rw [← hR]
  conv => lhs; unfold exprF exprStep
  rw [if_neg (by simpa using hs)]
 obtain ⟨Bx, hBx⟩ : ∃ Bx, w.heap.size = Bx := ⟨_, rfl⟩
 obtain ⟨T, hT⟩ : ∃ T, Bx + 1 = T := ⟨_, rfl⟩
 obtain ⟨V, hV⟩ : ∃ V, ((w.setCell ⟨pb, 2, none⟩ (.int .i64 (dp + 1))).alloc (.cells #[.pointer (some ⟨pb, 0, none⟩)] 60)).alloc (.cells #[.int .i64 0, .string ⟨#[]⟩, .bool false, .int .u64 0, .slice none 0 0, .slice none 0 0, .slice none 0 0, .slice none 0 0] 49) = V := ⟨_, rfl⟩
 have FV : Fr (fun b => b = pb) w V := by rw [← hV]; exact frG
 have hsz0 : (w.setCell ⟨pb, 2, none⟩ (.int .i64 (dp + 1))).heap.size = Bx := by simp [World.setCell, hBx]
 have bX : Blk V Bx #[.pointer (some ⟨pb, 0, none⟩)] 60 := by
  rw [← hV]
  have h := Blk.new (w.setCell ⟨pb, 2, none⟩ (.int .i64 (dp + 1))) #[.pointer (some ⟨pb, 0, none⟩)] 60
  rw [hsz0] at h
  exact ((Fr.refl Nil _).alloc _).blk h (fun q => q)
 have bT : Blk V T #[.int .i64 0, .string ⟨#[]⟩, .bool false, .int .u64 0, .slice none 0 0, .slice none 0 0, .slice none 0 0, .slice none 0 0] 49 := by
  rw [← hV]
  have h := Blk.new ((w.setCell ⟨pb, 2, none⟩ (.int .i64 (dp + 1))).alloc (.cells #[.pointer (some ⟨pb, 0, none⟩)] 60)) #[.int .i64 0, .string ⟨#[]⟩, .bool false, .int .u64 0, .slice none 0 0, .slice none 0 0, .slice none 0 0, .slice none 0 0] 49
  rw [show ((w.setCell ⟨pb, 2, none⟩ (.int .i64 (dp + 1))).alloc (.cells #[.pointer (some ⟨pb, 0, none⟩)] 60)).heap.size = T by simp [hsz0, hT]] at h
  exact h
 have bP : Blk V pb #[vT, .int .i64 (s.at_ : Int), .int .i64 (dp + 1)] 62 := by
  rw [← hV]
  (unfold Blk; simp (disch := first | omega | (simp; done) | (simp; omega)) only [hp_drew, hp_drewN, hp_alloc, hp_other, hp_same, hp_new, upd_cells, Option.map_some, (h.blk).eq])
  simp
 have hQ : QAt V pb vT L s.at_ (dp + 1) := h.to FV bP h.le
 have hpB : pb < Bx := by rw [← hBx]; exact pl
 have HV := Lib.hid (And.intro FV (And.intro hQ (And.intro bX bT)))
 have HVe := Lib.hid (And.intro hBx (And.intro hT hV))
 have HRO := Lib.hid (And.intro eR (And.intro hs hex))
 have H0 := Lib.hid h
 have hBT : w.heap.size + 1 = T := by omega
 have hBxT : Bx < T := by omega
 have hwT : w.heap.size ≤ T := by omega
 have HBT := Lib.hid hBT
 have c0 := bX.cell 0
 simp at c0
 have cl := bX.lt
 have tl := bT.lt
 clear hR eR hs h hBx hT hV FV hQ bT bP bX hsz0 hex hBT h0 h1
 go_enter_defers Tryz.func76, Tryz.ntmps76
 go_upto_region 2 with fail
 try rw [HVe.out.1]
 try rw [HVe.out.2.1]
 try rw [HVe.out.2.2]
 clear p0 p1 p2 pf pl
 have hQV := HV.out.2.1.blk
 have p2 := hQV.cell 2
 simp at p2
 have pl := hQV.lt
 clear hQV
 go_upto_region 7 with fail
 have m0 : ∀ w : World, (Instr.makeMap 136 none).run Tryz.prog w = .ok (.map (some w.heap.size)) (w.alloc (.map #[] 0)) := fun w => run_makeMap_plain w _
 have m1 : (Instr.mapUpdate 136 (.map (some V.heap.size)) (.string ⟨#[108, 101, 116]⟩) (.func (.func 104) #[.pointer (some ⟨pb, 0, none⟩)] #[])).run Tryz.prog (V.alloc (.map #[] 0)) = .ok () (V.alloc (.map #[{ key := .string ⟨#[108, 101, 116]⟩, val := .func (.func 104) #[.pointer (some ⟨pb, 0, none⟩)] #[], born := 0 }] 1)) := run_insV V _ _ _ Tryz.underlying136 Tryz.underlying9 #[] 0 [108, 101, 116] _ rfl
 have m2 : (Instr.mapUpdate 136 (.map (some V.heap.size)) (.string ⟨#[99, 97, 115, 101]⟩) (.func (.func 105) #[.pointer (some ⟨pb, 0, none⟩)] #[])).run Tryz.prog (V.alloc (.map #[{ key := .string ⟨#[108, 101, 116]⟩, val := .func (.func 104) #[.pointer (some ⟨pb, 0, none⟩)] #[], born := 0 }] 1)) = .ok () (V.alloc (.map #[{ key := .string ⟨#[108, 101, 116]⟩, val := .func (.func 104) #[.pointer (some ⟨pb, 0, none⟩)] #[], born := 0 }, { key := .string ⟨#[99, 97, 115, 101]⟩, val := .func (.func 105) #[.pointer (some ⟨pb, 0, none⟩)] #[], born := 1 }] 2)) := run_insV V _ _ _ Tryz.underlying136 Tryz.underlying9 #[{ key := .string ⟨#[108, 101, 116]⟩, val := .func (.func 104) #[.pointer (some ⟨pb, 0, none⟩)] #[], born := 0 }] 1 [99, 97, 115, 101] _ rfl
 have m3 : (Instr.mapUpdate 136 (.map (some V.heap.size)) (.string ⟨#[92]⟩) (.func (.func 106) #[.pointer (some ⟨pb, 0, none⟩)] #[])).run Tryz.prog (V.alloc (.map #[{ key := .string ⟨#[108, 101, 116]⟩, val := .func (.func 104) #[.pointer (some ⟨pb, 0, none⟩)] #[], born := 0 }, { key := .string ⟨#[99, 97, 115, 101]⟩, val := .func (.func 105) #[.pointer (some ⟨pb, 0, none⟩)] #[], born := 1 }] 2)) = .ok () (V.alloc (.map (mapE pb) 3)) := run_insV V _ _ _ Tryz.underlying136 Tryz.underlying9 #[{ key := .string ⟨#[108, 101, 116]⟩, val := .func (.func 104) #[.pointer (some ⟨pb, 0, none⟩)] #[], born := 0 }, { key := .string ⟨#[99, 97, 115, 101]⟩, val := .func (.func 105) #[.pointer (some ⟨pb, 0, none⟩)] #[], born := 1 }] 2 [92] _ rfl
 go_wp2_with (first
  | (at_range; refine wpList_range_at rfl (.tmp 31) 136 _ _ rfl Tryz.underlying136 V.heap.size (mapE pb) 3 (by rfl) (heap_alloc_new V _) ?_)
  | fail)
 try go_frame
 obtain ⟨Mb, hMb⟩ : ∃ Mb, V.heap.size = Mb := ⟨_, rfl⟩
 obtain ⟨Ri, hRi⟩ : ∃ Ri, Mb + 1 = Ri := ⟨_, rfl⟩
 obtain ⟨W0, hW0⟩ : ∃ W0, (V.alloc (.map (mapE pb) 3)).alloc (.mapIter (some Mb) 3 #[] 3) = W0 := ⟨_, rfl⟩
 have q0 : W0.heap[Ri]? = some (.mapIter (some Mb) 3 #[] 3) := by
  rw [← hW0, ← hRi, ← hMb]
  have h := heap_alloc_new (V.alloc (.map (mapE pb) 3)) (.mapIter (some V.heap.size) 3 #[] 3)
  rw [show (V.alloc (.map (mapE pb) 3)).heap.size = V.heap.size + 1 by simp] at h
  exact h
 have q1 : W0.heap[Mb]? = some (.map (mapE pb) 3) := by
  rw [← hW0, ← hMb, hp_alloc _ _ _ (by simp)]
  exact heap_alloc_new V _
 have G0 : Fr Nil V W0 := by rw [← hW0]; exact frA
 try rw [hMb]
 try rw [hRi]
 try rw [hW0]
 have hTM : T < Mb := by omega
 have HG0 := Lib.hid (And.intro q0 (And.intro q1 G0))
 have hN0 : (leftOf (mapE pb) #[]).size = 3 := by simp [leftOf, mapE]
 clear m0 m1 m2 m3 hmf hMb hW0 q0 q1 G0 p2 pl c0 cl tl HVe i3 i4
 have hI := fun w' (x : List UInt8) (h' : QAt w' pb vT L s.at_ (dp + 1)) => qis_any x HRO.out.2.1 h'
 have HI := Lib.hid hI
 clear hI
 go_loopg [] 3 (fun g wr => ∃ seen : Array Nat, (leftOf (mapE pb) seen).size = g ∧ Hid (wr.heap[Ri]? = some (.mapIter (some Mb) 3 seen 3) ∧ wr.heap[Mb]? = some (.map (mapE pb) 3) ∧ QAt wr pb vT L s.at_ (dp + 1) ∧ Blk wr Bx #[.pointer (some ⟨pb, 0, none⟩)] 60 ∧ Blk wr T #[.int .i64 0, .string ⟨#[]⟩, .bool false, .int .u64 0, .slice none 0 0, .slice none 0 0, .slice none 0 0, .slice none 0 0] 49 ∧ Fr (fun b => b = pb ∨ b = Ri) V wr ∧ (seen.contains 0 = true → seesF L [108, 101, 116] s = false) ∧ (seen.contains 1 = true → seesF L [99, 97, 115, 101] s = false) ∧ (seen.contains 2 = true → seesF L [92] s = false)))
 case atStart => exact ⟨#[], hN0, Lib.hid ⟨HG0.out.1, HG0.out.2.1, HV.out.2.1.fr HG0.out.2.2, HG0.out.2.2.blk HV.out.2.2.1 (fun q => q), HG0.out.2.2.blk HV.out.2.2.2 (fun q => q), Fr.of_nil HG0.out.2.2, fun q => by simp at q, fun q => by simp at q, fun q => by simp at q⟩⟩
 case round =>
  obtain ⟨seen, hg, HS⟩ := hrel
  obtain ⟨Vr, hVr⟩ : ∃ V, V = wr := ⟨_, rfl⟩
  subst hVr
  have hpR : pb < Ri := by omega
  have hMR : Mb ≠ Ri := by omega
  have cB := HS.out.2.2.2.1.cell 0
  simp at cB
  go_wp2_with (first
   | (at_next; refine wpList_next_at rfl (.tmp 32) rfl Ri Mb 3 3 seen (mapE pb) 3 (by rfl) HS.out.1 HS.out.2.1 mapE_old (Nat.le_refl _) ?_ ?_; intro hdone; rotate_left; intro e he w1 hw1; have hm := mem_left he; have hr1 : w1.heap[Ri]? = some (.mapIter (some Mb) 3 seen 3) := (by rcases hw1 with rfl | rfl <;> exact HS.out.1); have f1 : Fr Nil Vr w1 := (by rcases hw1 with rfl | rfl; exact Fr.refl _ _; exact (Fr.refl _ _).drew); obtain ⟨W2, hW2⟩ : ∃ W2, setBlock w1 Ri (.mapIter (some Mb) 3 (seen.push e.born) 3) = W2 := ⟨_, rfl⟩; rw [hW2]; have hr2 : W2.heap[Ri]? = some (.mapIter (some Mb) 3 (seen.push e.born) 3) := (by rw [← hW2]; exact setB_same w1 hr1 _); have f2 : Fr (fun b => b = Ri) Vr W2 := (by rw [← hW2]; exact Fr.setB (Fr.of_nil f1) _ _ (fun _ => rfl)); have hMl : Mb < Vr.heap.size := (by rcases Nat.lt_or_ge Mb Vr.heap.size with q | q; exact q; have := HS.out.2.1; simp [Array.getElem?_eq_none q] at this); have hb2 : W2.heap[Mb]? = some (.map (mapE pb) 3) := (by rw [f2.block Mb hMl hMR]; exact HS.out.2.1); have hen := run_entry_at (P := Tryz.prog) W2 Ri Mb 3 seen (mapE pb) 3 e hr2 hb2 hm.1 mapE_nodup; have cB2 := f2.cell cB (fun q => by have q' : Bx = Ri := q; omega); have HE := Lib.hid (And.intro hm (And.intro hr2 (And.intro hb2 (And.intro f2 (left_shrinks (mapE pb) seen e he))))); clear hW2 hm hr1 hr2 hb2 f1 f2 he hw1; rotate_left)
   | fail)
  · have hall := all_seen (mapE pb) seen hdone
    have n0 : seesF L [108, 101, 116] s = false := HS.out.2.2.2.2.2.2.1 (hall { key := .string ⟨#[108, 101, 116]⟩, val := .func (.func 104) #[.pointer (some ⟨pb, 0, none⟩)] #[], born := 0 } (by simp [mapE]))
    have n1 : seesF L [99, 97, 115, 101] s = false := HS.out.2.2.2.2.2.2.2.1 (hall { key := .string ⟨#[99, 97, 115, 101]⟩, val := .func (.func 105) #[.pointer (some ⟨pb, 0, none⟩)] #[], born := 1 } (by simp [mapE]))
    have n2 : seesF L [92] s = false := HS.out.2.2.2.2.2.2.2.2 (hall { key := .string ⟨#[92]⟩, val := .func (.func 106) #[.pointer (some ⟨pb, 0, none⟩)] #[], born := 2 } (by simp [mapE]))
    have eR := HRO.out.1
    rw [n0, n1, n2, if_neg (by decide), if_neg (by decide), if_neg (by decide)] at eR
    have hsum : Calls Tryz.prog 107 #[.pointer (some ⟨pb, 0, none⟩)] Vr (QEnds pb vT L (dp + 1) Vr (fun w' v => EVal (fun b => b < Vr.heap.size) w' v R.1) R.2) := by
     rw [eR]
     exact qsum_any HRO.out.2.2 HRO.out.2.1 HS.out.2.2.1
    have HC := Lib.hid (And.intro (HV.out.1.trans HS.out.2.2.2.2.2.1 (fun b hb q => by have := HBT.out; rcases q with q | q; exact q; omega)) (And.intro HS.out.2.2.2.1 HS.out.2.2.2.2.1))
    clear hall hdone n0 n1 n2 eR HS
    refine hsum.mono ?_
    rintro e w5 (⟨hs50, v5, rfl, ⟨cs, rfl, hE5⟩, h5, f5⟩ | hbr)
    · obtain ⟨k, nm, fl, bi, a0, n0, c0, a1, n1, c1, a2, n2, c2, a3, n3, c3, rfl⟩ := hE5.form
      unfold eC
      have F5 : Fr (fun b => b = pb) Vr w5 := Fr.comp (S := fun b => b = pb) (by exact frG) f5
      have bT5 := F5.blk HC.out.2.2 (fun q => by have q' : T = pb := q; omega)
      have bX5 := F5.blk HC.out.2.1 (fun q => by have q' : Bx = pb := q; omega)
      have hlc := HC.out.2.2.lt
      have z0 := bT5.cell 0
      have z1 := bT5.cell 1
      have z2 := bT5.cell 2
      have z3 := bT5.cell 3
      have z4 := bT5.cell 4
      have z5 := bT5.cell 5
      have z6 := bT5.cell 6
      have z7 := bT5.cell 7
      simp at z0 z1 z2 z3 z4 z5 z6 z7
      have zf := bT5.free
      have zl := bT5.lt
      obtain ⟨W9, hW9⟩ : ∃ W9, ((((((((w5).setCell ⟨T, 0, none⟩ (.int .i64 (k : Int))).setCell ⟨T, 1, none⟩ (.string nm)).setCell ⟨T, 2, none⟩ (.bool fl)).setCell ⟨T, 3, none⟩ (.int .u64 (bi : Int))).setCell ⟨T, 4, none⟩ (.slice a0 n0 c0)).setCell ⟨T, 5, none⟩ (.slice a1 n1 c1)).setCell ⟨T, 6, none⟩ (.slice a2 n2 c2)).setCell ⟨T, 7, none⟩ (.slice a3 n3 c3) = W9 := ⟨_, rfl⟩
      have g9 : Fr (fun b => b = T) w5 W9 := by rw [← hW9]; exact frG
      have bT9 : Blk W9 T #[.int .i64 (k : Int), .string nm, .bool fl, .int .u64 (bi : Int), .slice a0 n0 c0, .slice a1 n1 c1, .slice a2 n2 c2, .slice a3 n3 c3] 49 := by
       rw [← hW9]
       (unfold Blk; simp (disch := first | omega | (simp; done) | (simp; omega)) only [hp_drew, hp_drewN, hp_alloc, hp_other, hp_same, hp_new, upd_cells, Option.map_some, (bT5).eq])
       simp
      have hE9 : EAt (fun b => b < T + 1) W9 (eC k nm fl bi a0 n0 c0 a1 n1 c1 a2 n2 c2 a3 n3 c3) R.1 := (hE5.mono (Y := fun b => b < T + 1) (fun b _ q => by have q2 : b < Vr.heap.size := (by have q' : b < T + 1 := q; omega); simpa using q2)).fr g9 (fun b q => by have q' : b = T := q; show b < T + 1; omega)
      have hb9 := g9.blk h5.blk (fun q => by have q' : pb = T := q; omega)
      have bX9 := g9.blk bX5 (fun q => by have q' : Bx = T := q; omega)
      have H9 := Lib.hid (And.intro bT9 (And.intro hE9 (And.intro hb9 (And.intro bX9 (And.intro h5 ((HC.out.1.comp F5).trans g9 (fun b hb q => by have q' : b = T := q; omega)))))))
      have HW9 := Lib.hid hW9
      clear hW9 g9 bT9 hE9 hb9 bX9 hE5 h5 f5 F5 bT5 bX5
      go_wp2
      try rw [HW9.out]
      clear HW9 z0 z1 z2 z3 z4 z5 z6 z7 zf zl
      refine leaves_cons (f := 103) (args := #[.pointer (some ⟨Bx, 0, none⟩)]) (by simp) (by simp [go_sem]) ?_
      refine (qdeep_any H9.out.2.2.2.1 H9.out.2.2.1 I56.out.1 (by omega)).mono ?_
      rintro r u' w10 ⟨rfl, rfl, hb10, f10⟩
      rw [I56.out.2] at hb10
      have bT10 := f10.blk H9.out.1 (fun q => by have q' : T = pb := q; omega)
      have y0 := bT10.cell 0
      have y1 := bT10.cell 1
      have y2 := bT10.cell 2
      have y3 := bT10.cell 3
      have y4 := bT10.cell 4
      have y5 := bT10.cell 5
      have y6 := bT10.cell 6
      have y7 := bT10.cell 7
      simp at y0 y1 y2 y3 y4 y5 y6 y7
      have yf := bT10.free
      have yl := bT10.lt
      have H10 := Lib.hid (And.intro hb10 f10)
      clear bT10 hb10 f10
      refine ⟨.agg #[.int .i64 (k : Int), .string nm, .bool fl, .int .u64 (bi : Int), .slice a0 n0 c0, .slice a1 n1 c1, .slice a2 n2 c2, .slice a3 n3 c3], by simp [results, Tryz.results76, go_sem, *], ?_⟩
      have FF : Fr (fun b => b = pb) w w10 := H9.out.2.2.2.2.2.comp H10.out.2
      exact .inl ⟨hs50, _, rfl, ⟨_, rfl, (H9.out.2.1.fr H10.out.2 (fun b q => by have q' : b = pb := q; show b < T + 1; omega)).mono (fun b _ q => by have q' : b < w.heap.size := q; show b < T + 1; omega)⟩, ⟨H10.out.1, H0.out.toks.fr FF (fun _ q => q), H9.out.2.2.2.2.1.le, H9.out.2.2.2.2.1.sz⟩, FF⟩
    · obtain ⟨hne, rfl, ⟨xa, xd, hbd⟩, f5⟩ := hbr
      have F5 : Fr (fun b => b = pb) Vr w5 := Fr.comp (S := fun b => b = pb) (by exact frG) f5
      have bX5 := F5.blk HC.out.2.1 (fun q => by have q' : Bx = pb := q; omega)
      refine leaves_cons (f := 103) (args := #[.pointer (some ⟨Bx, 0, none⟩)]) (by simp) (by simp [go_sem]) ?_
      refine (qdeep_bad bX5 hbd (by omega)).mono ?_
      rintro r u' w10 ⟨rfl, rfl, hb10, f10⟩
      exact .inr ⟨hne, rfl, hb10, (HC.out.1.comp F5).comp f10⟩
  · have FwVr : Fr (fun b => b = pb) w Vr := HV.out.1.trans HS.out.2.2.2.2.2.1 (fun b hb q => by have := HBT.out; rcases q with q | q; exact q; omega)
    have Fw2 : Fr (fun b => b = pb) w W2 := FwVr.trans HE.out.2.2.2.1 (fun b hb q => by have := HBT.out; have q' : b = Ri := q; omega)
    have hQ2 : QAt W2 pb vT L s.at_ (dp + 1) := ⟨HE.out.2.2.2.1.blk HS.out.2.2.1.blk (fun q => by have q' : pb = Ri := q; omega), H0.out.toks.fr Fw2 (fun _ q => q), HS.out.2.2.1.le, HS.out.2.2.1.sz⟩
    have bX2 := HE.out.2.2.2.1.blk HS.out.2.2.2.1 (fun q => by have q' : Bx = Ri := q; omega)
    have bT2 := HE.out.2.2.2.1.blk HS.out.2.2.2.2.1 (fun q => by have q' : T = Ri := q; omega)
    have H2 := Lib.hid (And.intro Fw2 (And.intro hQ2 (And.intro bX2 (And.intro bT2 (HS.out.2.2.2.2.2.1.comp (HE.out.2.2.2.1.mono (fun _ _ q => .inr q)))))))
    have hRl : Ri < W2.heap.size := by
     rcases Nat.lt_or_ge Ri W2.heap.size with q | q
     · exact q
     · have := HE.out.2.1
       simp [Array.getElem?_eq_none q] at this
    have hMl2 : Mb < W2.heap.size := by have := HE.out.2.2.2.1.size; omega
    clear FwVr Fw2 hQ2 bX2 bT2 cB
    rcases mapE_mem HE.out.1.1 with rfl | rfl | rfl
    · refine (HI.out W2 [108, 101, 116] H2.out.2.1).mono ?_
      rintro e' w4 ⟨rfl, h4, f4⟩
      cases hse : seesF L [108, 101, 116] s with
      | false =>
       simp only [hse, Bool.false_eq_true, if_false] at h4
       have hrel : (wr4 : World) → wr4 = w4 → Hid (wr4.heap[Ri]? = some (.mapIter (some Mb) 3 (seen.push 0) 3) ∧ wr4.heap[Mb]? = some (.map (mapE pb) 3) ∧ QAt wr4 pb vT L s.at_ (dp + 1) ∧ Blk wr4 Bx #[.pointer (some ⟨pb, 0, none⟩)] 60 ∧ Blk wr4 T #[.int .i64 0, .string ⟨#[]⟩, .bool false, .int .u64 0, .slice none 0 0, .slice none 0 0, .slice none 0 0, .slice none 0 0] 49 ∧ Fr (fun b => b = pb ∨ b = Ri) V wr4 ∧ ((seen.push 0).contains 0 = true → seesF L [108, 101, 116] s = false) ∧ ((seen.push 0).contains 1 = true → seesF L [99, 97, 115, 101] s = false) ∧ ((seen.push 0).contains 2 = true → seesF L [92] s = false)) := fun wr4 e => Lib.hid (by
        subst e
        refine ⟨?_, ?_, h4, f4.blk H2.out.2.2.1 (fun q => by have q' : Bx = pb := q; omega), f4.blk H2.out.2.2.2.1 (fun q => by have q' : T = pb := q; omega), H2.out.2.2.2.2.comp (f4.mono (fun _ _ q => .inl q)), fun _ => hse, fun q => HS.out.2.2.2.2.2.2.2.1 (by have q2 : (seen.push 0).contains 1 = true := q; rw [contains_push] at q2; simpa using q2), fun q => HS.out.2.2.2.2.2.2.2.2 (by have q2 : (seen.push 0).contains 2 = true := q; rw [contains_push] at q2; simpa using q2)⟩
        · rw [f4.block Ri hRl (fun q => by have q' : Ri = pb := q; omega)]
          exact HE.out.2.1
        · rw [f4.block Mb hMl2 (fun q => by have q' : Mb = pb := q; omega)]
          exact HE.out.2.2.1)
       have hlt4 := HE.out.2.2.2.2
       have HR4 := Lib.hid (And.intro (hrel w4 rfl).out hlt4)
       clear hrel hlt4 h4 f4 hen cB2
       go_wp2_with fail
       go_roundg (leftOf (mapE pb) (seen.push 0)).size
       case rel => exact ⟨seen.push 0, rfl, Lib.hid HR4.out.1⟩
       case measure => have h := HR4.out.2; omega
      | true =>
       simp only [hse, if_true] at h4
       have hlt := sees_lt hse
       have eR := HRO.out.1
       rw [if_pos hse] at eR
       have hhow : ∀ w', QAt w' pb vT L (s.at_ + 1) (dp + 1) → Calls Tryz.prog 104 #[.pointer (some ⟨pb, 0, none⟩)] w' (QEnds pb vT L (dp + 1) w' (fun w'' v => EVal (fun b => b < w'.heap.size) w'' v R.1) R.2) := fun w' h' => by
        rw [eR]
        exact qlet_any HRO.out.2.2 HRO.out.2.1 hlt h'
       have HHW := Lib.hid hhow
       have HC := Lib.hid (And.intro (H2.out.1.comp f4) (And.intro (f4.blk H2.out.2.2.1 (fun q => by have q' : Bx = pb := q; omega)) (f4.blk H2.out.2.2.2.1 (fun q => by have q' : T = pb := q; omega))))
       have HQ4 := Lib.hid h4
       clear eR hhow h4 f4 hen cB2 HS hse
       go_wp2_with fail
       refine (HHW.out _ (HQ4.out.fr (by exact frA))).mono ?_
       rintro e w5 (⟨hs50, v5, rfl, ⟨cs, rfl, hE5⟩, h5, f5⟩ | hbr)
       · obtain ⟨k, nm, fl, bi, a0, n0, c0, a1, n1, c1, a2, n2, c2, a3, n3, c3, rfl⟩ := hE5.form
         unfold eC
         have F5 : Fr (fun b => b = pb) w4 w5 := Fr.comp (S := fun b => b = pb) (by exact frG) f5
         have bT5 := F5.blk HC.out.2.2 (fun q => by have q' : T = pb := q; omega)
         have bX5 := F5.blk HC.out.2.1 (fun q => by have q' : Bx = pb := q; omega)
         have hlc := HC.out.2.2.lt
         have z0 := bT5.cell 0
         have z1 := bT5.cell 1
         have z2 := bT5.cell 2
         have z3 := bT5.cell 3
         have z4 := bT5.cell 4
         have z5 := bT5.cell 5
         have z6 := bT5.cell 6
         have z7 := bT5.cell 7
         simp at z0 z1 z2 z3 z4 z5 z6 z7
         have zf := bT5.free
         have zl := bT5.lt
         obtain ⟨W9, hW9⟩ : ∃ W9, ((((((((w5).setCell ⟨T, 0, none⟩ (.int .i64 (k : Int))).setCell ⟨T, 1, none⟩ (.string nm)).setCell ⟨T, 2, none⟩ (.bool fl)).setCell ⟨T, 3, none⟩ (.int .u64 (bi : Int))).setCell ⟨T, 4, none⟩ (.slice a0 n0 c0)).setCell ⟨T, 5, none⟩ (.slice a1 n1 c1)).setCell ⟨T, 6, none⟩ (.slice a2 n2 c2)).setCell ⟨T, 7, none⟩ (.slice a3 n3 c3) = W9 := ⟨_, rfl⟩
         have g9 : Fr (fun b => b = T) w5 W9 := by rw [← hW9]; exact frG
         have bT9 : Blk W9 T #[.int .i64 (k : Int), .string nm, .bool fl, .int .u64 (bi : Int), .slice a0 n0 c0, .slice a1 n1 c1, .slice a2 n2 c2, .slice a3 n3 c3] 49 := by
          rw [← hW9]
          (unfold Blk; simp (disch := first | omega | (simp; done) | (simp; omega)) only [hp_drew, hp_drewN, hp_alloc, hp_other, hp_same, hp_new, upd_cells, Option.map_some, (bT5).eq])
          simp
         have hE9 : EAt (fun b => b < T + 1) W9 (eC k nm fl bi a0 n0 c0 a1 n1 c1 a2 n2 c2 a3 n3 c3) R.1 := (hE5.mono (Y := fun b => b < T + 1) (fun b _ q => by have q2 : b < w4.heap.size := (by have q' : b < T + 1 := q; omega); simpa using q2)).fr g9 (fun b q => by have q' : b = T := q; show b < T + 1; omega)
         have hb9 := g9.blk h5.blk (fun q => by have q' : pb = T := q; omega)
         have bX9 := g9.blk bX5 (fun q => by have q' : Bx = T := q; omega)
         have H9 := Lib.hid (And.intro bT9 (And.intro hE9 (And.intro hb9 (And.intro bX9 (And.intro h5 ((HC.out.1.comp F5).trans g9 (fun b hb q => by have q' : b = T := q; omega)))))))
         have HW9 := Lib.hid hW9
         clear hW9 g9 bT9 hE9 hb9 bX9 hE5 h5 f5 F5 bT5 bX5
         go_wp2
         try rw [HW9.out]
         clear HW9 z0 z1 z2 z3 z4 z5 z6 z7 zf zl
         refine leaves_cons (f := 103) (args := #[.pointer (some ⟨Bx, 0, none⟩)]) (by simp) (by simp [go_sem]) ?_
         refine (qdeep_any H9.out.2.2.2.1 H9.out.2.2.1 I56.out.1 (by omega)).mono ?_
         rintro r u' w10 ⟨rfl, rfl, hb10, f10⟩
         rw [I56.out.2] at hb10
         have bT10 := f10.blk H9.out.1 (fun q => by have q' : T = pb := q; omega)
         have y0 := bT10.cell 0
         have y1 := bT10.cell 1
         have y2 := bT10.cell 2
         have y3 := bT10.cell 3
         have y4 := bT10.cell 4
         have y5 := bT10.cell 5
         have y6 := bT10.cell 6
         have y7 := bT10.cell 7
         simp at y0 y1 y2 y3 y4 y5 y6 y7
         have yf := bT10.free
         have yl := bT10.lt
         have H10 := Lib.hid (And.intro hb10 f10)
         clear bT10 hb10 f10
         refine ⟨.agg #[.int .i64 (k : Int), .string nm, .bool fl, .int .u64 (bi : Int), .slice a0 n0 c0, .slice a1 n1 c1, .slice a2 n2 c2, .slice a3 n3 c3], by simp [results, Tryz.results76, go_sem, *], ?_⟩
         have FF : Fr (fun b => b = pb) w w10 := H9.out.2.2.2.2.2.comp H10.out.2
         exact .inl ⟨hs50, _, rfl, ⟨_, rfl, (H9.out.2.1.fr H10.out.2 (fun b q => by have q' : b = pb := q; show b < T + 1; omega)).mono (fun b _ q => by have q' : b < w.heap.size := q; show b < T + 1; omega)⟩, ⟨H10.out.1, H0.out.toks.fr FF (fun _ q => q), H9.out.2.2.2.2.1.le, H9.out.2.2.2.2.1.sz⟩, FF⟩
       · obtain ⟨hne, rfl, ⟨xa, xd, hbd⟩, f5⟩ := hbr
         have F5 : Fr (fun b => b = pb) w4 w5 := Fr.comp (S := fun b => b = pb) (by exact frG) f5
         have bX5 := F5.blk HC.out.2.1 (fun q => by have q' : Bx = pb := q; omega)
         refine leaves_cons (f := 103) (args := #[.pointer (some ⟨Bx, 0, none⟩)]) (by simp) (by simp [go_sem]) ?_
         refine (qdeep_bad bX5 hbd (by omega)).mono ?_
         rintro r u' w10 ⟨rfl, rfl, hb10, f10⟩
         exact .inr ⟨hne, rfl, hb10, (HC.out.1.comp F5).comp f10⟩
    · refine (HI.out W2 [99, 97, 115, 101] H2.out.2.1).mono ?_
      rintro e' w4 ⟨rfl, h4, f4⟩
      cases hse : seesF L [99, 97, 115, 101] s with
      | false =>
       simp only [hse, Bool.false_eq_true, if_false] at h4
       have hrel : (wr4 : World) → wr4 = w4 → Hid (wr4.heap[Ri]? = some (.mapIter (some Mb) 3 (seen.push 1) 3) ∧ wr4.heap[Mb]? = some (.map (mapE pb) 3) ∧ QAt wr4 pb vT L s.at_ (dp + 1) ∧ Blk wr4 Bx #[.pointer (some ⟨pb, 0, none⟩)] 60 ∧ Blk wr4 T #[.int .i64 0, .string ⟨#[]⟩, .bool false, .int .u64 0, .slice none 0 0, .slice none 0 0, .slice none 0 0, .slice none 0 0] 49 ∧ Fr (fun b => b = pb ∨ b = Ri) V wr4 ∧ ((seen.push 1).contains 0 = true → seesF L [108, 101, 116] s = false) ∧ ((seen.push 1).contains 1 = true → seesF L [99, 97, 115, 101] s = false) ∧ ((seen.push 1).contains 2 = true → seesF L [92] s = false)) := fun wr4 e => Lib.hid (by
        subst e
        refine ⟨?_, ?_, h4, f4.blk H2.out.2.2.1 (fun q => by have q' : Bx = pb := q; omega), f4.blk H2.out.2.2.2.1 (fun q => by have q' : T = pb := q; omega), H2.out.2.2.2.2.comp (f4.mono (fun _ _ q => .inl q)), fun q => HS.out.2.2.2.2.2.2.1 (by have q2 : (seen.push 1).contains 0 = true := q; rw [contains_push] at q2; simpa using q2), fun _ => hse, fun q => HS.out.2.2.2.2.2.2.2.2 (by have q2 : (seen.push 1).contains 2 = true := q; rw [contains_push] at q2; simpa using q2)⟩
        · rw [f4.block Ri hRl (fun q => by have q' : Ri = pb := q; omega)]
          exact HE.out.2.1
        · rw [f4.block Mb hMl2 (fun q => by have q' : Mb = pb := q; omega)]
          exact HE.out.2.2.1)
       have hlt4 := HE.out.2.2.2.2
       have HR4 := Lib.hid (And.intro (hrel w4 rfl).out hlt4)
       clear hrel hlt4 h4 f4 hen cB2
       go_wp2_with fail
       go_roundg (leftOf (mapE pb) (seen.push 1)).size
       case rel => exact ⟨seen.push 1, rfl, Lib.hid HR4.out.1⟩
       case measure => have h := HR4.out.2; omega
      | true =>
       simp only [hse, if_true] at h4
       have hlt := sees_lt hse
       have eR := HRO.out.1
       rw [if_neg (by rw [sees_other hse (by decide)]; decide), if_pos hse] at eR
       have hhow : ∀ w', QAt w' pb vT L (s.at_ + 1) (dp + 1) → Calls Tryz.prog 105 #[.pointer (some ⟨pb, 0, none⟩)] w' (QEnds pb vT L (dp + 1) w' (fun w'' v => EVal (fun b => b < w'.heap.size) w'' v R.1) R.2) := fun w' h' => by
        rw [eR]
        exact qchoice_any HRO.out.2.2 HRO.out.2.1 hlt h'
       have HHW := Lib.hid hhow
       have HC := Lib.hid (And.intro (H2.out.1.comp f4) (And.intro (f4.blk H2.out.2.2.1 (fun q => by have q' : Bx = pb := q; omega)) (f4.blk H2.out.2.2.2.1 (fun q => by have q' : T = pb := q; omega))))
       have HQ4 := Lib.hid h4
       clear eR hhow h4 f4 hen cB2 HS hse
       go_wp2_with fail
       refine (HHW.out _ (HQ4.out.fr (by exact frA))).mono ?_
       rintro e w5 (⟨hs50, v5, rfl, ⟨cs, rfl, hE5⟩, h5, f5⟩ | hbr)
       · obtain ⟨k, nm, fl, bi, a0, n0, c0, a1, n1, c1, a2, n2, c2, a3, n3, c3, rfl⟩ := hE5.form
         unfold eC
         have F5 : Fr (fun b => b = pb) w4 w5 := Fr.comp (S := fun b => b = pb) (by exact frG) f5
         have bT5 := F5.blk HC.out.2.2 (fun q => by have q' : T = pb := q; omega)
         have bX5 := F5.blk HC.out.2.1 (fun q => by have q' : Bx = pb := q; omega)
         have hlc := HC.out.2.2.lt
         have z0 := bT5.cell 0
         have z1 := bT5.cell 1
         have z2 := bT5.cell 2
         have z3 := bT5.cell 3
         have z4 := bT5.cell 4
         have z5 := bT5.cell 5
         have z6 := bT5.cell 6
         have z7 := bT5.cell 7
         simp at z0 z1 z2 z3 z4 z5 z6 z7
         have zf := bT5.free
         have zl := bT5.lt
         obtain ⟨W9, hW9⟩ : ∃ W9, ((((((((w5).setCell ⟨T, 0, none⟩ (.int .i64 (k : Int))).setCell ⟨T, 1, none⟩ (.string nm)).setCell ⟨T, 2, none⟩ (.bool fl)).setCell ⟨T, 3, none⟩ (.int .u64 (bi : Int))).setCell ⟨T, 4, none⟩ (.slice a0 n0 c0)).setCell ⟨T, 5, none⟩ (.slice a1 n1 c1)).setCell ⟨T, 6, none⟩ (.slice a2 n2 c2)).setCell ⟨T, 7, none⟩ (.slice a3 n3 c3) = W9 := ⟨_, rfl⟩
         have g9 : Fr (fun b => b = T) w5 W9 := by rw [← hW9]; exact frG
         have bT9 : Blk W9 T #[.int .i64 (k : Int), .string nm, .bool fl, .int .u64 (bi : Int), .slice a0 n0 c0, .slice a1 n1 c1, .slice a2 n2 c2, .slice a3 n3 c3] 49 := by
          rw [← hW9]
          (unfold Blk; simp (disch := first | omega | (simp; done) | (simp; omega)) only [hp_drew, hp_drewN, hp_alloc, hp_other, hp_same, hp_new, upd_cells, Option.map_some, (bT5).eq])
          simp
         have hE9 : EAt (fun b => b < T + 1) W9 (eC k nm fl bi a0 n0 c0 a1 n1 c1 a2 n2 c2 a3 n3 c3) R.1 := (hE5.mono (Y := fun b => b < T + 1) (fun b _ q => by have q2 : b < w4.heap.size := (by have q' : b < T + 1 := q; omega); simpa using q2)).fr g9 (fun b q => by have q' : b = T := q; show b < T + 1; omega)
         have hb9 := g9.blk h5.blk (fun q => by have q' : pb = T := q; omega)
         have bX9 := g9.blk bX5 (fun q => by have q' : Bx = T := q; omega)
         have H9 := Lib.hid (And.intro bT9 (And.intro hE9 (And.intro hb9 (And.intro bX9 (And.intro h5 ((HC.out.1.comp F5).trans g9 (fun b hb q => by have q' : b = T := q; omega)))))))
         have HW9 := Lib.hid hW9
         clear hW9 g9 bT9 hE9 hb9 bX9 hE5 h5 f5 F5 bT5 bX5
         go_wp2
         try rw [HW9.out]
         clear HW9 z0 z1 z2 z3 z4 z5 z6 z7 zf zl
         refine leaves_cons (f := 103) (args := #[.pointer (some ⟨Bx, 0, none⟩)]) (by simp) (by simp [go_sem]) ?_
         refine (qdeep_any H9.out.2.2.2.1 H9.out.2.2.1 I56.out.1 (by omega)).mono ?_
         rintro r u' w10 ⟨rfl, rfl, hb10, f10⟩
         rw [I56.out.2] at hb10
         have bT10 := f10.blk H9.out.1 (fun q => by have q' : T = pb := q; omega)
         have y0 := bT10.cell 0
         have y1 := bT10.cell 1
         have y2 := bT10.cell 2
         have y3 := bT10.cell 3
         have y4 := bT10.cell 4
         have y5 := bT10.cell 5
         have y6 := bT10.cell 6
         have y7 := bT10.cell 7
         simp at y0 y1 y2 y3 y4 y5 y6 y7
         have yf := bT10.free
         have yl := bT10.lt
         have H10 := Lib.hid (And.intro hb10 f10)
         clear bT10 hb10 f10
         refine ⟨.agg #[.int .i64 (k : Int), .string nm, .bool fl, .int .u64 (bi : Int), .slice a0 n0 c0, .slice a1 n1 c1, .slice a2 n2 c2, .slice a3 n3 c3], by simp [results, Tryz.results76, go_sem, *], ?_⟩
         have FF : Fr (fun b => b = pb) w w10 := H9.out.2.2.2.2.2.comp H10.out.2
         exact .inl ⟨hs50, _, rfl, ⟨_, rfl, (H9.out.2.1.fr H10.out.2 (fun b q => by have q' : b = pb := q; show b < T + 1; omega)).mono (fun b _ q => by have q' : b < w.heap.size := q; show b < T + 1; omega)⟩, ⟨H10.out.1, H0.out.toks.fr FF (fun _ q => q), H9.out.2.2.2.2.1.le, H9.out.2.2.2.2.1.sz⟩, FF⟩
       · obtain ⟨hne, rfl, ⟨xa, xd, hbd⟩, f5⟩ := hbr
         have F5 : Fr (fun b => b = pb) w4 w5 := Fr.comp (S := fun b => b = pb) (by exact frG) f5
         have bX5 := F5.blk HC.out.2.1 (fun q => by have q' : Bx = pb := q; omega)
         refine leaves_cons (f := 103) (args := #[.pointer (some ⟨Bx, 0, none⟩)]) (by simp) (by simp [go_sem]) ?_
         refine (qdeep_bad bX5 hbd (by omega)).mono ?_
         rintro r u' w10 ⟨rfl, rfl, hb10, f10⟩
         exact .inr ⟨hne, rfl, hb10, (HC.out.1.comp F5).comp f10⟩
    · refine (HI.out W2 [92] H2.out.2.1).mono ?_
      rintro e' w4 ⟨rfl, h4, f4⟩
      cases hse : seesF L [92] s with
      | false =>
       simp only [hse, Bool.false_eq_true, if_false] at h4
       have hrel : (wr4 : World) → wr4 = w4 → Hid (wr4.heap[Ri]? = some (.mapIter (some Mb) 3 (seen.push 2) 3) ∧ wr4.heap[Mb]? = some (.map (mapE pb) 3) ∧ QAt wr4 pb vT L s.at_ (dp + 1) ∧ Blk wr4 Bx #[.pointer (some ⟨pb, 0, none⟩)] 60 ∧ Blk wr4 T #[.int .i64 0, .string ⟨#[]⟩, .bool false, .int .u64 0, .slice none 0 0, .slice none 0 0, .slice none 0 0, .slice none 0 0] 49 ∧ Fr (fun b => b = pb ∨ b = Ri) V wr4 ∧ ((seen.push 2).contains 0 = true → seesF L [108, 101, 116] s = false) ∧ ((seen.push 2).contains 1 = true → seesF L [99, 97, 115, 101] s = false) ∧ ((seen.push 2).contains 2 = true → seesF L [92] s = false)) := fun wr4 e => Lib.hid (by
        subst e
        refine ⟨?_, ?_, h4, f4.blk H2.out.2.2.1 (fun q => by have q' : Bx = pb := q; omega), f4.blk H2.out.2.2.2.1 (fun q => by have q' : T = pb := q; omega), H2.out.2.2.2.2.comp (f4.mono (fun _ _ q => .inl q)), fun q => HS.out.2.2.2.2.2.2.1 (by have q2 : (seen.push 2).contains 0 = true := q; rw [contains_push] at q2; simpa using q2), fun q => HS.out.2.2.2.2.2.2.2.1 (by have q2 : (seen.push 2).contains 1 = true := q; rw [contains_push] at q2; simpa using q2), fun _ => hse⟩
        · rw [f4.block Ri hRl (fun q => by have q' : Ri = pb := q; omega)]
          exact HE.out.2.1
        · rw [f4.block Mb hMl2 (fun q => by have q' : Mb = pb := q; omega)]
          exact HE.out.2.2.1)
       have hlt4 := HE.out.2.2.2.2
       have HR4 := Lib.hid (And.intro (hrel w4 rfl).out hlt4)
       clear hrel hlt4 h4 f4 hen cB2
       go_wp2_with fail
       go_roundg (leftOf (mapE pb) (seen.push 2)).size
       case rel => exact ⟨seen.push 2, rfl, Lib.hid HR4.out.1⟩
       case measure => have h := HR4.out.2; omega
      | true =>
       simp only [hse, if_true] at h4
       have hlt := sees_lt hse
       have eR := HRO.out.1
       rw [if_neg (by rw [sees_other hse (by decide)]; decide), if_neg (by rw [sees_other hse (by decide)]; decide), if_pos hse] at eR
       have hhow : ∀ w', QAt w' pb vT L (s.at_ + 1) (dp + 1) → Calls Tryz.prog 106 #[.pointer (some ⟨pb, 0, none⟩)] w' (QEnds pb vT L (dp + 1) w' (fun w'' v => EVal (fun b => b < w'.heap.size) w'' v R.1) R.2) := fun w' h' => by
        rw [eR]
        exact qlam_any HRO.out.2.2 HRO.out.2.1 h'
       have HHW := Lib.hid hhow
       have HC := Lib.hid (And.intro (H2.out.1.comp f4) (And.intro (f4.blk H2.out.2.2.1 (fun q => by have q' : Bx = pb := q; omega)) (f4.blk H2.out.2.2.2.1 (fun q => by have q' : T = pb := q; omega))))
       have HQ4 := Lib.hid h4
       clear eR hhow h4 f4 hen cB2 HS hse
       go_wp2_with fail
       refine (HHW.out _ (HQ4.out.fr (by exact frA))).mono ?_
       rintro e w5 (⟨hs50, v5, rfl, ⟨cs, rfl, hE5⟩, h5, f5⟩ | hbr)
       · obtain ⟨k, nm, fl, bi, a0, n0, c0, a1, n1, c1, a2, n2, c2, a3, n3, c3, rfl⟩ := hE5.form
         unfold eC
         have F5 : Fr (fun b => b = pb) w4 w5 := Fr.comp (S := fun b => b = pb) (by exact frG) f5
         have bT5 := F5.blk HC.out.2.2 (fun q => by have q' : T = pb := q; omega)
         have bX5 := F5.blk HC.out.2.1 (fun q => by have q' : Bx = pb := q; omega)
         have hlc := HC.out.2.2.lt
         have z0 := bT5.cell 0
         have z1 := bT5.cell 1
         have z2 := bT5.cell 2
         have z3 := bT5.cell 3
         have z4 := bT5.cell 4
         have z5 := bT5.cell 5
         have z6 := bT5.cell 6
         have z7 := bT5.cell 7
         simp at z0 z1 z2 z3 z4 z5 z6 z7
         have zf := bT5.free
         have zl := bT5.lt
         obtain ⟨W9, hW9⟩ : ∃ W9, ((((((((w5).setCell ⟨T, 0, none⟩ (.int .i64 (k : Int))).setCell ⟨T, 1, none⟩ (.string nm)).setCell ⟨T, 2, none⟩ (.bool fl)).setCell ⟨T, 3, none⟩ (.int .u64 (bi : Int))).setCell ⟨T, 4, none⟩ (.slice a0 n0 c0)).setCell ⟨T, 5, none⟩ (.slice a1 n1 c1)).setCell ⟨T, 6, none⟩ (.slice a2 n2 c2)).setCell ⟨T, 7, none⟩ (.slice a3 n3 c3) = W9 := ⟨_, rfl⟩
         have g9 : Fr (fun b => b = T) w5 W9 := by rw [← hW9]; exact frG
         have bT9 : Blk W9 T #[.int .i64 (k : Int), .string nm, .bool fl, .int .u64 (bi : Int), .slice a0 n0 c0, .slice a1 n1 c1, .slice a2 n2 c2, .slice a3 n3 c3] 49 := by
          rw [← hW9]
          (unfold Blk; simp (disch := first | omega | (simp; done) | (simp; omega)) only [hp_drew, hp_drewN, hp_alloc, hp_other, hp_same, hp_new, upd_cells, Option.map_some, (bT5).eq])
          simp
         have hE9 : EAt (fun b => b < T + 1) W9 (eC k nm fl bi a0 n0 c0 a1 n1 c1 a2 n2 c2 a3 n3 c3) R.1 := (hE5.mono (Y := fun b => b < T + 1) (fun b _ q => by have q2 : b < w4.heap.size := (by have q' : b < T + 1 := q; omega); simpa using q2)).fr g9 (fun b q => by have q' : b = T := q; show b < T + 1; omega)
         have hb9 := g9.blk h5.blk (fun q => by have q' : pb = T := q; omega)
         have bX9 := g9.blk bX5 (fun q => by have q' : Bx = T := q; omega)
         have H9 := Lib.hid (And.intro bT9 (And.intro hE9 (And.intro hb9 (And.intro bX9 (And.intro h5 ((HC.out.1.comp F5).trans g9 (fun b hb q => by have q' : b = T := q; omega)))))))
         have HW9 := Lib.hid hW9
         clear hW9 g9 bT9 hE9 hb9 bX9 hE5 h5 f5 F5 bT5 bX5
         go_wp2
         try rw [HW9.out]
         clear HW9 z0 z1 z2 z3 z4 z5 z6 z7 zf zl
         refine leaves_cons (f := 103) (args := #[.pointer (some ⟨Bx, 0, none⟩)]) (by simp) (by simp [go_sem]) ?_
         refine (qdeep_any H9.out.2.2.2.1 H9.out.2.2.1 I56.out.1 (by omega)).mono ?_
         rintro r u' w10 ⟨rfl, rfl, hb10, f10⟩
         rw [I56.out.2] at hb10
         have bT10 := f10.blk H9.out.1 (fun q => by have q' : T = pb := q; omega)
         have y0 := bT10.cell 0
         have y1 := bT10.cell 1
         have y2 := bT10.cell 2
         have y3 := bT10.cell 3
         have y4 := bT10.cell 4
         have y5 := bT10.cell 5
         have y6 := bT10.cell 6
         have y7 := bT10.cell 7
         simp at y0 y1 y2 y3 y4 y5 y6 y7
         have yf := bT10.free
         have yl := bT10.lt
         have H10 := Lib.hid (And.intro hb10 f10)
         clear bT10 hb10 f10
         refine ⟨.agg #[.int .i64 (k : Int), .string nm, .bool fl, .int .u64 (bi : Int), .slice a0 n0 c0, .slice a1 n1 c1, .slice a2 n2 c2, .slice a3 n3 c3], by simp [results, Tryz.results76, go_sem, *], ?_⟩
         have FF : Fr (fun b => b = pb) w w10 := H9.out.2.2.2.2.2.comp H10.out.2
         exact .inl ⟨hs50, _, rfl, ⟨_, rfl, (H9.out.2.1.fr H10.out.2 (fun b q => by have q' : b = pb := q; show b < T + 1; omega)).mono (fun b _ q => by have q' : b < w.heap.size := q; show b < T + 1; omega)⟩, ⟨H10.out.1, H0.out.toks.fr FF (fun _ q => q), H9.out.2.2.2.2.1.le, H9.out.2.2.2.2.1.sz⟩, FF⟩
       · obtain ⟨hne, rfl, ⟨xa, xd, hbd⟩, f5⟩ := hbr
         have F5 : Fr (fun b => b = pb) w4 w5 := Fr.comp (S := fun b => b = pb) (by exact frG) f5
         have bX5 := F5.blk HC.out.2.1 (fun q => by have q' : Bx = pb := q; omega)
         refine leaves_cons (f := 103) (args := #[.pointer (some ⟨Bx, 0, none⟩)]) (by simp) (by simp [go_sem]) ?_
         refine (qdeep_bad bX5 hbd (by omega)).mono ?_
         rintro r u' w10 ⟨rfl, rfl, hb10, f10⟩
         exact .inr ⟨hne, rfl, hb10, (HC.out.1.comp F5).comp f10⟩
end
end Go.Proofs.YtlnmicddobgppaaGreatDoor
