/-
  The program shows atoms, names, numbers, applied ones and operations. Conditions: the tables that Go's library reads.
-/
import Derived.Deep.LoopGhost
import Derived.Laws.IdiomStrings
import Derived.Test.YtlnmicddobgppaaGreatDoorShelf
import Derived.Deep.RegionHeld3
import Derived.Test.YtlnmicddobgppaaGreatDoorNnY
import Derived.Test.YtlnmicddobgppaaGreatDoorNnA
namespace Go.Proofs.YtlnmicddobgppaaGreatDoor
set_option maxRecDepth 100000
set_option maxHeartbeats 4000000
set_option linter.unusedSimpArgs false
set_option linter.unusedVariables false
open Go.RowKit
theorem sliceAt_run {P : Program} (w : World) (t e : TypeId) (ht : P.underlying t = some (.array 65 e)) (he : (P.info? e).map (·.size) = some 1) (b j : Nat) (hj : j ≤ 64) :
 (Instr.sliceAt t (.pointer (some ⟨b, 0, none⟩)) (some (.int .i64 j)) none none).run P w = .ok (.slice (some ⟨b, j, none⟩) (65 - j) (65 - j)) w := by
 obtain ⟨i, hi, h1⟩ := Option.map_eq_some_iff.1 he
 have h0 : (0 : Int) ≤ (j : Int) := by omega
 have h2 : (j : Int) ≤ 65 := by omega
 have h3 : (65 : Nat) ≠ j := by omega
 simp [Instr.sliceAt, run_underlying ht, Instr.sliceBounds, run_sliceBound, h0, h2, h3, asAddr, sizeOf, typeInfo, hi, h1, go_sem]
theorem strOf (l : List UInt8) : strOfNums (l.map fun c => (c.toNat : Int)) = ⟨l.toArray⟩ := by
 unfold strOfNums
 rw [List.map_map]
 congr 1
 congr 1
 conv => rhs; rw [← List.map_id l]
 exact List.map_congr_left fun c _ => by simp
def bytesA (l : List UInt8) : Array Value := (l.map fun c => Value.int .u8 (c.toNat : Int)).toArray
theorem tz16_any (w : World) (hT : w.cell? ⟨7, 15, none⟩ = some (.int .u8 4)) :
 Calls Tryz.prog 175 #[.int .u64 16] w fun e w' => e = .returned (.int .i64 4) ∧ w = w' := by
 have e0 : IntKind.u64.wrap (bits BinOp.and IntKind.u64 16 (IntKind.u64.wrap (-16)) * 285870213051353865) / 288230376151711744 = 15 := by decide
 go_enter Tryz.func175, Tryz.ntmps175
 go_wp2
 go_ret
 exact ⟨rfl, rfl⟩
theorem formatBits_any (u : Nat) (w : World) (hu : u < 18446744073709551616) (hT : w.cell? ⟨7, 15, none⟩ = some (.int .u8 4)) :
 Calls Tryz.prog 159 #[.slice none 0 0, .int .u64 u, .int .i64 16, .bool false, .bool false] w fun e w' => e = .returned (.tuple #[.slice none 0 0, .string ⟨(hexL u).toArray⟩]) ∧ Fr Nil w w' := by
 go_enter Tryz.func159, Tryz.ntmps159
 go_wp2_with (first | (go_at_call 175; refine (tz16_any _ (Fr.cell (S := Nil) (by exact frA) hT (by simp [Nil]))).mono ?_; rintro e w1 ⟨rfl, rfl⟩) | go_in)
 have hz : Tryz.zeroCells195 = bytesA (List.replicate 65 0) := by kernel_rfl
 rw [hz]
 clear hz
 go_loopg [1, 13] 16 (fun g s1 s13 wr => ∃ (v i : Nat) (L : List UInt8), i + L.length = 65 ∧ g + L.length = 16 ∧ (1 ≤ v ∨ L = []) ∧ v * 16 ^ L.length ≤ u ∧ s1 = .int .u64 v ∧ s13 = .int .i64 i ∧ hexL v ++ L = hexL u ∧ Blk wr w.heap.size (bytesA (List.replicate i 0 ++ L)) 195 ∧ Fr Nil w wr)
 case atStart => exact ⟨u, 65, [], rfl, rfl, .inr rfl, by simp, rfl, rfl, by simp, by rw [List.append_nil]; exact blk0, by exact frA⟩
 case round =>
  obtain ⟨v, i, L, hi, hg, h1, hv, rfl, rfl, hh, hb, hf⟩ := hrel
  obtain ⟨j, rfl⟩ : ∃ j, i = j + 1 := ⟨i - 1, by omega⟩
  have hlt := hb.lt
  have hv' : v < 18446744073709551616 := by
   have : v * 1 ≤ v * 16 ^ L.length := Nat.mul_le_mul_left v (Nat.one_le_pow _ _ (by omega))
   omega
  by_cases h16 : 16 ≤ v
  · have hk : L.length < 15 := by
     rcases Nat.lt_or_ge L.length 15 with q | q
     · exact q
     · have := Nat.pow_le_pow_right (n := 16) (by omega) q
       have : 16 * 16 ^ 15 ≤ v * 16 ^ L.length := Nat.mul_le_mul h16 this
       omega
    have hm := hex_at (v % 16) (by omega)
    have ha := and_15 v (by omega)
    have hc := hb.cell j
    have hz := hb.free j
    have e1 : (bytesA (List.replicate (j + 1) 0 ++ L))[j]? = some (.int .u8 0) := by
     unfold bytesA
     rw [List.getElem?_toArray, List.getElem?_map, List.getElem?_append_left (by simp), List.getElem?_replicate, if_pos (by omega)]
     rfl
    rw [e1] at hc
    have HV : v / 16 * 16 ^ (L.length + 1) ≤ u := by
     have e : v / 16 * 16 ≤ v := Nat.div_mul_le_self v 16
     have e2 : v / 16 * 16 ^ (L.length + 1) = v / 16 * 16 * 16 ^ L.length := by rw [Nat.pow_succ, Nat.mul_assoc, Nat.mul_comm (16 ^ L.length)]
     rw [e2]
     exact Nat.le_trans (Nat.mul_le_mul_right _ e) hv
    have HV' := Lib.hid HV
    have HB : Hid (Blk (wr.setCell ⟨w.heap.size, j, none⟩ (.int .u8 ((hexd (v % 16)).toNat : Int))) w.heap.size (bytesA (List.replicate j 0 ++ hexd (v % 16) :: L)) 195) := Lib.hid (by
     refine hb.put ?_
     rw [List.replicate_succ']
     simp [bytesA, List.setIfInBounds_toArray, List.set_append])
    have HH : Hid (hexL (v / 16) ++ hexd (v % 16) :: L = hexL u) := Lib.hid (by rw [← hh, hexL_ge h16]; simp)
    clear hb hh e1 HV hv
    go_wp2
    go_roundg (gk - 1)
    case measure => omega
    case rel => exact ⟨v / 16, j, hexd (v % 16) :: L, by simp; omega, by simp; omega, .inl (by omega), HV'.out, by simp, rfl, HH.out, HB.out, by exact frA⟩
  · have hk : L.length < 16 := by
     rcases Nat.lt_or_ge L.length 16 with q | q
     · exact q
     · exfalso
       have p0 := Nat.pow_le_pow_right (n := 16) (by omega) q
       rcases h1 with h1 | rfl
       · have : 1 * 16 ^ 16 ≤ v * 16 ^ L.length := Nat.mul_le_mul h1 p0
         omega
       · simp at q
    have hm := hex_at v (by omega)
    have hc := hb.cell j
    have hz := hb.free j
    have e1 : (bytesA (List.replicate (j + 1) 0 ++ L))[j]? = some (.int .u8 0) := by
     unfold bytesA
     rw [List.getElem?_toArray, List.getElem?_map, List.getElem?_append_left (by simp), List.getElem?_replicate, if_pos (by omega)]
     rfl
    rw [e1] at hc
    have HB : Hid (Blk (wr.setCell ⟨w.heap.size, j, none⟩ (.int .u8 ((hexd v).toNat : Int))) w.heap.size (bytesA (List.replicate j 0 ++ hexd v :: L)) 195) := Lib.hid (by
     refine hb.put ?_
     rw [List.replicate_succ']
     simp [bytesA, List.setIfInBounds_toArray, List.set_append])
    have HH : Hid (hexd v :: L = hexL u) := Lib.hid (by rw [← hh, hexL_lt (by omega)]; simp)
    clear hb hh e1 hv h1
    have hsl := fun w' => sliceAt_run (P := Tryz.prog) w' 195 5 Tryz.underlying195 (by kernel_rfl) w.heap.size j (by omega)
    have hcv := run_convert_bytes_arg (P := Tryz.prog) (wr.setCell ⟨w.heap.size, j, none⟩ (.int .u8 ((hexd v).toNat : Int))) 106 5 Tryz.underlying106 Tryz.underlying5 w.heap.size j (65 - j) (65 - j) ((hexd v :: L).map fun c => (c.toNat : Int)) (by simp; omega) (fun i hi => by
     rw [HB.out.cell]
     unfold bytesA
     have hi' : i < (hexd v :: L).length := by simp; omega
     rw [List.getElem?_toArray, List.getElem?_map, List.getElem?_append_right (by simp), List.length_replicate, Nat.add_sub_cancel_left]
     rw [List.getD_eq_getElem?_getD, List.getElem?_map, List.getElem?_eq_getElem hi']
     rfl) 9 Tryz.underlying9
    rw [strOf, HH.out] at hcv
    go_wp2
    go_ret2
    exact ⟨rfl, by exact frA⟩
theorem formatUint_any (u : Nat) (w : World) (hu : u < 18446744073709551616) (hT : w.cell? ⟨7, 15, none⟩ = some (.int .u8 4)) :
 Calls Tryz.prog 121 #[.int .u64 u, .int .i64 16] w fun e w' => e = .returned (.string ⟨(hexL u).toArray⟩) ∧ Fr Nil w w' := by
 go_enter Tryz.func121, Tryz.ntmps121
 go_wp2_with (first | (go_at_call 159; refine (formatBits_any u _ hu hT).mono ?_; rintro e w1 ⟨rfl, f1⟩) | go_in)
 go_ret
 exact ⟨rfl, by exact frA⟩
structure Tabs (w : World) : Prop where
 pow : Lib.TabIs Tryz.prog w "internal/strconv.uint64pow10" .u64 Lib.pow10Tab
 tz : w.cell? ⟨7, 15, none⟩ = some (.int .u8 4)
theorem globalPow : Tryz.prog.globalNamed "internal/strconv.uint64pow10" = some 3 := by kernel_rfl
theorem Tabs.fr {w w1 : World} (h : Tabs w) (f : Fr Nil w w1) : Tabs w1 := by
 refine ⟨?_, f.cell h.tz (by simp [Nil])⟩
 have hp := h.pow
 unfold Lib.TabIs World.var? at *
 rw [globalPow] at *
 simp only [Option.bind_some] at *
 have hl : 3 < w.heap.size := by
  rcases Nat.lt_or_ge 3 w.heap.size with q | q
  · exact q
  · rw [Array.getElem?_eq_none q] at hp; cases hp
 rw [f.block _ hl (fun q => q)]
 exact hp
theorem Fr.grow (w : World) (k : Nat) (os : Array Obj) : Fr Nil w (Go.Sort.grow (w.drewN k) os) :=
 ⟨rfl, rfl, rfl, by show w.heap.size ≤ (w.heap ++ os).size; simp, fun b hb _ => by
  show (w.heap ++ os)[b]? = w.heap[b]?
  rw [Array.getElem?_append_left hb]⟩
theorem repeat_one (c : UInt8) : ∀ n, Lib.repeatL [c] n = List.replicate n c
 | 0 => rfl
 | n + 1 => by rw [Lib.repeatL, repeat_one c n, List.replicate_succ]; rfl
theorem print_int (x : Int) (w : World) (hT : Tabs w) :
 Calls Tryz.prog 97 #[.agg #[.bool false, .int .u64 x]] w fun e w' => e = .returned (.string ⟨(Lib.itoa (wrap64 x)).toArray⟩) ∧ Fr Nil w w' := by
 go_enter Tryz.func97, Tryz.ntmps97
 go_wp2_with fail
 refine (Tryz.strconv_FormatInt_10 (wrap64 x) (by unfold wrap64; omega) (by unfold wrap64; omega) _ (hT.fr (by exact frA)).pow).mono ?_
 rintro e w1 ⟨rfl, k, os, rfl⟩
 have f1 := Fr.grow (w.alloc (.cells #[.bool false, .int .u64 x] 39)) k os
 go_wp2
 go_ret
 exact ⟨rfl, by exact frA⟩
theorem print_flt (b : Nat) (w : World) (hb : b < 18446744073709551616) (hT : Tabs w) :
 Calls Tryz.prog 97 #[.agg #[.bool true, .int .u64 b]] w fun e w' => e = .returned (.string ⟨(printF b).toArray⟩) ∧ Fr Nil w w' := by
 have hl := hexL_len 16 b (by omega) (by simpa using hb)
 go_enter Tryz.func97, Tryz.ntmps97
 go_wp2_with fail
 refine (formatUint_any b _ hb (hT.fr (by exact frA)).tz).mono ?_
 rintro e w1 ⟨rfl, f1⟩
 have e16 : (16 : Int) - ((hexL b).length : Int) = ((16 - (hexL b).length : Nat) : Int) := by omega
 go_wp2_with fail
 refine (Tryz.strings_Repeat ⟨#[48]⟩ (16 - (hexL b).length) _ (by omega) (by simp [ByteArray.size]; omega)).mono ?_
 rintro e w2 ⟨rfl, b2⟩
 have f2 := Fr.ofBelow b2
 have er : Lib.repeatL (⟨#[48]⟩ : ByteArray).data.toList (16 - (hexL b).length) = List.replicate (16 - (hexL b).length) 48 := repeat_one _ _
 rw [er]
 have s1 : ∀ w, (Op.stringOp .add ⟨#[48, 102]⟩ ⟨(List.replicate (16 - (hexL b).length) (48 : UInt8)).toArray⟩).run Tryz.prog w = .ok (.string ⟨([48, 102] ++ List.replicate (16 - (hexL b).length) (48 : UInt8)).toArray⟩) w := fun w => run_string_add_lists w [48, 102] _ (by simp) (by simp; omega)
 have s2 : ∀ w, (Op.stringOp .add ⟨([48, 102] ++ List.replicate (16 - (hexL b).length) (48 : UInt8)).toArray⟩ ⟨(hexL b).toArray⟩).run Tryz.prog w = .ok (.string ⟨(printF b).toArray⟩) w := fun w => run_string_add_lists w _ _ (by simp; omega) (by omega)
 clear er
 go_wp2
 go_ret
 exact ⟨rfl, by exact frA⟩
theorem pjoin_any {w : World} {a : Option Addr} {n c : Nat} {l : List (List UInt8)} (hr : RowS (fun _ => False) w (.slice a n c) l) (hn : l.length = n) (hl : lenS l ≤ 100000000000) :
 Calls Tryz.prog 66 #[.slice a n c] w fun r w' => r = .returned (.string ⟨(joinS l).toArray⟩) ∧ Fr Nil w w' := by
 have hlen := joinS_le l
 rcases Nat.eq_zero_or_pos n with h0 | h0
 · subst h0
   obtain rfl : l = [] := List.eq_nil_of_length_eq_zero hn
   clear hr hlen hl
   go_enter Tryz.func66, Tryz.ntmps66
   go_wp2_with fail
   refine (Tryz.strings_Join_none _ _ _ _).mono ?_
   rintro r w2 ⟨rfl, rfl⟩
   go_wp2
   go_ret
   exact ⟨rfl, Fr.refl _ _⟩
 · obtain ⟨b, off, rfl, _, hc0⟩ := RowS.cell hr 0 (by omega)
   have hcells : ∀ (j : Nat) x, (l.map (fun x => (⟨x.toArray⟩ : ByteArray)))[j]? = some x → w.cell? ⟨b, off + j, none⟩ = some (.string x) := fun j x hx => by
    obtain ⟨hj, e⟩ := List.getElem?_eq_some_iff.1 hx
    have hj' : j < l.length := by simpa using hj
    obtain ⟨b', off', e', _, hc⟩ := RowS.cell hr j hj'
    cases e'
    rw [← e, List.getElem_map]
    exact hc
   have hcap : n ≤ c := by
    obtain ⟨_, _, e9, h9, _, _⟩ := hr
    cases e9
    exact hn ▸ h9
   have hll : n ≤ 100000000000 := by
    have h1 : ∀ l : List (List UInt8), l.length ≤ lenS l := fun l => by
     induction l with
     | nil => exact Nat.le_refl _
     | cons x l ih => rw [lenS_cons, List.length_cons]; omega
    have := h1 l
    omega
   have hmap : (l.map (fun x => (⟨x.toArray⟩ : ByteArray))).map (·.data.toList) = l := by
    rw [List.map_map]
    conv => rhs; rw [← List.map_id l]
    exact List.map_congr_left (fun x _ => by simp)
   have h := Tryz.strings_Join b off c (l.map (fun x => (⟨x.toArray⟩ : ByteArray))) ⟨#[32]⟩ w hcells (World.block_lt_of_cell? _ _ hc0) (by rw [List.length_map]; omega) (by rw [List.length_map]; omega) (by rw [hmap]; show (joinS l).length ≤ _; omega)
   rw [hmap, List.length_map, hn] at h
   have HJ := Lib.hid h
   clear h hmap hcells hc0 hr hlen
   go_enter Tryz.func66, Tryz.ntmps66
   go_wp2_with fail
   refine HJ.out.mono ?_
   rintro r w2 ⟨rfl, bw⟩
   have HF := Lib.hid (Fr.ofBelow bw)
   clear bw
   go_wp2
   go_ret
   exact ⟨rfl, HF.out⟩
theorem prF_cons (fl : Bool) (b : Nat) : ∃ c r, prF fl b = c :: r := by
 have hd : ∀ n, Lib.decDigits n ≠ [] := fun n => by
  rw [Lib.decDigits]
  split <;> simp
 have h : prF fl b ≠ [] := by
  cases fl with
  | true => unfold prF printF; simp
  | false =>
   rw [prF_int]
   unfold Lib.itoa
   split
   · simp
   · exact hd _
 cases hp : prF fl b with
 | nil => exact absurd hp h
 | cons c r => exact ⟨c, r, rfl⟩
theorem print_any (fl : Bool) (b : Nat) (hb : b < 18446744073709551616) (w : World) (hT : Tabs w) :
 Calls Tryz.prog 97 #[.agg #[.bool fl, .int .u64 (b : Int)]] w fun r w' => r = .returned (.string ⟨(prF fl b).toArray⟩) ∧ Fr Nil w w' := by
 cases fl with
 | true => rw [prF_flt hb]; exact print_flt b w hb hT
 | false => rw [prF_int]; exact print_int (b : Int) w hT
theorem pnum_any (fl : Bool) (b : Nat) (hb : b < 18446744073709551616) (w : World) (hT : Tabs w) :
 Calls Tryz.prog 63 #[.agg #[.bool fl, .int .u64 (b : Int)]] w fun r w' => r = .returned (.string ⟨(numT (prF fl b)).toArray⟩) ∧ Fr Nil w w' := by
 have hlen := prF_len fl b
 have hp : ∀ w', Fr Nil w w' → Calls Tryz.prog 97 #[.agg #[.bool fl, .int .u64 (b : Int)]] w' fun r w2 => r = .returned (.string ⟨(prF fl b).toArray⟩) ∧ Fr Nil w' w2 := fun w' f => print_any fl b hb w' (hT.fr f)
 obtain ⟨c, r, hc⟩ := prF_cons fl b
 rw [hc] at hp hlen ⊢
 have HP := Lib.hid hp
 have hix : ∀ h, (⟨(c :: r).toArray⟩ : ByteArray)[0]'h = c := fun _ => rfl
 clear hp hc hb hT
 by_cases h45 : c = 45
 · subst h45
   have e : numT (45 :: r) = 35 :: 45 :: r := if_pos rfl
   rw [e]
   have sa : ∀ w, (Op.stringOp .add ⟨#[35]⟩ ⟨((45 : UInt8) :: r).toArray⟩).run Tryz.prog w = .ok (.string ⟨((35 : UInt8) :: 45 :: r).toArray⟩) w := fun w => sadd [35] (45 :: r) (by simp at hlen ⊢; omega) w
   clear e hlen
   go_enter Tryz.func63, Tryz.ntmps63
   go_wp2_with fail
   refine (HP.out _ (by exact frA)).mono ?_
   rintro x w2 ⟨rfl, f2⟩
   have HF : Hid (Fr Nil w w2) := Lib.hid (Fr.comp (S := Nil) (by exact frA) f2)
   clear f2
   go_wp2
   go_ret
   exact ⟨rfl, HF.out⟩
 · have e : numT (c :: r) = c :: r := if_neg (fun z => h45 (by simpa using z))
   rw [e]
   have hc2 : ¬ c.toNat = 45 := fun z => h45 (UInt8.toNat_inj.1 z)
   have d1 : ((c.toNat : Int) == 45) = false := by rw [beq_eq_false_iff_ne]; omega
   have d2 : ¬ (c.toNat : Int) = 45 := by omega
   clear e hlen h45 hc2
   go_enter Tryz.func63, Tryz.ntmps63
   go_wp2_with fail
   refine (HP.out _ (by exact frA)).mono ?_
   rintro x w2 ⟨rfl, f2⟩
   have HF : Hid (Fr Nil w w2) := Lib.hid (Fr.comp (S := Nil) (by exact frA) f2)
   clear f2
   go_wp2
   go_ret
   exact ⟨rfl, HF.out⟩
theorem patom_any {w : World} {cs : List Value} {e : TE} {t : List UInt8} (h : EAt (fun _ => False) w cs e) (hl : t.length ≤ 100000000000)
 (hE : ∀ w', Fr Nil w w' → Calls Tryz.prog 18 #[.agg cs.toArray] w' fun r w2 => r = .returned (.string ⟨t.toArray⟩) ∧ Fr Nil w' w2) :
 Calls Tryz.prog 99 #[.agg cs.toArray] w fun r w' => r = .returned (.string ⟨(atomT e t).toArray⟩) ∧ Fr Nil w w' := by
 obtain ⟨k, nm, fl, bi, ps, ks, bs, al⟩ := e
 obtain ⟨a0, c0, a1, c1, a2, c2, a3, c3, kc, bc, ac, rfl, _, hk, _, _, _, _, _⟩ := h.opened
 obtain ⟨nk, hnk⟩ : ∃ nk, ks.length = nk := ⟨_, rfl⟩
 obtain ⟨nb, hnb⟩ : ∃ nb, bs.length = nb := ⟨_, rfl⟩
 obtain ⟨na, hna⟩ : ∃ na, al.length = na := ⟨_, rfl⟩
 obtain ⟨np, hnp⟩ : ∃ np, ps.length = np := ⟨_, rfl⟩
 have hk9 : nk ≤ 9223372036854775807 := by rw [← hnk]; exact hk.lenX
 rw [hnk, hnb, hna, hnp] at hE
 rw [hnk, hnb, hna, hnp]
 have HE := Lib.hid hE
 have he : ks.isEmpty = decide (nk = 0) := by
  cases ks with
  | nil => rw [← hnk]; rfl
  | cons x l => rw [← hnk]; simp
 clear hE hnb hna hnp h hk
 have sa1 : ∀ w, (Op.stringOp .add ⟨#[40]⟩ ⟨t.toArray⟩).run Tryz.prog w = .ok (.string ⟨((40 : UInt8) :: t).toArray⟩) w := fun w => sadd [40] t (by simp; omega) w
 obtain ⟨S1, hS1⟩ : ∃ S1, (40 : UInt8) :: t = S1 := ⟨_, rfl⟩
 rw [hS1] at sa1
 have l1 : S1.length = t.length + 1 := by rw [← hS1]; simp
 obtain ⟨S2, hS2⟩ : ∃ S2, parF t = S2 := ⟨_, rfl⟩
 have sa2 : ∀ w, (Op.stringOp .add ⟨S1.toArray⟩ ⟨#[41]⟩).run Tryz.prog w = .ok (.string ⟨S2.toArray⟩) w := fun w => by
  have e : S2 = S1 ++ [41] := by rw [← hS2, ← hS1]; rfl
  rw [e]
  exact sadd S1 [41] (by simp; omega) w
 have HA : Hid (atomT (.mk k nm fl bi ps ks bs al) t = if decide (k = 1) || decide (k = 3) || (decide (nk = 0) && (decide (k = 2) || decide (k = 5))) then t else S2) := Lib.hid (by
  show (if (decide (k = 1) || decide (k = 3) || (ks.isEmpty && (decide (k = 2) || decide (k = 5)))) = true then t else parF t) = _
  rw [he, hS2])
 clear hS1 l1 hS2 he hl
 have n0 : (0 : Int) ≤ (nk : Int) := by omega
 obtain ⟨k', hk'⟩ : ∃ k' : Int, (k : Int) = k' := ⟨_, rfl⟩
 clear hk'
 by_cases k1 : k = 1
 · subst k1
   go_enter Tryz.func99, Tryz.ntmps99
   go_wp2_with fail
   refine (HE.out _ (by exact frA)).mono ?_
   rintro e w2 ⟨rfl, f2⟩
   have HF : Hid (Fr Nil w w2) := Lib.hid (Fr.comp (S := Nil) (by exact frA) f2)
   clear f2
   go_wp2
   go_ret
   exact ⟨by rw [HA.out]; rfl, HF.out⟩
 by_cases k3 : k = 3
 · subst k3
   go_enter Tryz.func99, Tryz.ntmps99
   go_wp2_with fail
   refine (HE.out _ (by exact frA)).mono ?_
   rintro e w2 ⟨rfl, f2⟩
   have HF : Hid (Fr Nil w w2) := Lib.hid (Fr.comp (S := Nil) (by exact frA) f2)
   clear f2
   go_wp2
   go_ret
   exact ⟨by rw [HA.out]; rfl, HF.out⟩
 by_cases k2 : k = 2
 · subst k2
   by_cases z : nk = 0
   · subst z
     go_enter Tryz.func99, Tryz.ntmps99
     go_wp2_with fail
     refine (HE.out _ (by exact frA)).mono ?_
     rintro e w2 ⟨rfl, f2⟩
     have HF : Hid (Fr Nil w w2) := Lib.hid (Fr.comp (S := Nil) (by exact frA) f2)
     clear f2
     go_wp2
     go_ret
     exact ⟨by rw [HA.out]; rfl, HF.out⟩
   · have d0 : ((nk : Int) == 0) = false := by rw [beq_eq_false_iff_ne]; omega
     have z0 : ¬ (nk : Int) = 0 := by omega
     go_enter Tryz.func99, Tryz.ntmps99
     go_wp2_with fail
     refine (HE.out _ (by exact frA)).mono ?_
     rintro e w2 ⟨rfl, f2⟩
     have HF : Hid (Fr Nil w w2) := Lib.hid (Fr.comp (S := Nil) (by exact frA) f2)
     clear f2
     go_wp2
     go_ret
     exact ⟨by rw [HA.out]; rw [show decide (nk = 0) = false from decide_eq_false z]; rfl, HF.out⟩
 by_cases k5 : k = 5
 · subst k5
   by_cases z : nk = 0
   · subst z
     go_enter Tryz.func99, Tryz.ntmps99
     go_wp2_with fail
     refine (HE.out _ (by exact frA)).mono ?_
     rintro e w2 ⟨rfl, f2⟩
     have HF : Hid (Fr Nil w w2) := Lib.hid (Fr.comp (S := Nil) (by exact frA) f2)
     clear f2
     go_wp2
     go_ret
     exact ⟨by rw [HA.out]; rfl, HF.out⟩
   · have d0 : ((nk : Int) == 0) = false := by rw [beq_eq_false_iff_ne]; omega
     have z0 : ¬ (nk : Int) = 0 := by omega
     go_enter Tryz.func99, Tryz.ntmps99
     go_wp2_with fail
     refine (HE.out _ (by exact frA)).mono ?_
     rintro e w2 ⟨rfl, f2⟩
     have HF : Hid (Fr Nil w w2) := Lib.hid (Fr.comp (S := Nil) (by exact frA) f2)
     clear f2
     go_wp2
     go_ret
     exact ⟨by rw [HA.out]; rw [show decide (nk = 0) = false from decide_eq_false z]; rfl, HF.out⟩
 have d1 : ((k : Int) == 1) = false := by rw [beq_eq_false_iff_ne]; omega
 have d2 : ((k : Int) == 2) = false := by rw [beq_eq_false_iff_ne]; omega
 have d3 : ((k : Int) == 3) = false := by rw [beq_eq_false_iff_ne]; omega
 have d5 : ((k : Int) == 5) = false := by rw [beq_eq_false_iff_ne]; omega
 have y1 : ¬ (k : Int) = 1 := by omega
 have y2 : ¬ (k : Int) = 2 := by omega
 have y3 : ¬ (k : Int) = 3 := by omega
 have y5 : ¬ (k : Int) = 5 := by omega
 by_cases z : nk = 0
 · subst z
   go_enter Tryz.func99, Tryz.ntmps99
   go_wp2_with fail
   refine (HE.out _ (by exact frA)).mono ?_
   rintro e w2 ⟨rfl, f2⟩
   have HF : Hid (Fr Nil w w2) := Lib.hid (Fr.comp (S := Nil) (by exact frA) f2)
   clear f2
   go_wp2
   go_ret
   exact ⟨by rw [HA.out]; simp [k1, k2, k3, k5], HF.out⟩
 · have d0 : ((nk : Int) == 0) = false := by rw [beq_eq_false_iff_ne]; omega
   have z0 : ¬ (nk : Int) = 0 := by omega
   go_enter Tryz.func99, Tryz.ntmps99
   go_wp2_with fail
   refine (HE.out _ (by exact frA)).mono ?_
   rintro e w2 ⟨rfl, f2⟩
   have HF : Hid (Fr Nil w w2) := Lib.hid (Fr.comp (S := Nil) (by exact frA) f2)
   clear f2
   go_wp2
   go_ret
   exact ⟨by rw [HA.out]; simp [k1, k2, k3, k5], HF.out⟩
def PsOk (e : TE) : Prop := ∀ (w : World) (cs : List Value), EAt (fun _ => False) w cs e → svE e → zE e ≤ 50000000 → Tabs w → Calls Tryz.prog 18 #[.agg cs.toArray] w fun r w' => r = .returned (.string ⟨(swE prF e).toArray⟩) ∧ Fr Nil w w'
theorem psatoms_any {w : World} {cs : List Value} {k : Nat} {nm : List UInt8} {fl : Bool} {bi : Nat} {ps : List (List UInt8)} {ks : List TE} {bs : List TB} {al : List TA} (h : EAt (fun _ => False) w cs (.mk k nm fl bi ps ks bs al)) (hE : ∀ e ∈ ks, PsOk e) (hs : svK ks) (hz : zK ks ≤ 50000000) (hT : Tabs w) :
 Calls Tryz.prog 67 #[.agg cs.toArray] w fun r w' => ∃ v, r = .returned v ∧ w'.ownsRow w.heap.size 9 1 v ks.length (strC (swK prF ks)) ∧ Fr Nil w w' := by
 obtain ⟨i0, hi, hz0, hz1, hz2⟩ := info_parts infoS
 obtain ⟨a0, c0, a1, c1, a2, c2, a3, c3, kc, bc, ac, rfl, _, hk, hk2, _, _, _, _⟩ := h.opened
 obtain ⟨nk, hnk⟩ : ∃ nk, ks.length = nk := ⟨_, rfl⟩
 obtain ⟨nb, hnb⟩ : ∃ nb, bs.length = nb := ⟨_, rfl⟩
 obtain ⟨na, hna⟩ : ∃ na, al.length = na := ⟨_, rfl⟩
 obtain ⟨np, hnp⟩ : ∃ np, ps.length = np := ⟨_, rfl⟩
 rw [hnk] at hk
 have hk9 : nk ≤ 9223372036854775807 := hk.lenX
 have hzn : nk ≤ 50000000 := by
  have h1 : ∀ l : List TE, l.length ≤ zK l := fun l => by
   induction l with
   | nil => exact Nat.zero_le _
   | cons x l ih => unfold zK; rw [List.length_cons]; omega
  have := h1 ks
  omega
 rw [hnk, hnb, hna, hnp]
 have hzl := swK_len prF prF_len ks
 obtain ⟨T, hTs⟩ : ∃ T, w.heap.size = T := ⟨_, rfl⟩
 rw [hTs]
 have HR := Lib.hid (And.intro hk (And.intro hk2 (And.intro hnk (And.intro hE (And.intro hs (And.intro hz (And.intro hzl hT)))))))
 have HTS := Lib.hid hTs
 clear hk hk2 hnk hE hs hz hzl hT h hnb hna hnp hTs
 go_enter Tryz.func67, Tryz.ntmps67
 go_wp2_with fail
 go_loopg [3, 10] nk (fun g v iv wr => ∃ j : Nat, g = nk - j ∧ j ≤ nk ∧ iv = .int .i64 (j : Int) ∧ Hid (wr.ownsRow T 9 1 v j (strC ((swK prF ks).take j)) ∧ Fr Nil w wr))
 case atStart => exact ⟨0, rfl, by omega, rfl, Lib.hid ⟨World.ownsRow_nil _ _ _ _, by exact frA⟩⟩
 case round =>
  obtain ⟨j, rfl, hjn, rfl, HQ⟩ := hrel
  obtain ⟨Vr, hVr⟩ : ∃ V, V = wr := ⟨_, rfl⟩
  subst hVr
  obtain ⟨va, vc, rfl⟩ := owns_shape HQ.out.1
  have hTS1 : T ≤ w.heap.size := Nat.le_of_eq HTS.out.symm
  have hTS2 : w.heap.size ≤ T := Nat.le_of_eq HTS.out
  have hsz := HQ.out.2.size
  have j0 : (0 : Int) ≤ (j : Int) := by omega
  by_cases hlt : j < nk
  · have hjl : j < ks.length := by rw [HR.out.2.2.1]; exact hlt
    have hjs : j < (swK prF ks).length := by rw [swK_length]; exact hjl
    have wk : IntKind.i64.wrap ((j : Int) + 1) = (j : Int) + 1 := by rw [IntKind.wrap_i64]; omega
    have j1 : (j : Int) < (nk : Int) := by omega
    have hEj := (HR.out.2.1 j hjl).frN HQ.out.2
    obtain ⟨b, off, rfl, _, hc⟩ := (HR.out.1.frN HQ.out.2).at hlt
    obtain ⟨kA, nA, fA, bA, a0A, n0A, c0A, a1A, n1A, c1A, a2A, n2A, c2A, a3A, n3A, c3A, ec⟩ := hEj.formE
    rw [ec] at hc hEj
    have x0 := hc 0 _ rfl
    have x1 := hc 1 _ rfl
    have x2 := hc 2 _ rfl
    have x3 := hc 3 _ rfl
    have x4 := hc 4 _ rfl
    have x5 := hc 5 _ rfl
    have x6 := hc 6 _ rfl
    have x7 := hc 7 _ rfl
    simp only [Nat.add_zero] at x0
    have xl := World.block_lt_of_cell? _ _ x0
    have hm : ks[j] ∈ ks := List.getElem_mem hjl
    have hz1 := zK_mem hm
    have hz2 := HR.out.2.2.2.2.2.1
    have hrec := HR.out.2.2.2.1 _ hm
    have hsv := svK_mem HR.out.2.2.2.2.1 hm
    have hTV := HR.out.2.2.2.2.2.2.2.fr HQ.out.2
    have hst : (swK prF ks).take (j + 1) = (swK prF ks).take j ++ [atomT ks[j] (swE prF ks[j])] := by
     rw [List.take_succ_eq_append_getElem hjs, swK_at hjl hjs]
    obtain ⟨e, he⟩ : ∃ e, ks[j] = e := ⟨_, rfl⟩
    rw [he] at hEj hrec hsv hz1 hst
    have hat : ∀ w', Fr Nil Vr w' → Calls Tryz.prog 99 #[.agg #[.int .i64 kA, .string nA, .bool fA, .int .u64 bA, .slice a0A n0A c0A, .slice a1A n1A c1A, .slice a2A n2A c2A, .slice a3A n3A c3A]] w' fun r w2 => r = .returned (.string ⟨(atomT e (swE prF e)).toArray⟩) ∧ Fr Nil w' w2 := fun w' f =>
     patom_any (hEj.frN f) (by have := swE_le (e := e) (by omega); omega) (fun w2 f2 => hrec w2 _ ((hEj.frN f).frN f2) hsv (by omega) (hTV.fr (f.comp f2)))
    obtain ⟨x, hx⟩ : ∃ x, atomT e (swE prF e) = x := ⟨_, rfl⟩
    rw [hx] at hst
    simp only [hx] at hat
    have HA := Lib.hid hat
    have HST := Lib.hid hst
    clear hat hst hx he hrec hsv hTV hEj hc hm hz1 hz2 ec
    go_wp2_with fail
    refine (HA.out _ (by exact frA)).mono ?_
    rintro r w2 ⟨rfl, f2⟩
    have g2 : Fr Nil Vr w2 := Fr.comp (S := Nil) (by exact frA) f2
    have ho2 := owns_fr HQ.out.1 g2
    have H2 := Lib.hid (And.intro g2 ho2)
    have hs2 := g2.size
    clear f2 g2 ho2
    have hTw : T ≤ w2.heap.size := by omega
    go_wp2_with (at_builtin; refine wpList_push rfl (.tmp 14) (.tmp 17) 45 rfl T 9 i0 (.string ⟨#[]⟩) 1 16 Tryz.underlying45 hi hz0 hz1 hz2 rfl (by decide) (.slice va j vc) j (strC ((swK prF ks).take j)) rfl H2.out.2 [.string ⟨x.toArray⟩] rfl rfl (by simp [Value.oneCell']) (by unfold maxLen; omega) (by omega) hTw ?_; intro v' w9 hown9 k8 _; have HO := Lib.hid (And.intro hown9 k8); obtain ⟨ya, yc, rfl⟩ := owns_shape hown9; clear hown9 k8)
    have k9 : Fr Nil w w9 := (HQ.out.2.comp H2.out.1).trans HO.out.2 (fun q hq e => by have := (HQ.out.1.lt q e).1; omega)
    go_wp2
    go_roundg (nk - (j + 1))
    case rel => exact ⟨j + 1, rfl, by omega, rfl, Lib.hid ⟨by rw [HST.out, strC_snoc]; exact HO.out.1, k9⟩⟩
    case measure => omega
  · have j1 : ¬ (j : Int) < (nk : Int) := by omega
    have ejn : j = nk := by omega
    have ho := HQ.out.1
    rw [List.take_of_length_le (by rw [swK_length, HR.out.2.2.1]; omega), ejn] at ho
    subst ejn
    have HO := Lib.hid ho
    clear ho
    go_wp2
    go_ret
    exact ⟨_, rfl, HO.out, HQ.out.2⟩
theorem pre_call {P : Program} {f : Nat} {args : Array Value} {w : World} {Q : Ending → World → Prop} {b : Nat} {cs : Array Value} {t : TypeId} (h : Blk w b cs t) (k : Blk w b cs t → Calls P f args w Q) : Calls P f args w Q := k h
theorem is_app {P : Program} {ops : Array Oper} {o : Oper} {a : Act} {w : World} {K : Act → World → Prop} {Q : Exit → Act → World → Prop} {E : Prop} (s x : Operand) (t : TypeId) (hop : o.op = Op.call { callee := Callee.builtin Builtin.append, args := #[s, x], argTypes := #[t, t] })
 (k : if Region.wanted o (yielded ops a.tmps) = true then Oper.wp P o a w K Q else E) : if Region.wanted o (yielded ops a.tmps) = true then Oper.wp P o a w K Q else E := k
theorem pre_blk {P : Program} {ops : Array Oper} {o : Oper} {a : Act} {w : World} {K : Act → World → Prop} {Q : Exit → Act → World → Prop} {E : Prop} {b : Nat} {cs : Array Value} {t : TypeId} (h : Blk w b cs t)
 (k : Blk w b cs t → (if Region.wanted o (yielded ops a.tmps) = true then Oper.wp P o a w K Q else E)) : if Region.wanted o (yielded ops a.tmps) = true then Oper.wp P o a w K Q else E := k h
theorem owns_one {w : World} {base k : Nat} {v : Value} {e : TypeId} (h : Blk w k #[v] e) (hb : base ≤ k) : w.ownsRow base e 1 (.slice (some ⟨k, 0, none⟩) 1 1) 1 [v] :=
 ⟨rfl, .inr ⟨k, 1, _, rfl, hb, h, Nat.le_refl _, by unfold maxLen; omega, rfl, rfl⟩⟩
theorem owns_none {w : World} {base k : Nat} {e : TypeId} (h : Blk w k #[] e) (hb : base ≤ k) : w.ownsRow base e 1 (.slice (some ⟨k, 0, none⟩) 0 0) 0 [] :=
 ⟨by simp, .inr ⟨k, 0, #[], rfl, hb, h, Nat.le_refl _, by unfold maxLen; omega, by simp, by simp⟩⟩
theorem owns_rowS {w : World} {base n : Nat} {v : Value} {l : List (List UInt8)} (h : w.ownsRow base 9 1 v n (strC l)) (hn : l.length = n) : RowS (fun _ => False) w v l := RowS.of_own (by rw [hn]; exact h) (fun b q => q.elim)
theorem strC_one (l : List (List UInt8)) : ∀ u ∈ strC l, u.oneCell' = true := fun u hu => by
 unfold strC at hu
 obtain ⟨x, _, rfl⟩ := List.mem_map.1 hu
 rfl
theorem strC_len (l : List (List UInt8)) : (strC l).length = l.length := by simp [strC]
theorem rows_src {X : Nat → Prop} {w : World} {a : Option Addr} {n c : Nat} {l : List (List UInt8)} (h : RowS X w (.slice a n c) l) (hn : l.length = n) : Src w a n 1 (strC l) := by
 subst hn
 cases l with
 | nil =>
  obtain ⟨a1, c1, e, h1, h2, hc⟩ := h
  cases a with
  | none => exact .inl ⟨rfl, rfl, rfl⟩
  | some ad => exact .inr ⟨ad, rfl, rfl, fun j u hj => by simp [strC] at hj⟩
 | cons x r =>
  obtain ⟨b, off, e, _, _⟩ := RowS.cell h 0 (by simp)
  subst e
  refine .inr ⟨_, rfl, by rw [strC_len, Nat.mul_one], fun j u hj => ?_⟩
  have hjl : j < (x :: r).length := by
   have := (List.getElem?_eq_some_iff.1 hj).1
   rw [strC_len] at this
   exact this
  obtain ⟨b', off', e', _, hc⟩ := RowS.cell h j hjl
  cases e'
  have e2 : u = .string ⟨((x :: r)[j]).toArray⟩ := by
   unfold strC at hj
   rw [List.getElem?_map, List.getElem?_eq_getElem hjl] at hj
   simpa using hj.symm
  rw [e2]
  cases j with
  | zero => simpa [Addr.add] using hc
  | succ j => simpa [Addr.add] using hc
theorem lenS_join {l : List (List UInt8)} {z : Nat} (h : lenS l ≤ z) : (joinS l).length ≤ z := Nat.le_trans (joinS_le l) h
theorem len_lenS : ∀ l : List (List UInt8), l.length ≤ lenS l
 | [] => Nat.le_refl _
 | x :: l => by have := len_lenS l; rw [lenS_cons, List.length_cons]; omega
theorem pkid_any {w : World} {cs : List Value} {k : Nat} {nm : List UInt8} {fl : Bool} {bi : Nat} {ps : List (List UInt8)} {ks : List TE} {bs : List TB} {al : List TA} (h : EAt (fun _ => False) w cs (.mk k nm fl bi ps ks bs al)) (hE : ∀ e ∈ ks, PsOk e) (hs : svK ks) (hz : zK ks ≤ 50000000) (hT : Tabs w) :
 Calls Tryz.prog 69 #[.agg cs.toArray, .int .i64 0] w fun r w' => r = .returned (.string ⟨(swX prF ks).toArray⟩) ∧ Fr Nil w w' := by
 obtain ⟨a0, c0, a1, c1, a2, c2, a3, c3, kc, bc, ac, rfl, hp, hk, hk2, hb, hb2, ha, ha2⟩ := h.opened
 obtain ⟨nk, hnk⟩ : ∃ nk, ks.length = nk := ⟨_, rfl⟩
 obtain ⟨nb, hnb⟩ : ∃ nb, bs.length = nb := ⟨_, rfl⟩
 obtain ⟨na, hna⟩ : ∃ na, al.length = na := ⟨_, rfl⟩
 obtain ⟨np, hnp⟩ : ∃ np, ps.length = np := ⟨_, rfl⟩
 rw [hnk] at hk
 rw [hnb] at hb
 rw [hna] at ha
 have hp' : RowS (fun _ => False) w (.slice a0 np c0) ps := by rw [← hnp]; exact hp
 have hk9 := hk.lenX
 have hb9 := hb.lenX
 have ha9 := ha.lenX
 cases ks with
 | nil =>
  obtain rfl : nk = 0 := by rw [← hnk]; rfl
  rw [swX]
  rw [show ([] : List TE).length = 0 from rfl, hnb, hna, hnp]
  clear h hp hp' hk hk2 hb hb2 ha ha2 hE hs hz hT hnk
  go_enter Tryz.func69, Tryz.ntmps69
  go_wp2
  go_ret
  exact ⟨rfl, by exact frA⟩
 | cons e0 l =>
  obtain ⟨m, hm⟩ : ∃ m, l.length = m := ⟨_, rfl⟩
  have hnk1 : nk = m + 1 := by rw [← hnk, ← hm]; rfl
  subst hnk1
  rw [swX]
  have hE0 : EAt (fun _ => False) w (kc 0) e0 := hk2 0 (by simp)
  obtain ⟨kA, nA, fA, bA, a0A, n0A, c0A, a1A, n1A, c1A, a2A, n2A, c2A, a3A, n3A, c3A, ecA⟩ := hE0.formE
  obtain ⟨b, off, e', _, hc⟩ := hk.at (i := 0) (by omega)
  subst e'
  rw [ecA] at hc hE0
  have hz0 : zE e0 ≤ 50000000 := by have := zK_mem (e := e0) (ks := e0 :: l) (by simp); omega
  have hex : ∀ w', Fr Nil w w' → Calls Tryz.prog 18 #[.agg #[.int .i64 kA, .string nA, .bool fA, .int .u64 bA, .slice a0A n0A c0A, .slice a1A n1A c1A, .slice a2A n2A c2A, .slice a3A n3A c3A]] w' fun r w2 => r = .returned (.string ⟨(swE prF e0).toArray⟩) ∧ Fr Nil w' w2 := fun w' f => hE e0 (by simp) w' _ (hE0.frN f) hs.1 hz0 (hT.fr f)
  have HA := Lib.hid hex
  rw [hnk, hnb, hna, hnp]
  have y0 := hc 0 _ rfl
  have y1 := hc 1 _ rfl
  have y2 := hc 2 _ rfl
  have y3 := hc 3 _ rfl
  have y4 := hc 4 _ rfl
  have y5 := hc 5 _ rfl
  have y6 := hc 6 _ rfl
  have y7 := hc 7 _ rfl
  simp only [Nat.add_zero, Nat.zero_mul] at y0 y1 y2 y3 y4 y5 y6 y7
  have yl := World.block_lt_of_cell? _ _ y0
  clear h hp hp' hk hk2 hb hb2 ha ha2 hE hs hz hT hnk hex hz0 hE0 hc ecA
  have m1 : ¬ (m : Int) + 1 ≤ 0 := by omega
  have m2 : (0 : Int) < (m : Int) + 1 := by omega
  go_enter Tryz.func69, Tryz.ntmps69
  go_wp2_with fail
  refine (HA.out _ (by exact frA)).mono ?_
  rintro r w2 ⟨rfl, f2⟩
  have HF : Hid (Fr Nil w w2) := Lib.hid (Fr.comp (S := Nil) (by exact frA) f2)
  clear f2
  go_wp2
  go_ret
  exact ⟨rfl, HF.out⟩
theorem pname_any {w : World} {cs : List Value} {k : Nat} {nm : List UInt8} {fl : Bool} {bi : Nat} {ps : List (List UInt8)} {ks : List TE} {bs : List TB} {al : List TA} (h : EAt (fun _ => False) w cs (.mk k nm fl bi ps ks bs al)) :
 Calls Tryz.prog 30 #[.agg cs.toArray] w fun r w' => r = .returned (.string ⟨nm.toArray⟩) ∧ Fr Nil w w' := by
 obtain ⟨a0, c0, a1, c1, a2, c2, a3, c3, kc, bc, ac, rfl, hp, hk, hk2, hb, hb2, ha, ha2⟩ := h.opened
 obtain ⟨nk, hnk⟩ : ∃ nk, ks.length = nk := ⟨_, rfl⟩
 obtain ⟨nb, hnb⟩ : ∃ nb, bs.length = nb := ⟨_, rfl⟩
 obtain ⟨na, hna⟩ : ∃ na, al.length = na := ⟨_, rfl⟩
 obtain ⟨np, hnp⟩ : ∃ np, ps.length = np := ⟨_, rfl⟩
 rw [hnk] at hk
 rw [hnb] at hb
 rw [hna] at ha
 have hp' : RowS (fun _ => False) w (.slice a0 np c0) ps := by rw [← hnp]; exact hp
 have hk9 := hk.lenX
 have hb9 := hb.lenX
 have ha9 := ha.lenX
 rw [hnk, hnb, hna, hnp]
 clear h hp hp' hk hk2 hb hb2 ha ha2
 go_enter Tryz.func30, Tryz.ntmps30
 go_wp2
 go_ret
 exact ⟨rfl, by exact frA⟩
theorem pnumber_any {w : World} {cs : List Value} {k : Nat} {nm : List UInt8} {fl : Bool} {bi : Nat} {ps : List (List UInt8)} {ks : List TE} {bs : List TB} {al : List TA} (h : EAt (fun _ => False) w cs (.mk k nm fl bi ps ks bs al)) (hb64 : bi < 18446744073709551616) (hT : Tabs w) :
 Calls Tryz.prog 32 #[.agg cs.toArray] w fun r w' => r = .returned (.string ⟨(numT (prF fl bi)).toArray⟩) ∧ Fr Nil w w' := by
 obtain ⟨a0, c0, a1, c1, a2, c2, a3, c3, kc, bc, ac, rfl, hp, hk, hk2, hb, hb2, ha, ha2⟩ := h.opened
 obtain ⟨nk, hnk⟩ : ∃ nk, ks.length = nk := ⟨_, rfl⟩
 obtain ⟨nb, hnb⟩ : ∃ nb, bs.length = nb := ⟨_, rfl⟩
 obtain ⟨na, hna⟩ : ∃ na, al.length = na := ⟨_, rfl⟩
 obtain ⟨np, hnp⟩ : ∃ np, ps.length = np := ⟨_, rfl⟩
 rw [hnk] at hk
 rw [hnb] at hb
 rw [hna] at ha
 have hp' : RowS (fun _ => False) w (.slice a0 np c0) ps := by rw [← hnp]; exact hp
 have hk9 := hk.lenX
 have hb9 := hb.lenX
 have ha9 := ha.lenX
 rw [hnk, hnb, hna, hnp]
 have HN := Lib.hid (fun w' (f : Fr Nil w w') => pnum_any (w := w') fl bi hb64 (hT.fr f))
 clear h hp hp' hk hk2 hb hb2 ha ha2 hT hb64
 go_enter Tryz.func32, Tryz.ntmps32
 go_wp2_with fail
 refine (HN.out _ (by exact frA)).mono ?_
 rintro r w2 ⟨rfl, f2⟩
 have HF : Hid (Fr Nil w w2) := Lib.hid (Fr.comp (S := Nil) (by exact frA) f2)
 clear f2
 go_wp2
 go_ret
 exact ⟨rfl, HF.out⟩
theorem srcF {w2 w' : World} {A : Option Addr} {m size : Nat} {news : List Value} (h : Src w2 A m size news) (f : Fr Nil w2 w') : Src w' A m size news := by
 rcases h with h | ⟨ad, rfl, hl, hc⟩
 · exact .inl h
 · exact .inr ⟨ad, rfl, hl, fun j u hj => f.cell (hc j u hj) (fun q => q)⟩
theorem pcon_any {w : World} {cs : List Value} {k : Nat} {nm : List UInt8} {fl : Bool} {bi : Nat} {ps : List (List UInt8)} {ks : List TE} {bs : List TB} {al : List TA} (h : EAt (fun _ => False) w cs (.mk k nm fl bi ps ks bs al)) (hE : ∀ e ∈ ks, PsOk e) (hs : svK ks) (hz : zK ks ≤ 50000000) (hT : Tabs w) (hnl : nm.length ≤ 50000000) :
 Calls Tryz.prog 31 #[.agg cs.toArray] w fun r w' => r = .returned (.string ⟨(joinS (nm :: swK prF ks)).toArray⟩) ∧ Fr Nil w w' := by
 obtain ⟨i0, hi, hz0, hz1, hz2⟩ := info_parts infoS
 have hA := fun w' (f : Fr Nil w w') => psatoms_any (h.frN f) hE hs hz (hT.fr f)
 obtain ⟨a0, c0, a1, c1, a2, c2, a3, c3, kc, bc, ac, rfl, hp, hk, hk2, hb, hb2, ha, ha2⟩ := h.opened
 obtain ⟨nk, hnk⟩ : ∃ nk, ks.length = nk := ⟨_, rfl⟩
 obtain ⟨nb, hnb⟩ : ∃ nb, bs.length = nb := ⟨_, rfl⟩
 obtain ⟨na, hna⟩ : ∃ na, al.length = na := ⟨_, rfl⟩
 obtain ⟨np, hnp⟩ : ∃ np, ps.length = np := ⟨_, rfl⟩
 rw [hnk] at hk
 rw [hnb] at hb
 rw [hna] at ha
 have hp' : RowS (fun _ => False) w (.slice a0 np c0) ps := by rw [← hnp]; exact hp
 have hk9 := hk.lenX
 have hb9 := hb.lenX
 have ha9 := ha.lenX
 have hzl := swK_len prF prF_len ks
 obtain ⟨L, hL⟩ : ∃ L, swK prF ks = L := ⟨_, rfl⟩
 have hLn : L.length = nk := by rw [← hL, swK_length]; exact hnk
 simp only [hL, hnk, hnb, hna, hnp] at hA
 rw [hL] at hzl
 have hzL : lenS L ≤ 50000000 := by omega
 have hnk9 : nk ≤ 50000000 := by have := len_lenS L; omega
 rw [hL, hnk, hnb, hna, hnp]
 clear hzl hL
 obtain ⟨W1, hW1⟩ : ∃ W1, w.alloc (.cells #[.int .i64 (k : Int), .string ⟨nm.toArray⟩, .bool fl, .int .u64 (bi : Int), .slice a0 np c0, .slice a1 nk c1, .slice a2 nb c2, .slice a3 na c3] 84) = W1 := ⟨_, rfl⟩
 obtain ⟨T, hTs⟩ : ∃ T, w.heap.size = T := ⟨_, rfl⟩
 have f1 : Fr Nil w W1 := by rw [← hW1]; exact frA
 have b1 : Blk W1 T #[.int .i64 (k : Int), .string ⟨nm.toArray⟩, .bool fl, .int .u64 (bi : Int), .slice a0 np c0, .slice a1 nk c1, .slice a2 nb c2, .slice a3 na c3] 84 := by rw [← hW1, ← hTs]; exact Blk.new _ _ _
 have hsz1 : T < W1.heap.size := b1.lt
 have HK2 : Hid (∀ w', Fr Nil W1 w' → w'.cell? ⟨T, 0, none⟩ = some (.int .i64 (k : Int)) ∧ w'.cell? ⟨T, 1, none⟩ = some (.string ⟨nm.toArray⟩) ∧ w'.cell? ⟨T, 2, none⟩ = some (.bool fl) ∧ w'.cell? ⟨T, 3, none⟩ = some (.int .u64 (bi : Int)) ∧ w'.cell? ⟨T, 4, none⟩ = some (.slice a0 np c0) ∧ w'.cell? ⟨T, 5, none⟩ = some (.slice a1 nk c1) ∧ w'.cell? ⟨T, 6, none⟩ = some (.slice a2 nb c2) ∧ w'.cell? ⟨T, 7, none⟩ = some (.slice a3 na c3)) := Lib.hid (fun w' f => by
  have b := f.blk b1 (fun q => q)
  have z0 := b.cell 0
  have z1 := b.cell 1
  have z2 := b.cell 2
  have z3 := b.cell 3
  have z4 := b.cell 4
  have z5 := b.cell 5
  have z6 := b.cell 6
  have z7 := b.cell 7
  simp at z0 z1 z2 z3 z4 z5 z6 z7
  exact ⟨z0, z1, z2, z3, z4, z5, z6, z7⟩)
 obtain ⟨z0, z1, z2, z3, z4, z5, z6, z7⟩ := HK2.out W1 (Fr.refl _ _)
 have zl := b1.lt
 have HF1 := Lib.hid f1
 have hjn : ∀ (w' : World) (a : Option Addr) (c : Nat), RowS (fun _ => False) w' (.slice a (1 + nk) c) (nm :: L) → Calls Tryz.prog 66 #[.slice a (1 + nk) c] w' fun r w2 => r = .returned (.string ⟨(joinS (nm :: L)).toArray⟩) ∧ Fr Nil w' w2 := fun w' a c hr =>
  pjoin_any hr (by rw [List.length_cons, hLn]; omega) (by rw [lenS_cons]; omega)
 have HX := Lib.hid (And.intro (fun w' (f : Fr Nil W1 w') => hA w' (HF1.out.comp f)) (And.intro hjn hLn))
 clear hA hjn hLn hzL
 clear h hp hp' hk hk2 hb hb2 ha ha2 hE hs hz hT hnk hnb hna hnp f1 b1
 go_enter Tryz.func31, Tryz.ntmps31
 go_upto_region 1 with fail
 try rw [hTs]
 try rw [hW1]
 clear hW1 hTs
 go_region_held3 (fun w' => w'.cell? ⟨T, 0, none⟩ = some (.int .i64 (k : Int)) ∧ w'.cell? ⟨T, 1, none⟩ = some (.string ⟨nm.toArray⟩) ∧ w'.cell? ⟨T, 2, none⟩ = some (.bool fl) ∧ w'.cell? ⟨T, 3, none⟩ = some (.int .u64 (bi : Int)) ∧ w'.cell? ⟨T, 4, none⟩ = some (.slice a0 np c0) ∧ w'.cell? ⟨T, 5, none⟩ = some (.slice a1 nk c1) ∧ w'.cell? ⟨T, 6, none⟩ = some (.slice a2 nb c2) ∧ w'.cell? ⟨T, 7, none⟩ = some (.slice a3 na c3)) (with_reducible refine HK2.out _ ?_; (first | assumption | exact HG7.out | exact HR.out.2 | exact HO.out.2 | (refine HG7.out.comp ?_; (exact frA); done) | (refine HR.out.2.comp ?_; (exact frA); done) | (refine HO.out.2.comp ?_; (exact frA); done) | exact frA)) (first
  | (go_at_call 67; refine pre_call (b := W1.heap.size) (cs := #[.string ⟨nm.toArray⟩]) (t := 9) ?_ ?_; (focus ((unfold Blk; simp (disch := first | omega | (simp; done) | (simp; omega)) only [hp_drew, hp_drewN, hp_alloc, hp_other, hp_same, hp_new, upd_cells, Option.map_some]); done)); intro p1; refine (HX.out.1 _ (by first | assumption | exact frA)).mono ?_; rintro r w2 ⟨v2, rfl, ho2, f2⟩; have g2 : Fr Nil W1 w2 := Fr.comp (S := Nil) (by first | assumption | exact frA) f2; have HB := Lib.hid (f2.blk p1 (fun q => q)); obtain ⟨va, vc, rfl, hs2⟩ := owns_src ho2; have HO := Lib.hid (And.intro hs2 g2); have s2 := g2.size; clear f2 g2 hs2 ho2 p1)
  | (go_at_call 67; refine (HX.out.1 _ (by first | assumption | exact frA)).mono ?_; rintro r w2 ⟨v2, rfl, ho2, f2⟩; have g2 : Fr Nil W1 w2 := Fr.comp (S := Nil) (by first | assumption | exact frA) f2; obtain ⟨va, vc, rfl, hs2⟩ := owns_src ho2; have HO := Lib.hid (And.intro hs2 g2); have s2 := g2.size; clear f2 g2 hs2 ho2)
  | (refine is_app (.tmp 6) (.tmp 8) 45 rfl ?_; refine pre_blk (b := w2.heap.size) (cs := #[.string ⟨nm.toArray⟩]) (t := 9) ?_ ?_; (focus ((unfold Blk; simp (disch := first | omega | (simp; done) | (simp; omega)) only [hp_drew, hp_drewN, hp_alloc, hp_other, hp_same, hp_new, upd_cells, Option.map_some]); done)); intro p1; refine step_append_src rfl (.tmp 6) (.tmp 8) 45 rfl T 9 i0 (.string ⟨#[]⟩) 1 16 Tryz.underlying45 hi hz0 hz1 hz2 rfl (by decide) (.slice (some ⟨w2.heap.size, 0, none⟩) 1 1) 1 [.string ⟨nm.toArray⟩] (by simp [Act.eval, Act.put]) (owns_one p1 (by omega)) (va) (nk) vc (strC L) (by simp [Act.eval, Act.put]) (srcF (w2 := w2) HO.out.1 (by exact frA)) (strC_one L) (by unfold maxLen; omega) (by omega) (by first | omega | (simp; omega)) ?_; intro u1 w6 hown g6 hk6; have f6 : Fr Nil W1 w6 := Fr.grown (S := Nil) (by first | exact HO.out.2 | exact HO.out.2.comp (by exact frA)) g6 (fun k q hk => by have e : some (w2.heap.size) = some k := q; injection e with e; omega); obtain ⟨ya, yc, rfl⟩ := owns_shape hown; have HR := Lib.hid (And.intro (owns_rowS (l := nm :: L) hown (by rw [List.length_cons, HX.out.2.2]; omega)) f6); clear hown g6 hk6 f6 p1)
  | (refine is_app (.tmp 6) (.tmp 8) 45 rfl ?_; refine pre_blk (b := W1.heap.size) (cs := #[.string ⟨nm.toArray⟩]) (t := 9) ?_ ?_; (focus (refine Fr.blk (S := Nil) ?_ (HB.out) (fun q => q); (exact frA); done)); intro p1; refine step_append_src rfl (.tmp 6) (.tmp 8) 45 rfl T 9 i0 (.string ⟨#[]⟩) 1 16 Tryz.underlying45 hi hz0 hz1 hz2 rfl (by decide) (.slice (some ⟨W1.heap.size, 0, none⟩) 1 1) 1 [.string ⟨nm.toArray⟩] (by simp [Act.eval, Act.put]) (owns_one p1 (by omega)) (va) (nk) vc (strC L) (by simp [Act.eval, Act.put]) (srcF (w2 := w2) HO.out.1 (by exact frA)) (strC_one L) (by unfold maxLen; omega) (by omega) (by first | omega | (simp; omega)) ?_; intro u1 w6 hown g6 hk6; have f6 : Fr Nil W1 w6 := Fr.grown (S := Nil) (by first | exact HO.out.2 | exact HO.out.2.comp (by exact frA)) g6 (fun k q hk => by have e : some (W1.heap.size) = some k := q; injection e with e; omega); obtain ⟨ya, yc, rfl⟩ := owns_shape hown; have HR := Lib.hid (And.intro (owns_rowS (l := nm :: L) hown (by rw [List.length_cons, HX.out.2.2]; omega)) f6); clear hown g6 hk6 f6 p1)
  | (go_at_call 66; refine (HX.out.2.1 _ _ _ (HR.out.1.frN (by first | assumption | exact frA))).mono ?_; rintro r w7 ⟨rfl, f7⟩; have g7 : Fr Nil W1 w7 := HR.out.2.comp (Fr.comp (S := Nil) (by exact frA) f7); have HG7 := Lib.hid g7; clear f7 g7))
 all_goals
  go_wp2
  go_ret
  exact ⟨rfl, HF1.out.comp (by first | assumption | exact HG7.out | (refine HG7.out.comp ?_; (exact frA); done))⟩
theorem owns_blk {w : World} {base size n g cap : Nat} {e : TypeId} {xs : List Value} (h : w.ownsRow base e size (.slice (some ⟨g, 0, none⟩) n cap) n xs) (hn : 0 < n) : ∃ cur, Blk w g cur e := by
 rcases h.2 with ⟨e, h0⟩ | ⟨g', cap', cur, e, hg, hb, _⟩
 · omega
 · cases e
   exact ⟨cur, hb⟩
theorem papp_any {w : World} {cs : List Value} {k : Nat} {nm : List UInt8} {fl : Bool} {bi : Nat} {ps : List (List UInt8)} {ks : List TE} {bs : List TB} {al : List TA} (h : EAt (fun _ => False) w cs (.mk k nm fl bi ps ks bs al)) (hE : ∀ e ∈ ks, PsOk e) (hs : svK ks) (hz : zK ks ≤ 50000000) (hT : Tabs w) (h1 : ks ≠ []) :
 Calls Tryz.prog 33 #[.agg cs.toArray] w fun r w' => r = .returned (.string ⟨(joinS (headF ks (swK prF ks))).toArray⟩) ∧ Fr Nil w w' := by
 have hA := fun w' (f : Fr Nil w w') => psatoms_any (h.frN f) hE hs hz (hT.fr f)
 obtain ⟨a0, c0, a1, c1, a2, c2, a3, c3, kc, bc, ac, rfl, hp, hk, hk2, hb, hb2, ha, ha2⟩ := h.opened
 obtain ⟨nk, hnk⟩ : ∃ nk, ks.length = nk := ⟨_, rfl⟩
 obtain ⟨nb, hnb⟩ : ∃ nb, bs.length = nb := ⟨_, rfl⟩
 obtain ⟨na, hna⟩ : ∃ na, al.length = na := ⟨_, rfl⟩
 obtain ⟨np, hnp⟩ : ∃ np, ps.length = np := ⟨_, rfl⟩
 rw [hnk] at hk
 rw [hnb] at hb
 rw [hna] at ha
 have hp' : RowS (fun _ => False) w (.slice a0 np c0) ps := by rw [← hnp]; exact hp
 have hk9 := hk.lenX
 have hb9 := hb.lenX
 have ha9 := ha.lenX
 obtain ⟨e0, l, rfl⟩ : ∃ e0 l, ks = e0 :: l := by
  match ks, h1 with
  | e :: l, _ => exact ⟨e, l, rfl⟩
 obtain ⟨m, hm⟩ : ∃ m, l.length = m := ⟨_, rfl⟩
 have hnk1 : nk = m + 1 := by rw [← hnk, ← hm]; rfl
 subst hnk1
 have hE0 : EAt (fun _ => False) w (kc 0) e0 := hk2 0 (by simp)
 obtain ⟨k0, m0, g0, i0, ps0, ks0, bs0, al0⟩ := e0
 obtain ⟨p0, q0, p1, q1, p2, q2, p3, q3, kc0, bc0, ac0, ec0, _, hkk0, _, _, _, _, _⟩ := hE0.opened
 obtain ⟨np0, hnp0⟩ : ∃ n, ps0.length = n := ⟨_, rfl⟩
 obtain ⟨nk0, hnk0⟩ : ∃ n, ks0.length = n := ⟨_, rfl⟩
 obtain ⟨nb0, hnb0⟩ : ∃ n, bs0.length = n := ⟨_, rfl⟩
 obtain ⟨na0, hna0⟩ : ∃ n, al0.length = n := ⟨_, rfl⟩
 rw [hnp0, hnk0, hnb0, hna0] at ec0
 have hk09 : nk0 ≤ 9223372036854775807 := by rw [← hnk0]; exact hkk0.lenX
 obtain ⟨b, off, e', _, hc0⟩ := hk.at (i := 0) (by omega)
 subst e'
 rw [ec0] at hc0
 have hzl := swK_len prF prF_len (.mk k0 m0 g0 i0 ps0 ks0 bs0 al0 :: l)
 have hsl := swK_length (.mk k0 m0 g0 i0 ps0 ks0 bs0 al0 :: l)
 rw [swK] at hzl hsl
 simp only [swK] at hA
 obtain ⟨t, ht⟩ : ∃ t, atomT (.mk k0 m0 g0 i0 ps0 ks0 bs0 al0) (swE prF (.mk k0 m0 g0 i0 ps0 ks0 bs0 al0)) = t := ⟨_, rfl⟩
 obtain ⟨L, hL⟩ : ∃ L, swK prF l = L := ⟨_, rfl⟩
 rw [ht, hL] at hzl hsl
 simp only [ht, hL] at hA
 rw [lenS_cons] at hzl
 have hLn : L.length = m := by rw [List.length_cons, List.length_cons, hm] at hsl; omega
 obtain ⟨x, hx⟩ : ∃ x, (if (decide (nk0 = 0) && (decide (k0 = 2) || decide (k0 = 5))) = true then parF t else t) = x := ⟨_, rfl⟩
 have hR : joinS (headF (.mk k0 m0 g0 i0 ps0 ks0 bs0 al0 :: l) (swK prF (.mk k0 m0 g0 i0 ps0 ks0 bs0 al0 :: l))) = joinS (x :: L) := by
  rw [swK, ht, hL, ← hx]
  have e : ks0.isEmpty = decide (nk0 = 0) := by
   cases ks0 with
   | nil => rw [← hnk0]; rfl
   | cons x l => rw [← hnk0]; simp
  show joinS ((if (ks0.isEmpty && (decide (k0 = 2) || decide (k0 = 5))) = true then parF t else t) :: L) = _
  rw [e]
 have hxl : x.length ≤ t.length + 2 := by
  rw [← hx]
  split
  · simp [parF]
  · omega
 have htl : t.length ≤ 50000000 := by omega
 have hLl : lenS L ≤ 50000000 := by omega
 have hm9 : m ≤ 50000000 := by have := len_lenS L; omega
 rw [hR, hnk, hnb, hna, hnp]
 simp only [hnk, hnb, hna, hnp] at hA
 have hjn : ∀ (w' : World) (a : Option Addr) (c : Nat), RowS (fun _ => False) w' (.slice a (m + 1) c) (x :: L) → Calls Tryz.prog 66 #[.slice a (m + 1) c] w' fun r w2 => r = .returned (.string ⟨(joinS (x :: L)).toArray⟩) ∧ Fr Nil w' w2 := fun w' a c hr =>
  pjoin_any hr (by rw [List.length_cons, hLn]) (by rw [lenS_cons]; omega)
 obtain ⟨W1, hW1⟩ : ∃ W1, w.alloc (.cells #[.int .i64 (k : Int), .string ⟨nm.toArray⟩, .bool fl, .int .u64 (bi : Int), .slice a0 np c0, .slice (some ⟨b, off, none⟩) (m + 1) c1, .slice a2 nb c2, .slice a3 na c3] 84) = W1 := ⟨_, rfl⟩
 obtain ⟨T, hTs⟩ : ∃ T, w.heap.size = T := ⟨_, rfl⟩
 have f1 : Fr Nil w W1 := by rw [← hW1]; exact frA
 have b1 : Blk W1 T #[.int .i64 (k : Int), .string ⟨nm.toArray⟩, .bool fl, .int .u64 (bi : Int), .slice a0 np c0, .slice (some ⟨b, off, none⟩) (m + 1) c1, .slice a2 nb c2, .slice a3 na c3] 84 := by rw [← hW1, ← hTs]; exact Blk.new _ _ _
 have hsz1 : T < W1.heap.size := b1.lt
 have HK2 : Hid (∀ w', Fr Nil W1 w' → w'.cell? ⟨T, 0, none⟩ = some (.int .i64 (k : Int)) ∧ w'.cell? ⟨T, 1, none⟩ = some (.string ⟨nm.toArray⟩) ∧ w'.cell? ⟨T, 2, none⟩ = some (.bool fl) ∧ w'.cell? ⟨T, 3, none⟩ = some (.int .u64 (bi : Int)) ∧ w'.cell? ⟨T, 4, none⟩ = some (.slice a0 np c0) ∧ w'.cell? ⟨T, 5, none⟩ = some (.slice (some ⟨b, off, none⟩) (m + 1) c1) ∧ w'.cell? ⟨T, 6, none⟩ = some (.slice a2 nb c2) ∧ w'.cell? ⟨T, 7, none⟩ = some (.slice a3 na c3)) := Lib.hid (fun w' f => by
  have b := f.blk b1 (fun q => q)
  have z0 := b.cell 0
  have z1 := b.cell 1
  have z2 := b.cell 2
  have z3 := b.cell 3
  have z4 := b.cell 4
  have z5 := b.cell 5
  have z6 := b.cell 6
  have z7 := b.cell 7
  simp at z0 z1 z2 z3 z4 z5 z6 z7
  exact ⟨z0, z1, z2, z3, z4, z5, z6, z7⟩)
 obtain ⟨z0, z1, z2, z3, z4, z5, z6, z7⟩ := HK2.out W1 (Fr.refl _ _)
 have zl := b1.lt
 have HF1 := Lib.hid f1
 have HC0 : Hid (∀ w', Fr Nil W1 w' → w'.cell? ⟨b, off, none⟩ = some (.int .i64 (k0 : Int)) ∧ w'.cell? ⟨b, off + 1, none⟩ = some (.string ⟨m0.toArray⟩) ∧ w'.cell? ⟨b, off + 2, none⟩ = some (.bool g0) ∧ w'.cell? ⟨b, off + 3, none⟩ = some (.int .u64 (i0 : Int)) ∧ w'.cell? ⟨b, off + 4, none⟩ = some (.slice p0 np0 q0) ∧ w'.cell? ⟨b, off + 5, none⟩ = some (.slice p1 nk0 q1) ∧ w'.cell? ⟨b, off + 6, none⟩ = some (.slice p2 nb0 q2) ∧ w'.cell? ⟨b, off + 7, none⟩ = some (.slice p3 na0 q3)) := Lib.hid (fun w' f => ⟨by have h := (f1.comp f).cell (hc0 0 _ rfl) (fun q => q); simpa using h, by have h := (f1.comp f).cell (hc0 1 _ rfl) (fun q => q); simpa using h, by have h := (f1.comp f).cell (hc0 2 _ rfl) (fun q => q); simpa using h, by have h := (f1.comp f).cell (hc0 3 _ rfl) (fun q => q); simpa using h, by have h := (f1.comp f).cell (hc0 4 _ rfl) (fun q => q); simpa using h, by have h := (f1.comp f).cell (hc0 5 _ rfl) (fun q => q); simpa using h, by have h := (f1.comp f).cell (hc0 6 _ rfl) (fun q => q); simpa using h, by have h := (f1.comp f).cell (hc0 7 _ rfl) (fun q => q); simpa using h⟩)
 have HX := Lib.hid (And.intro (fun w' (f : Fr Nil W1 w') => hA w' (HF1.out.comp f)) (And.intro hjn (And.intro hLn hx)))
 clear hA hjn hLn hx hR hzl hsl ht hL hxl hm hE0 ec0 hkk0 hnp0 hnk0 hnb0 hna0 hc0 hLl
 clear h h1 hp hp' hk hk2 hb hb2 ha ha2 hE hs hz hT hnk hnb hna hnp f1 b1
 go_enter Tryz.func33, Tryz.ntmps33
 go_wp2_with fail
 try rw [hTs]
 try rw [hW1]
 clear hW1 hTs
 refine (HX.out.1 _ (Fr.refl _ _)).mono ?_
 rintro r w2 ⟨v2, rfl, ho2, f2⟩
 obtain ⟨g, cap, rfl⟩ := Joins.ownsRow_form ho2 (by omega)
 clear z0 z1 z2 z3 z4 z5 z6 z7 zl
 obtain ⟨z0, z1, z2, z3, z4, z5, z6, z7⟩ := HK2.out w2 f2
 obtain ⟨y0, y1, y2, y3, y4, y5, y6, y7⟩ := HC0.out w2 f2
 have yl := World.block_lt_of_cell? _ _ y0
 have zl := World.block_lt_of_cell? _ _ z0
 obtain ⟨T2, hT2⟩ : ∃ T2, w2.heap.size = T2 := ⟨_, rfl⟩
 obtain ⟨W3, hW3⟩ : ∃ W, w2.alloc (.cells #[.int .i64 (k0 : Int), .string ⟨m0.toArray⟩, .bool g0, .int .u64 (i0 : Int), .slice p0 np0 q0, .slice p1 nk0 q1, .slice p2 nb0 q2, .slice p3 na0 q3] 49) = W := ⟨_, rfl⟩
 have f3 : Fr Nil w2 W3 := by rw [← hW3]; exact frA
 have b3 : Blk W3 T2 #[.int .i64 (k0 : Int), .string ⟨m0.toArray⟩, .bool g0, .int .u64 (i0 : Int), .slice p0 np0 q0, .slice p1 nk0 q1, .slice p2 nb0 q2, .slice p3 na0 q3] 49 := by rw [← hW3, ← hT2]; exact Blk.new _ _ _
 have ho3 := owns_fr ho2 f3
 obtain ⟨cur, hg3⟩ := owns_blk ho3 (by omega)
 have gc := ho3.cellAt 0 (by omega)
 have hgT := (ho3.lt g rfl).1
 have H3 := Lib.hid (And.intro (f2.comp f3) ho3)
 have gl := hg3.lt
 have gf := hg3.free
 have m1 : (0 : Int) < (m : Int) + 1 := by omega
 simp only [strC, List.map_cons, List.getElem?_cons_zero] at gc
 go_upto_region 3 with fail
 try rw [hT2]
 try rw [hW3]
 clear hT2 hW3 f2 f3 ho2 ho3 z0 z1 z2 z3 z4 z5 z6 z7 zl y0 y1 y2 y3 y4 y5 y6 y7 yl hg3
 have v0 := b3.cell 0
 have v1 := b3.cell 1
 have v2 := b3.cell 2
 have v3 := b3.cell 3
 have v4 := b3.cell 4
 have v5 := b3.cell 5
 have v6 := b3.cell 6
 have v7 := b3.cell 7
 simp at v0 v1 v2 v3 v4 v5 v6 v7
 have vl := b3.lt
 clear b3
 by_cases k2 : k0 = 2
 · subst k2
   by_cases n0 : nk0 = 0
   · subst n0
     have ex : x = parF t := by rw [← HX.out.2.2.2]; rfl
     obtain ⟨S1, hS1⟩ : ∃ x, [40] ++ t = x := ⟨_, rfl⟩
     have l1 : S1.length = t.length + 1 := by rw [← hS1]; simp
     have e2 : S1 ++ [41] = x := by rw [ex, ← hS1]; rfl
     have sa1 : ∀ w, (Op.stringOp .add ⟨#[40]⟩ ⟨t.toArray⟩).run Tryz.prog w = .ok (.string ⟨S1.toArray⟩) w := fun w => by rw [← hS1]; exact sadd [40] t (by simp; omega) w
     have sa2 : ∀ w, (Op.stringOp .add ⟨S1.toArray⟩ ⟨#[41]⟩).run Tryz.prog w = .ok (.string ⟨x.toArray⟩) w := fun w => by rw [← e2]; exact sadd S1 [41] (by simp; omega) w
     clear hS1 l1 e2 ex
     go_wp2_with fail
     have ho4 := (H3.out.2.stored 0 (.string ⟨x.toArray⟩)).1
     have f4 : Fr (fun q => q = g) W3 (W3.setCell ⟨g, 0, none⟩ (.string ⟨x.toArray⟩)) := Fr.set (S := fun q => q = g) (Fr.refl _ _) _ _ (fun _ => rfl)
     have F4 : Fr Nil W1 (W3.setCell ⟨g, 0, none⟩ (.string ⟨x.toArray⟩)) := H3.out.1.trans f4 (fun q hq e => by have e' : q = g := e; omega)
     refine (HX.out.2.1 _ _ _ (owns_rowS (l := x :: L) ho4 (by rw [List.length_cons, HX.out.2.2.1]))).mono ?_
     rintro r w5 ⟨rfl, f5⟩
     have HF : Hid (Fr Nil w w5) := Lib.hid (HF1.out.comp (F4.comp f5))
     clear f5 F4 f4 ho4
     go_wp2
     go_ret
     exact ⟨rfl, HF.out⟩
   · have d0 : ((nk0 : Int) == 0) = false := by rw [beq_eq_false_iff_ne]; omega
     have g0 : ¬ (nk0 : Int) = 0 := by omega
     have ex : t = x := by rw [← HX.out.2.2.2]; rw [show decide (nk0 = 0) = false from decide_eq_false n0]; rfl
     go_wp2_with fail
     refine (HX.out.2.1 _ _ _ (owns_rowS (l := x :: L) (by rw [← ex]; exact H3.out.2) (by rw [List.length_cons, HX.out.2.2.1]))).mono ?_
     rintro r w5 ⟨rfl, f5⟩
     have HF : Hid (Fr Nil w w5) := Lib.hid (HF1.out.comp (H3.out.1.comp f5))
     clear f5
     go_wp2
     go_ret
     exact ⟨rfl, HF.out⟩
 by_cases k5 : k0 = 5
 · subst k5
   by_cases n0 : nk0 = 0
   · subst n0
     have ex : x = parF t := by rw [← HX.out.2.2.2]; rfl
     obtain ⟨S1, hS1⟩ : ∃ x, [40] ++ t = x := ⟨_, rfl⟩
     have l1 : S1.length = t.length + 1 := by rw [← hS1]; simp
     have e2 : S1 ++ [41] = x := by rw [ex, ← hS1]; rfl
     have sa1 : ∀ w, (Op.stringOp .add ⟨#[40]⟩ ⟨t.toArray⟩).run Tryz.prog w = .ok (.string ⟨S1.toArray⟩) w := fun w => by rw [← hS1]; exact sadd [40] t (by simp; omega) w
     have sa2 : ∀ w, (Op.stringOp .add ⟨S1.toArray⟩ ⟨#[41]⟩).run Tryz.prog w = .ok (.string ⟨x.toArray⟩) w := fun w => by rw [← e2]; exact sadd S1 [41] (by simp; omega) w
     clear hS1 l1 e2 ex
     go_wp2_with fail
     have ho4 := (H3.out.2.stored 0 (.string ⟨x.toArray⟩)).1
     have f4 : Fr (fun q => q = g) W3 (W3.setCell ⟨g, 0, none⟩ (.string ⟨x.toArray⟩)) := Fr.set (S := fun q => q = g) (Fr.refl _ _) _ _ (fun _ => rfl)
     have F4 : Fr Nil W1 (W3.setCell ⟨g, 0, none⟩ (.string ⟨x.toArray⟩)) := H3.out.1.trans f4 (fun q hq e => by have e' : q = g := e; omega)
     refine (HX.out.2.1 _ _ _ (owns_rowS (l := x :: L) ho4 (by rw [List.length_cons, HX.out.2.2.1]))).mono ?_
     rintro r w5 ⟨rfl, f5⟩
     have HF : Hid (Fr Nil w w5) := Lib.hid (HF1.out.comp (F4.comp f5))
     clear f5 F4 f4 ho4
     go_wp2
     go_ret
     exact ⟨rfl, HF.out⟩
   · have d0 : ((nk0 : Int) == 0) = false := by rw [beq_eq_false_iff_ne]; omega
     have g0 : ¬ (nk0 : Int) = 0 := by omega
     have ex : t = x := by rw [← HX.out.2.2.2]; rw [show decide (nk0 = 0) = false from decide_eq_false n0]; rfl
     go_wp2_with fail
     refine (HX.out.2.1 _ _ _ (owns_rowS (l := x :: L) (by rw [← ex]; exact H3.out.2) (by rw [List.length_cons, HX.out.2.2.1]))).mono ?_
     rintro r w5 ⟨rfl, f5⟩
     have HF : Hid (Fr Nil w w5) := Lib.hid (HF1.out.comp (H3.out.1.comp f5))
     clear f5
     go_wp2
     go_ret
     exact ⟨rfl, HF.out⟩
 have d2 : ((k0 : Int) == 2) = false := by rw [beq_eq_false_iff_ne]; omega
 have d5 : ((k0 : Int) == 5) = false := by rw [beq_eq_false_iff_ne]; omega
 have g2 : ¬ (k0 : Int) = 2 := by omega
 have g5 : ¬ (k0 : Int) = 5 := by omega
 by_cases n0 : nk0 = 0
 · subst n0
   have ex : t = x := by rw [← HX.out.2.2.2]; rw [show decide (k0 = 2) = false from decide_eq_false k2, show decide (k0 = 5) = false from decide_eq_false k5, Bool.or_false, Bool.and_false]; rfl
   go_wp2_with fail
   refine (HX.out.2.1 _ _ _ (owns_rowS (l := x :: L) (by rw [← ex]; exact H3.out.2) (by rw [List.length_cons, HX.out.2.2.1]))).mono ?_
   rintro r w5 ⟨rfl, f5⟩
   have HF : Hid (Fr Nil w w5) := Lib.hid (HF1.out.comp (H3.out.1.comp f5))
   clear f5
   go_wp2
   go_ret
   exact ⟨rfl, HF.out⟩
 · have d0 : ((nk0 : Int) == 0) = false := by rw [beq_eq_false_iff_ne]; omega
   have g0 : ¬ (nk0 : Int) = 0 := by omega
   have ex : t = x := by rw [← HX.out.2.2.2]; rw [show decide (k0 = 2) = false from decide_eq_false k2, show decide (k0 = 5) = false from decide_eq_false k5, Bool.or_false, Bool.and_false]; rfl
   go_wp2_with fail
   refine (HX.out.2.1 _ _ _ (owns_rowS (l := x :: L) (by rw [← ex]; exact H3.out.2) (by rw [List.length_cons, HX.out.2.2.1]))).mono ?_
   rintro r w5 ⟨rfl, f5⟩
   have HF : Hid (Fr Nil w w5) := Lib.hid (HF1.out.comp (H3.out.1.comp f5))
   clear f5
   go_wp2
   go_ret
   exact ⟨rfl, HF.out⟩
theorem pop_any {w : World} {cs : List Value} {k : Nat} {ch : UInt8} {rest : List UInt8} {fl : Bool} {bi : Nat} {ps : List (List UInt8)} {ks : List TE} {bs : List TB} {al : List TA} (h : EAt (fun _ => False) w cs (.mk k (ch :: rest) fl bi ps ks bs al)) (hE : ∀ e ∈ ks, PsOk e) (hs : svK ks) (hz : zK ks ≤ 50000000) (hT : Tabs w) (hnl : (ch :: rest).length ≤ 50000000) (hop : lowF (ch :: rest) = true ∨ ks.length = 2) :
 Calls Tryz.prog 34 #[.agg cs.toArray] w fun r w' => r = .returned (.string ⟨(if lowF (ch :: rest) = true ∨ ks.length ≠ 2 then joinS ((ch :: rest) :: swK prF ks) else joinS [(swK prF ks).headD [], (ch :: rest), ((swK prF ks).drop 1).headD []]).toArray⟩) ∧ Fr Nil w w' := by
 have hA := fun w' (f : Fr Nil w w') => psatoms_any (h.frN f) hE hs hz (hT.fr f)
 have hcon := fun w' (f : Fr Nil w w') => pcon_any (h.frN f) hE hs hz (hT.fr f) hnl
 obtain ⟨a0, c0, a1, c1, a2, c2, a3, c3, kc, bc, ac, rfl, hp, hk, hk2, hb, hb2, ha, ha2⟩ := h.opened
 obtain ⟨nk, hnk⟩ : ∃ nk, ks.length = nk := ⟨_, rfl⟩
 obtain ⟨nb, hnb⟩ : ∃ nb, bs.length = nb := ⟨_, rfl⟩
 obtain ⟨na, hna⟩ : ∃ na, al.length = na := ⟨_, rfl⟩
 obtain ⟨np, hnp⟩ : ∃ np, ps.length = np := ⟨_, rfl⟩
 rw [hnk] at hk
 rw [hnb] at hb
 rw [hna] at ha
 have hp' : RowS (fun _ => False) w (.slice a0 np c0) ps := by rw [← hnp]; exact hp
 have hk9 := hk.lenX
 have hb9 := hb.lenX
 have ha9 := ha.lenX
 have hzl := swK_len prF prF_len ks
 obtain ⟨L, hL⟩ : ∃ L, swK prF ks = L := ⟨_, rfl⟩
 have hLn : L.length = nk := by rw [← hL, swK_length]; exact hnk
 simp only [hL, hnk, hnb, hna, hnp] at hA
 rw [hL] at hzl
 have hzL : lenS L ≤ 50000000 := by omega
 have hnk9 : nk ≤ 50000000 := by have := len_lenS L; omega
 rw [hL] at hcon ⊢
 simp only [hnk, hnb, hna, hnp] at hcon
 rw [hnk] at hop
 rw [hnk, hnb, hna, hnp]
 obtain ⟨r2, hr2⟩ : ∃ x, rest ++ [32] = x := ⟨_, rfl⟩
 have sa0 : ∀ w, (Op.stringOp .add ⟨(ch :: rest).toArray⟩ ⟨#[32]⟩).run Tryz.prog w = .ok (.string ⟨(ch :: r2).toArray⟩) w := fun w => by rw [← hr2]; exact sadd (ch :: rest) [32] (by simp at hnl ⊢; omega) w
 have hix : ∀ h, (⟨(ch :: r2).toArray⟩ : ByteArray)[0]'h = ch := fun _ => rfl
 have hcu := ch.toNat_lt
 obtain ⟨W1, hW1⟩ : ∃ W1, w.alloc (.cells #[.int .i64 (k : Int), .string ⟨(ch :: rest).toArray⟩, .bool fl, .int .u64 (bi : Int), .slice a0 np c0, .slice a1 nk c1, .slice a2 nb c2, .slice a3 na c3] 84) = W1 := ⟨_, rfl⟩
 obtain ⟨T, hTs⟩ : ∃ T, w.heap.size = T := ⟨_, rfl⟩
 have f1 : Fr Nil w W1 := by rw [← hW1]; exact frA
 have b1 : Blk W1 T #[.int .i64 (k : Int), .string ⟨(ch :: rest).toArray⟩, .bool fl, .int .u64 (bi : Int), .slice a0 np c0, .slice a1 nk c1, .slice a2 nb c2, .slice a3 na c3] 84 := by rw [← hW1, ← hTs]; exact Blk.new _ _ _
 have hsz1 : T < W1.heap.size := b1.lt
 have HK2 : Hid (∀ w', Fr Nil W1 w' → w'.cell? ⟨T, 0, none⟩ = some (.int .i64 (k : Int)) ∧ w'.cell? ⟨T, 1, none⟩ = some (.string ⟨(ch :: rest).toArray⟩) ∧ w'.cell? ⟨T, 2, none⟩ = some (.bool fl) ∧ w'.cell? ⟨T, 3, none⟩ = some (.int .u64 (bi : Int)) ∧ w'.cell? ⟨T, 4, none⟩ = some (.slice a0 np c0) ∧ w'.cell? ⟨T, 5, none⟩ = some (.slice a1 nk c1) ∧ w'.cell? ⟨T, 6, none⟩ = some (.slice a2 nb c2) ∧ w'.cell? ⟨T, 7, none⟩ = some (.slice a3 na c3)) := Lib.hid (fun w' f => by
  have b := f.blk b1 (fun q => q)
  have z0 := b.cell 0
  have z1 := b.cell 1
  have z2 := b.cell 2
  have z3 := b.cell 3
  have z4 := b.cell 4
  have z5 := b.cell 5
  have z6 := b.cell 6
  have z7 := b.cell 7
  simp at z0 z1 z2 z3 z4 z5 z6 z7
  exact ⟨z0, z1, z2, z3, z4, z5, z6, z7⟩)
 obtain ⟨z0, z1, z2, z3, z4, z5, z6, z7⟩ := HK2.out W1 (Fr.refl _ _)
 have zl := b1.lt
 have HF1 := Lib.hid f1
 have HX := Lib.hid (And.intro (fun w' (f : Fr Nil W1 w') => hA w' (HF1.out.comp f)) (And.intro (fun w' (f : Fr Nil W1 w') => hcon w' (HF1.out.comp f)) hLn))
 clear hA hcon hLn hL hzl hr2 hcu
 clear h hp hp' hk hk2 hb hb2 ha ha2 hE hs hz hT hnk hnb hna hnp f1 b1
 by_cases hl : lowF (ch :: rest) = true
 · rw [if_pos (.inl hl)]
   have q2 : 97 ≤ ch.toNat ∧ ch.toNat ≤ 122 := by simpa [lowF] using hl
   have q0 : (97 : Int) ≤ (ch.toNat : Int) := by omega
   have q1 : (ch.toNat : Int) ≤ 122 := by omega
   clear hl q2 hop
   go_enter Tryz.func34, Tryz.ntmps34
   go_wp2_with fail
   try rw [hTs]
   try rw [hW1]
   refine (HX.out.2.1 _ (Fr.refl _ _)).mono ?_
   rintro r w2 ⟨rfl, f2⟩
   have HF : Hid (Fr Nil w w2) := Lib.hid (HF1.out.comp f2)
   clear f2
   go_wp2
   go_ret
   exact ⟨rfl, HF.out⟩
 · have hk2 := hop.resolve_left hl
   subst hk2
   rw [if_neg (fun z => z.elim hl (fun z => z rfl))]
   obtain ⟨x, y, hxy⟩ : ∃ x y, L = [x, y] := by
    have h1 := HX.out.2.2
    match L, h1 with
    | [x, y], _ => exact ⟨x, y, rfl⟩
   subst hxy
   have hxl : x.length ≤ 50000000 := by rw [lenS_cons] at hzL; omega
   have hyl : y.length ≤ 50000000 := by rw [lenS_cons, lenS_cons] at hzL; omega
   have hq : ¬ (97 : Int) ≤ (ch.toNat : Int) ∨ ((97 : Int) ≤ (ch.toNat : Int) ∧ ¬ (ch.toNat : Int) ≤ 122) := by
    have h2 : ¬ (97 ≤ ch.toNat ∧ ch.toNat ≤ 122) := fun z => hl (by simp [lowF, z.1, z.2])
    omega
   have hjn : ∀ (w' : World), RowS (fun _ => False) w' (.slice (some ⟨w'.heap.size, 0, none⟩) 3 3) [x, ch :: rest, y] → True := fun _ _ => trivial
   clear hjn
   show Calls _ _ _ _ fun r w' => r = .returned (.string ⟨(joinS [x, ch :: rest, y]).toArray⟩) ∧ Fr Nil w w'
   have hjn : ∀ (w' : World) (b : Nat), Blk w' b #[.string ⟨x.toArray⟩, .string ⟨(ch :: rest).toArray⟩, .string ⟨y.toArray⟩] 9 → Calls Tryz.prog 66 #[.slice (some ⟨b, 0, none⟩) 3 3] w' fun r w2 => r = .returned (.string ⟨(joinS [x, ch :: rest, y]).toArray⟩) ∧ Fr Nil w' w2 := fun w' b hb =>
    pjoin_any (RowS.of_blk (l := [x, ch :: rest, y]) hb (by show (3 : Nat) ≤ maxLen; decide) id) rfl (by rw [lenS_cons, lenS_cons, lenS_cons, lenS_nil]; omega)
   have HJ := Lib.hid hjn
   clear hjn hl hop hzL hxl hyl
   rcases hq with q1 | ⟨q0, q1⟩
   · go_enter Tryz.func34, Tryz.ntmps34
     go_wp2_with fail
     try rw [hTs]
     try rw [hW1]
     clear hW1 hTs
     refine (HX.out.1 _ (Fr.refl _ _)).mono ?_
     rintro r w2 ⟨v2, rfl, ho2, f2⟩
     obtain ⟨g, cap, rfl⟩ := Joins.ownsRow_form ho2 (by omega)
     obtain ⟨cur, hg2⟩ := owns_blk ho2 (by omega)
     have HK3 : Hid (∀ w', Fr Nil w2 w' → (w'.cell? ⟨T, 0, none⟩ = some (.int .i64 (k : Int)) ∧ w'.cell? ⟨T, 1, none⟩ = some (.string ⟨(ch :: rest).toArray⟩) ∧ w'.cell? ⟨T, 2, none⟩ = some (.bool fl) ∧ w'.cell? ⟨T, 3, none⟩ = some (.int .u64 (bi : Int)) ∧ w'.cell? ⟨T, 4, none⟩ = some (.slice a0 np c0) ∧ w'.cell? ⟨T, 5, none⟩ = some (.slice a1 2 c1) ∧ w'.cell? ⟨T, 6, none⟩ = some (.slice a2 nb c2) ∧ w'.cell? ⟨T, 7, none⟩ = some (.slice a3 na c3)) ∧ w'.cell? ⟨g, 0, none⟩ = some (.string ⟨x.toArray⟩) ∧ w'.cell? ⟨g, 1, none⟩ = some (.string ⟨y.toArray⟩)) := Lib.hid (fun w' f => by
      have ho := owns_fr ho2 f
      have g0 := ho.cellAt 0 (by omega)
      have g1 := ho.cellAt 1 (by omega)
      exact ⟨HK2.out w' (f2.comp f), g0, g1⟩)
     have H2 := Lib.hid f2
     have hS0 := HK3.out w2 (Fr.refl _ _)
     have zg := hg2.lt
     have s2 := f2.size
     clear z0 z1 z2 z3 z4 z5 z6 z7 zl f2 ho2 hg2
     go_upto_region 5 with fail
     go_region_held3 (fun w' => (w'.cell? ⟨T, 0, none⟩ = some (.int .i64 (k : Int)) ∧ w'.cell? ⟨T, 1, none⟩ = some (.string ⟨(ch :: rest).toArray⟩) ∧ w'.cell? ⟨T, 2, none⟩ = some (.bool fl) ∧ w'.cell? ⟨T, 3, none⟩ = some (.int .u64 (bi : Int)) ∧ w'.cell? ⟨T, 4, none⟩ = some (.slice a0 np c0) ∧ w'.cell? ⟨T, 5, none⟩ = some (.slice a1 2 c1) ∧ w'.cell? ⟨T, 6, none⟩ = some (.slice a2 nb c2) ∧ w'.cell? ⟨T, 7, none⟩ = some (.slice a3 na c3)) ∧ w'.cell? ⟨g, 0, none⟩ = some (.string ⟨x.toArray⟩) ∧ w'.cell? ⟨g, 1, none⟩ = some (.string ⟨y.toArray⟩)) (with_reducible refine HK3.out _ ?_; (first | assumption | exact frA)) (first
      | (go_at_call 66; refine (HJ.out _ _ (by exact blk0)).mono ?_; rintro r w7 ⟨rfl, f7⟩; have g7 : Fr Nil w2 w7 := Fr.comp (S := Nil) (by exact frA) f7; clear f7))
     all_goals
      go_wp2
      go_ret
      exact ⟨rfl, HF1.out.comp (H2.out.comp (by first | assumption | exact frA))⟩
   · go_enter Tryz.func34, Tryz.ntmps34
     go_wp2_with fail
     try rw [hTs]
     try rw [hW1]
     clear hW1 hTs
     refine (HX.out.1 _ (Fr.refl _ _)).mono ?_
     rintro r w2 ⟨v2, rfl, ho2, f2⟩
     obtain ⟨g, cap, rfl⟩ := Joins.ownsRow_form ho2 (by omega)
     obtain ⟨cur, hg2⟩ := owns_blk ho2 (by omega)
     have HK3 : Hid (∀ w', Fr Nil w2 w' → (w'.cell? ⟨T, 0, none⟩ = some (.int .i64 (k : Int)) ∧ w'.cell? ⟨T, 1, none⟩ = some (.string ⟨(ch :: rest).toArray⟩) ∧ w'.cell? ⟨T, 2, none⟩ = some (.bool fl) ∧ w'.cell? ⟨T, 3, none⟩ = some (.int .u64 (bi : Int)) ∧ w'.cell? ⟨T, 4, none⟩ = some (.slice a0 np c0) ∧ w'.cell? ⟨T, 5, none⟩ = some (.slice a1 2 c1) ∧ w'.cell? ⟨T, 6, none⟩ = some (.slice a2 nb c2) ∧ w'.cell? ⟨T, 7, none⟩ = some (.slice a3 na c3)) ∧ w'.cell? ⟨g, 0, none⟩ = some (.string ⟨x.toArray⟩) ∧ w'.cell? ⟨g, 1, none⟩ = some (.string ⟨y.toArray⟩)) := Lib.hid (fun w' f => by
      have ho := owns_fr ho2 f
      have g0 := ho.cellAt 0 (by omega)
      have g1 := ho.cellAt 1 (by omega)
      exact ⟨HK2.out w' (f2.comp f), g0, g1⟩)
     have H2 := Lib.hid f2
     have hS0 := HK3.out w2 (Fr.refl _ _)
     have zg := hg2.lt
     have s2 := f2.size
     clear z0 z1 z2 z3 z4 z5 z6 z7 zl f2 ho2 hg2
     go_upto_region 5 with fail
     go_region_held3 (fun w' => (w'.cell? ⟨T, 0, none⟩ = some (.int .i64 (k : Int)) ∧ w'.cell? ⟨T, 1, none⟩ = some (.string ⟨(ch :: rest).toArray⟩) ∧ w'.cell? ⟨T, 2, none⟩ = some (.bool fl) ∧ w'.cell? ⟨T, 3, none⟩ = some (.int .u64 (bi : Int)) ∧ w'.cell? ⟨T, 4, none⟩ = some (.slice a0 np c0) ∧ w'.cell? ⟨T, 5, none⟩ = some (.slice a1 2 c1) ∧ w'.cell? ⟨T, 6, none⟩ = some (.slice a2 nb c2) ∧ w'.cell? ⟨T, 7, none⟩ = some (.slice a3 na c3)) ∧ w'.cell? ⟨g, 0, none⟩ = some (.string ⟨x.toArray⟩) ∧ w'.cell? ⟨g, 1, none⟩ = some (.string ⟨y.toArray⟩)) (with_reducible refine HK3.out _ ?_; (first | assumption | exact frA)) (first
      | (go_at_call 66; refine (HJ.out _ _ (by exact blk0)).mono ?_; rintro r w7 ⟨rfl, f7⟩; have g7 : Fr Nil w2 w7 := Fr.comp (S := Nil) (by exact frA) f7; clear f7))
     all_goals
      go_wp2
      go_ret
      exact ⟨rfl, HF1.out.comp (H2.out.comp (by first | assumption | exact frA))⟩
end Go.Proofs.YtlnmicddobgppaaGreatDoor
