/-
  A map literal with texts as keys and numbers as elements, made and asked once. No conditions.
-/
import Derived.WideMake
import Derived.Lib.Strings
import Derived.Lib.ConvBytes
import Derived.Lib.SmallJoins
import Derived.Test.YtlnmicddobgppaaGreatDoorShelf2
import Derived.Test.YtlnmicddobgppaaGreatDoorNnA
import Derived.Test.YtlnmicddobgppaaGreatDoorNnB
namespace Go.Proofs.YtlnmicddobgppaaGreatDoor
set_option maxRecDepth 100000
set_option linter.unusedSimpArgs false
set_option linter.unusedVariables false
open Go.RowKit
def entsFrom : Nat → List (List UInt8 × Int) → List MapEntry
 | _, [] => []
 | i, (k, v) :: l => { key := .string ⟨k.toArray⟩, val := .int .i64 v, born := i } :: entsFrom (i + 1) l
def ents (l : List (List UInt8 × Int)) : Array MapEntry := (entsFrom 0 l).toArray
theorem entsFrom_snoc (l : List (List UInt8 × Int)) (k : List UInt8) (v : Int) : ∀ i, entsFrom i (l ++ [(k, v)]) = entsFrom i l ++ [{ key := .string ⟨k.toArray⟩, val := .int .i64 v, born := i + l.length }] := by
 induction l with
 | nil => intro i; rfl
 | cons p l ih =>
  intro i
  obtain ⟨a, b⟩ := p
  simp only [List.cons_append, entsFrom, ih, List.length_cons]
  rw [show i + 1 + l.length = i + (l.length + 1) by omega]
theorem ents_snoc (l : List (List UInt8 × Int)) (k : List UInt8) (v : Int) : ents (l ++ [(k, v)]) = (ents l).push { key := .string ⟨k.toArray⟩, val := .int .i64 v, born := l.length } := by
 unfold ents
 rw [entsFrom_snoc, Nat.zero_add]
 simp
def askL (l : List (List UInt8 × Int)) (s : List UInt8) : Option Int := (l.find? fun p => p.1 == s).map (·.2)
theorem same_str (a : ByteArray) (k : List UInt8) : Instr.sameNow .string (.string a) (.string ⟨k.toArray⟩) = some (k == a.data.toList) := by
 obtain ⟨x⟩ := a
 have h : Instr.sameNow .string (.string ⟨x⟩) (.string ⟨k.toArray⟩) = some (x == k.toArray) := rfl
 rw [h]
 congr 1
 rw [Bool.eq_iff_iff, beq_iff_eq, beq_iff_eq]
 constructor
 · intro e; rw [e]
 · intro e; rw [e]
theorem find_ents (s : ByteArray) (l : List (List UInt8 × Int)) : ∀ i j, ∃ n, Instr.findNow .string (.string s) (entsFrom i l) j = some ((askL l s.data.toList).map fun v => (n, .int .i64 v)) := by
 induction l with
 | nil => intro i j; exact ⟨0, rfl⟩
 | cons p l ih =>
  intro i j
  obtain ⟨k, v⟩ := p
  unfold entsFrom Instr.findNow
  simp only [same_str]
  cases hk : k == s.data.toList with
  | true => exact ⟨j, by simp [askL, hk]⟩
  | false =>
   obtain ⟨n, hn⟩ := ih (i + 1) (j + 1)
   exact ⟨n, by simp only [hn]; simp [askL, hk]⟩
theorem put_new (w : World) (o o' : Obj) : (w.alloc o).heap.setIfInBounds w.heap.size o' = (w.alloc o').heap := by
 show (w.heap.push o).setIfInBounds w.heap.size o' = w.heap.push o'
 apply Array.ext
 · simp
 · intro i h1 h2
   rw [Array.getElem_setIfInBounds]
   · by_cases e : w.heap.size = i
     · subst e; simp
     · rw [if_neg e]
       have hi : i < w.heap.size := by simp at h2; omega
       rw [Array.getElem_push_lt hi, Array.getElem_push_lt hi]
   · simpa using h1
section
variable {P : Program} (w : World) (mty kt et : TypeId) (hm : P.underlying mty = some (.map kt et)) (hk : P.underlying kt = some .string)
include hm hk
theorem run_ins (l : List (List UInt8 × Int)) (s : List UInt8) (v : Int) (hn : askL l s = none) (l' : List (List UInt8 × Int)) (hl : l' = l ++ [(s, v)]) (n : Nat) (hlen : n = l.length) :
 (Instr.mapUpdate mty (.map (some w.heap.size)) (.string ⟨s.toArray⟩) (.int .i64 v)).run P (w.alloc (.map (ents l) n)) = .ok () (w.alloc (.map (ents l') (n + 1))) := by
 subst hl hlen
 have hb : (w.alloc (.map (ents l) l.length)).heap[w.heap.size]? = some (.map (ents l) l.length) := heap_alloc_new w _
 obtain ⟨j, hj⟩ := find_ents ⟨s.toArray⟩ l 0 0
 have hf : Instr.findNow .string (.string ⟨s.toArray⟩) (ents l).toList 0 = some none := by
  show Instr.findNow .string (.string ⟨s.toArray⟩) (entsFrom 0 l) 0 = _
  rw [hj]
  simp only [hn]
  rfl
 have hc : (Instr.checkKey false 10000 kt (.string ⟨s.toArray⟩)).run P (w.alloc (.map (ents l) l.length)) = .ok () _ := MapKept.run_checkKey (k := .string ⟨s.toArray⟩) hk (by simp [MapKept.IsKey]) false 9999
 simp [Instr.mapUpdate, run_underlying hm, MapKept.run_getObj_map hb, hc, MapKept.run_findKey hk hf, MapKept.run_setObj_map _ hb, Result.andThen]
 rw [put_new, ents_snoc]
 rfl
theorem run_look (he : (zeroValue et).run P = fun w => .ok (.int .i64 0) w) (l : List (List UInt8 × Int)) (n : Nat) (s : ByteArray) :
 (Instr.lookup mty (.map (some w.heap.size)) (.string s) false).run P (w.alloc (.map (ents l) n)) = .ok (.int .i64 ((askL l s.data.toList).getD 0)) (w.alloc (.map (ents l) n)) := by
 have hb : (w.alloc (.map (ents l) n)).heap[w.heap.size]? = some (.map (ents l) n) := heap_alloc_new w _
 obtain ⟨j, hj⟩ := find_ents s l 0 0
 have hf : Instr.findNow .string (.string s) (ents l).toList 0 = some ((askL l s.data.toList).map fun v => (j, .int .i64 v)) := hj
 have hc : ∀ b, (Instr.checkKey b 10000 kt (.string s)).run P (w.alloc (.map (ents l) n)) = .ok () _ := fun b => MapKept.run_checkKey (k := .string s) hk (by simp [MapKept.IsKey]) b 9999
 have hz : ∀ w, (zeroValue et).run P w = .ok (.int .i64 0) w := fun w => congrFun he w
 cases ha : askL l s.data.toList with
 | none =>
  rw [ha] at hf
  simp [Instr.lookup, run_underlying hm, MapKept.run_getObj_map hb, hc, MapKept.run_findKey hk hf, Result.andThen, hz]
 | some v =>
  rw [ha] at hf
  simp [Instr.lookup, run_underlying hm, MapKept.run_getObj_map hb, hc, MapKept.run_findKey hk hf, Result.andThen, hz]
end
theorem ret2_n {a b : Int} (h : a = b) : Ending.returned (.tuple #[.int .u64 a, .nilIface]) = .returned (.tuple #[.int .u64 b, .nilIface]) := by rw [h]
theorem lower_any (n : Nat) (w : World) (h : 97 ≤ n) (h' : n ≤ 102) :
 Calls Tryz.prog 147 #[.int .u8 (n : Int)] w fun e w' => e = .returned (.int .u8 (n : Int)) ∧ w = w' := by
 have h6 : n = 97 ∨ n = 98 ∨ n = 99 ∨ n = 100 ∨ n = 101 ∨ n = 102 := by omega
 clear h h'
 rcases h6 with rfl | rfl | rfl | rfl | rfl | rfl
 all_goals
  go_enter Tryz.func147, Tryz.ntmps147
  go_wp2
  go_ret
  exact ⟨rfl, rfl⟩
theorem dgt_cases (c : UInt8) (h : dgt c ≤ 15) : (48 ≤ c.toNat ∧ c.toNat ≤ 57 ∧ dgt c = c.toNat - 48) ∨ (97 ≤ c.toNat ∧ c.toNat ≤ 102 ∧ dgt c = c.toNat - 87) := by
 unfold dgt at *
 by_cases h1 : 48 ≤ c.toNat ∧ c.toNat ≤ 57
 · rw [if_pos h1]; exact .inl ⟨h1.1, h1.2, rfl⟩
 · rw [if_neg h1] at h ⊢
   by_cases h2 : 97 ≤ c.toNat ∧ c.toNat ≤ 102
   · rw [if_pos h2]; exact .inr ⟨h2.1, h2.2, rfl⟩
   · rw [if_neg h2] at h; omega
set_option maxHeartbeats 1000000 in
theorem parse16_in (s : ByteArray) (w : World) (hs : s.size = 16) (hd : ∀ c ∈ s.data.toList, dgt c ≤ 15) :
 Calls Tryz.prog 130 #[.string s, .int .i64 16, .int .i64 64] w fun e w' => e = .returned (.tuple #[.int .u64 (numB 16 s.data.toList), .nilIface]) ∧ Fr Nil w w' := by
 have e2 : s.toList.isEmpty = false := by
  cases h : s.toList with
  | nil =>
   exfalso
   rw [Lib.toList_data] at h
   have q : s.data.toList.length = s.size := by simp
   rw [h] at q
   simp only [List.length_nil] at q
   omega
  | cons c l => rfl
 have e3 : (s.toList == []) = false := by
  cases h : s.toList with
  | nil => rw [h] at e2; cases e2
  | cons c l => rfl
 have em : IntKind.u64.wrap (IntKind.u64.wrap 18446744073709551616 - 1) = 18446744073709551615 := by decide
 have hcv := Lib.run_convert_string_bytes (P := Tryz.prog) w 9 106 5 s Tryz.underlying9 Tryz.underlying106 Tryz.underlying5
 obtain ⟨W, hW⟩ : ∃ W, Lib.bytesWorld w 5 s = W := ⟨_, rfl⟩
 obtain ⟨cap, hcap⟩ : ∃ c, grownCap w s.size 0 5 = c := ⟨_, rfl⟩
 rw [hW, hcap] at hcv
 have hcell : ∀ j (hj : j < s.size), W.cell? ⟨w.heap.size, j, none⟩ = some (.int .u8 ((s[j].toNat : Nat) : Int)) := by
  intro j hj
  rw [← hW]
  have := Lib.bytesWorld_cell w 5 s j hj
  rw [this]
  have hj2 : j < s.data.toList.length := by simpa using hj
  rw [List.getD_eq_getElem?_getD, List.getElem?_eq_getElem hj2]
  rfl
 have hfr : Fr Nil w W := by
  rw [← hW]
  exact Fr.of_below (Joins.below_bytesWorld w.heap.size w _ s (Nat.le_refl _)) (fun k hk q => by omega)
 have HC := Lib.hid hcell
 have HF := Lib.hid hfr
 have hs16 : (s.size : Int) = 16 := by omega
 have HS := Lib.hid hs
 clear hW hcap hcell hfr hs
 go_enter Tryz.func130, Tryz.ntmps130
 go_wp2
 go_loop [12, 13, 101] (fun u n i => ∃ k : Nat, k ≤ s.size ∧ u = .bool false ∧ i = .int .i64 k ∧ n = .int .u64 ((numB 16 (s.data.toList.take k) : Nat) : Int)) (fun _ _ i => s.size - (intOf i).toNat)
 case atStart => exact ⟨0, by omega, rfl, rfl, rfl⟩
 case round =>
  obtain ⟨k, hk, rfl, rfl, rfl⟩ := hrel
  by_cases hlt : k < s.size
  · have hb := byte_at s k hlt
    have hc15 := hd s[k] (List.mem_of_getElem? hb)
    have hcell := HC.out k hlt
    have HT := Lib.hid (take_next s k hlt)
    have hk16 : k < 16 := by have := HS.out; omega
    have hlt2 := numB_lt 16 (s.data.toList.take k) (fun c hc => by have := hd c (List.mem_of_mem_take hc); omega)
    have hn60 : numB 16 (s.data.toList.take k) < 1152921504606846976 := by
     refine Nat.lt_of_lt_of_le hlt2 ?_
     rw [List.length_take]
     exact Nat.le_trans (Nat.pow_le_pow_right (by omega) (by omega : min k s.data.toList.length ≤ 15)) (by decide)
    have HN : Hid (numB 16 (s.data.toList.take (k + 1)) = numB 16 (s.data.toList.take k) * 16 + dgt s[k]) := Lib.hid (by rw [HT.out, numB_snoc])
    have hki : (k : Int) < 16 := by omega
    obtain ⟨v, hv⟩ : ∃ v, numB 16 (s.data.toList.take k) = v := ⟨_, rfl⟩
    rw [hv] at hn60 HN
    rw [hv]
    obtain ⟨c, hcc⟩ : ∃ c, s[k].toNat = c := ⟨_, rfl⟩
    rw [hcc] at hcell
    have hdc := dgt_cases s[k] hc15
    rw [hcc] at hdc
    clear hv hb hlt2 hcc hc15
    obtain ⟨z, hz⟩ : ∃ z : Int, (v : Int) = z := ⟨_, rfl⟩
    have hv0 : z < 1152921504606846976 := by omega
    have hv1 : 0 ≤ z := by omega
    rw [hz]
    have HZ := Lib.hid hz
    clear hz
    have HD0 := Lib.hid hd
    clear hn60 hd
    rcases hdc with ⟨d1, d2, d3⟩ | ⟨d1, d2, d3⟩
    · have c1 : (48 : Int) ≤ (c : Int) := by omega
      have c2 : (c : Int) ≤ 57 := by omega
      have c3 : ((c : Int) == 95) = false := by simp; omega
      have HD := Lib.hid d3
      clear d3
      go_wp2
      go_round
      case rel => exact ⟨k + 1, by omega, rfl, by go_num, by rw [HN.out, HD.out]; refine congrArg _ ?_; have := HZ.out; omega⟩
      case measure => simp [intOf]; omega
    · have c1 : (97 : Int) ≤ (c : Int) := by omega
      have c2 : (c : Int) ≤ 102 := by omega
      have c3 : ((c : Int) == 95) = false := by simp; omega
      have c4 : (48 : Int) ≤ (c : Int) := by omega
      have c5 : ¬ (c : Int) ≤ 57 := by omega
      have HD := Lib.hid d3
      clear d3
      go_wp2_with (go_at_call 147; refine (lower_any c _ d1 d2).mono ?_; rintro e w1 ⟨rfl, rfl⟩)
      go_round
      case rel => exact ⟨k + 1, by omega, rfl, by go_num, by rw [HN.out, HD.out]; refine congrArg _ ?_; have := HZ.out; omega⟩
      case measure => simp [intOf]; omega
  · obtain rfl : k = s.size := by omega
    have ht : s.data.toList.take s.size = s.data.toList := List.take_of_length_le (by simp)
    have HT := Lib.hid ht
    clear ht hd
    go_wp2
    go_ret2
    exact ⟨ret2_n (by rw [HT.out]), HF.out⟩
theorem parse16_any (s : ByteArray) (w : World) (hs : s.size = 16) (hd : ∀ c ∈ s.data.toList, dgt c ≤ 15) :
 Calls Tryz.prog 112 #[.string s, .int .i64 16, .int .i64 64] w fun e w' => e = .returned (.tuple #[.int .u64 (numB 16 s.data.toList), .nilIface]) ∧ Fr Nil w w' := by
 have HS := Lib.hid hs
 have HD := Lib.hid hd
 clear hs hd
 go_enter Tryz.func112, Tryz.ntmps112
 go_wp2_with fail
 refine (parse16_in s _ HS.out HD.out).mono ?_
 rintro e w1 ⟨rfl, f1⟩
 go_wp2
 go_ret2
 exact ⟨rfl, by exact frA⟩
def hexS : ByteArray := ⟨#[48, 49, 50, 51, 52, 53, 54, 55, 56, 57, 97, 98, 99, 100, 101, 102]⟩
def decS : ByteArray := ⟨#[48, 49, 50, 51, 52, 53, 54, 55, 56, 57]⟩
theorem hex_mem (c : UInt8) : hexS.data.toList.contains c = decide (dgt c ≤ 15) := by
 have key : ∀ n, n < 256 → hexS.data.toList.contains (UInt8.ofNat n) = decide (dgt (UInt8.ofNat n) ≤ 15) := by decide +kernel
 have h := key c.toNat (UInt8.toNat_lt c)
 rwa [UInt8.ofNat_toNat] at h
theorem dec_mem (c : UInt8) : decS.data.toList.contains c = decide (dgt c ≤ 9) := by
 have key : ∀ n, n < 256 → decS.data.toList.contains (UInt8.ofNat n) = decide (dgt (UInt8.ofNat n) ≤ 9) := by decide +kernel
 have h := key c.toNat (UInt8.toNat_lt c)
 rwa [UInt8.ofNat_toNat] at h
theorem dropWhile_nil {p : UInt8 → Bool} : ∀ l : List UInt8, (∀ c ∈ l.dropWhile p, p c = true) → l.dropWhile p = []
 | [], _ => rfl
 | a :: l, h => by
  by_cases ha : p a = true
  · rw [List.dropWhile_cons_of_pos ha] at h ⊢
    exact dropWhile_nil l h
  · rw [List.dropWhile_cons_of_neg ha] at h
    exact absurd (h a (by simp)) ha
theorem dropWhile_all {p : UInt8 → Bool} : ∀ l : List UInt8, l.dropWhile p = [] ↔ ∀ c ∈ l, p c = true
 | [] => by simp
 | a :: l => by
  by_cases ha : p a = true
  · rw [List.dropWhile_cons_of_pos ha, dropWhile_all l]
    simp [ha]
  · rw [List.dropWhile_cons_of_neg ha]
    simp [ha]
theorem trim_nil (l cs : List UInt8) : (Lib.trimS l cs).isEmpty = l.all (cs.contains ·) := by
 rw [Bool.eq_iff_iff, List.isEmpty_iff, List.all_eq_true]
 unfold Lib.trimS Lib.trimLeftS Lib.trimRightS
 rw [dropWhile_all]
 constructor
 · intro h
   have h2 := dropWhile_nil l.reverse (p := (cs.contains ·)) (fun c hc => h c (by simpa using hc))
   rw [dropWhile_all] at h2
   exact fun c hc => h2 c (by simpa using hc)
 · intro h c hc
   have h2 : l.reverse.dropWhile (cs.contains ·) = [] := (dropWhile_all _).2 (fun c hc => h c (by simpa using hc))
   rw [h2] at hc
   simp at hc
theorem size_zero_iff (s : ByteArray) : s.toList.isEmpty = decide (s.size = 0) := by
 have q : s.data.toList.length = s.size := by simp
 rw [Lib.toList_data, ← q]
 cases s.data.toList <;> simp
section
variable (s cs : ByteArray) (w : World) (hs : s.size ≤ 9223372036854775807) (hcs : cs.size < 4294967281) (ha : ∀ (j : Nat) b, cs.data.toList[j]? = some b → b.toNat < 128)
include hs hcs ha
theorem trim_any : Calls Tryz.prog 129 #[.string s, .string cs] w fun e w' => e = .returned (.string ⟨(Lib.trimS s.data.toList cs.data.toList).toArray⟩) ∧ Fr Nil w w' :=
 (Any.strings_Trim_laid Tryz.lays160B (by kernel_rfl) s cs w hs hcs ha).mono fun e w' ⟨h1, h2⟩ => ⟨h1, Fr.ofBelow h2⟩
theorem digits_any : Calls Tryz.prog 111 #[.string s, .string cs] w fun e w' => e = .returned (.bool (!decide (s.size = 0) && s.data.toList.all (cs.data.toList.contains ·))) ∧ Fr Nil w w' := by
 have e0 := size_zero_iff s
 have ht := trim_nil s.data.toList cs.data.toList
 obtain ⟨b, hb⟩ : ∃ b, s.data.toList.all (cs.data.toList.contains ·) = b := ⟨_, rfl⟩
 rw [hb] at ht
 rw [hb]
 clear hb
 obtain ⟨L, hL⟩ : ∃ L, Lib.trimS s.data.toList cs.data.toList = L := ⟨_, rfl⟩
 rw [hL] at ht
 have HL := Lib.hid hL
 clear hL
 have HA := Lib.hid ha
 clear ha
 by_cases hz : s.size = 0
 · have e1 : s.toList.isEmpty = true := by rw [e0]; simpa using hz
   have e2 : s.toList = [] := List.isEmpty_iff.1 e1
   have hd : (!decide (s.size = 0) && b) = false := by simp [hz]
   rw [hd]
   clear hd e0 hz
   go_enter Tryz.func111, Tryz.ntmps111
   go_wp2
   go_ret
   exact ⟨rfl, by exact frA⟩
 · have e1 : s.toList.isEmpty = false := by rw [e0]; simpa using hz
   have hd : (!decide (s.size = 0) && b) = b := by simp [hz]
   rw [hd]
   clear hd e0 hz
   have hLe : (⟨L.toArray⟩ : ByteArray).toList.isEmpty = b := by rw [Lib.toList_data]; exact ht
   go_enter Tryz.func111, Tryz.ntmps111
   go_wp2_with fail
   refine (trim_any s cs _ hs hcs HA.out).mono ?_
   rw [HL.out]
   rintro e w1 ⟨rfl, f1⟩
   go_wp2
   go_ret
   exact ⟨by first | rfl | simp [ht], by exact frA⟩
end
def foldN (a : Nat) (l : List UInt8) : Nat := l.foldl (fun a c => a * 10 + dgt c) a
theorem foldN_ge : ∀ (l : List UInt8) (a : Nat), a ≤ foldN a l
 | [], a => Nat.le_refl _
 | c :: l, a => Nat.le_trans (by omega) (foldN_ge l (a * 10 + dgt c))
theorem dgt_dec {c : UInt8} (h : dgt c ≤ 9) : 48 ≤ c.toNat ∧ c.toNat ≤ 57 ∧ dgt c = c.toNat - 48 := by
 unfold dgt at *
 by_cases h1 : 48 ≤ c.toNat ∧ c.toNat ≤ 57
 · rw [if_pos h1]; exact ⟨h1.1, h1.2, rfl⟩
 · rw [if_neg h1] at h
   split at h <;> omega
theorem parseM_val : ∀ (l : List UInt8) (acc : Nat), acc ≤ 18446744073709551615 → (∀ c ∈ l, dgt c ≤ 9) → Lib.parseUintM (2 ^ 64 - 1) acc l = if foldN acc l ≤ 18446744073709551615 then .ok (foldN acc l) else .range
 | [], acc, h, _ => by
  show Lib.NumEnd.ok acc = _
  rw [if_pos (show foldN acc [] ≤ _ from h)]
  rfl
 | c :: l, acc, h, hd => by
  obtain ⟨h1, h2, h3⟩ := dgt_dec (hd c (by simp))
  have hge := foldN_ge l (acc * 10 + dgt c)
  have hf : foldN acc (c :: l) = foldN (acc * 10 + dgt c) l := rfl
  unfold Lib.parseUintM
  rw [if_pos ⟨h1, h2⟩, ← h3]
  by_cases g1 : 1844674407370955162 ≤ acc
  · rw [if_pos g1, if_neg (by rw [hf]; omega)]
  · rw [if_neg g1]
    by_cases g2 : 2 ^ 64 - 1 < acc * 10 + dgt c
    · rw [if_pos g2, if_neg (by rw [hf]; omega)]
    · rw [if_neg g2, hf]
      exact parseM_val l _ (by omega) (fun x hx => hd x (by simp [hx]))
theorem decB_mem {d : List UInt8} (h : decB d = true) : ∀ c ∈ d, dgt c ≤ 9 := fun c hc => by simpa using List.all_eq_true.1 h c hc
theorem parseU_val (d : List UInt8) (hd : decB d = true) (hne : d ≠ []) : Lib.parseUintB 64 d = if numB 10 d ≤ 18446744073709551615 then .ok (numB 10 d) else .range := by
 unfold Lib.parseUintB
 rw [if_neg hne]
 exact parseM_val d 0 (by omega) (decB_mem hd)
theorem parseI_val (s d : List UInt8) (m : Bool) (hm : m = true → s = 45 :: d) (hm' : m = false → s = d) (hd : decB d = true) (hne : d ≠ []) :
 Lib.parseIntB 64 s = if 9223372036854775808 < numB 10 d then .range else if m then .ok (-(numB 10 d : Int)) else if numB 10 d = 9223372036854775808 then .range else .ok (numB 10 d : Int) := by
 have hu := parseU_val d hd hne
 have e63 : (2 : Nat) ^ (64 - 1) = 9223372036854775808 := by decide
 cases m
 · have hs := hm' rfl
   subst hs
   cases hl : s with
   | nil => exact absurd hl hne
   | cons c r =>
    rw [hl] at hu hd
    obtain ⟨h1, h2, h3⟩ := dgt_dec (decB_mem hd c (by simp))
    unfold Lib.parseIntB
    simp only
    rw [if_neg (by omega), hu]
    generalize numB 10 (c :: r) = N
    rw [e63]
    have hn : ¬ c.toNat = 45 := by omega
    by_cases g1 : N ≤ 18446744073709551615
    · rw [if_pos g1]
      simp only [hn, not_false_eq_true, true_and, false_and, if_false, Bool.false_eq_true]
      by_cases g2 : 9223372036854775808 ≤ N
      · rw [if_pos g2]
        by_cases g3 : 9223372036854775808 < N
        · rw [if_pos g3]
        · rw [if_neg g3, if_pos (by omega)]
      · rw [if_neg g2, if_neg (by omega), if_neg (by omega)]
    · rw [if_neg g1, if_pos (by omega)]
 · have hs := hm rfl
   subst hs
   unfold Lib.parseIntB
   simp only
   rw [if_pos (.inr rfl), hu]
   generalize numB 10 d = N
   rw [e63]
   have hn : (45 : UInt8).toNat = 45 := rfl
   by_cases g1 : N ≤ 18446744073709551615
   · rw [if_pos g1]
     simp only [hn, not_true_eq_false, true_and, false_and, if_false, if_true]
   · rw [if_neg g1, if_pos (by omega)]
def ErrV (w : World) : Prop := ∃ ev, w.cell? ⟨2, 0, none⟩ = some ev ∧ (ev = .nilIface ∨ ∃ te pe, ev = .iface te pe)
theorem ErrV.fr {w w1 : World} (h : ErrV w) (f : Fr Nil w w1) : ErrV w1 := by
 obtain ⟨ev, h1, h2⟩ := h
 exact ⟨ev, f.cell h1 (by simp [Nil]), h2⟩
theorem parseInt_ok (s : ByteArray) (v : Int) (w : World) (hs : s.size ≤ 281474976710656) (h : Lib.parseIntB 64 s.data.toList = .ok v) :
 Calls Tryz.prog 113 #[.string s, .int .i64 10, .int .i64 64] w fun e w' => e = .returned (.tuple #[.int .i64 v, .nilIface]) ∧ Fr Nil w w' :=
 (Tryz.strconv_ParseInt_10_at64_okB s (by omega) v h w).mono fun e w' ⟨h1, h2⟩ => ⟨h1, by
  rcases h2 with rfl | ⟨t, rfl⟩
  · exact Fr.refl _ _
  · exact Fr.of_below (Joins.below_bytesWorld w.heap.size w _ t (Nat.le_refl _)) (fun k hk q => by omega)⟩
theorem parseInt_range (s : ByteArray) (w : World) (hs : s.size ≤ 281474976710656) (h : Lib.parseIntB 64 s.data.toList = .range) (hE : ErrV w) :
 Calls Tryz.prog 113 #[.string s, .int .i64 10, .int .i64 64] w fun e w' => ∃ (v : Int) (N : Nat), e = .returned (.tuple #[.int .i64 v, .iface 171 (.pointer (some ⟨N, 0, none⟩))]) ∧ Fr Nil w w' := by
 obtain ⟨ev, h1, h2⟩ := hE
 exact (Tryz.strconv_ParseInt_10_at64_rangeB s hs h ev w h1 h2).mono fun e w' ⟨N, e1, _, _, e2⟩ => ⟨_, N, e1, Fr.ofBelow e2⟩
theorem int_any (n : Int) (w : World) :
 Calls Tryz.prog 114 #[.int .i64 n] w fun e w' => e = .returned (.agg #[.bool false, .int .u64 (IntKind.u64.wrap n)]) ∧ Fr Nil w w' := by
 go_enter Tryz.func114, Tryz.ntmps114
 go_wp2
 refine bodyPost_ret (v := .agg #[.bool false, .int .u64 (IntKind.u64.wrap n)]) (by simp [results, Tryz.results114, go_sem]) rfl ⟨rfl, ?_⟩
 exact frA
theorem all_hex (l : List UInt8) : l.all (hexS.data.toList.contains ·) = l.all (fun c => decide (dgt c ≤ 15)) := by
 congr 1; funext c; exact hex_mem c
theorem all_dec (l : List UInt8) : l.all (decS.data.toList.contains ·) = decB l := by
 unfold decB; congr 1; funext c; exact dec_mem c
theorem ascii_hex : ∀ (j : Nat) b, hexS.data.toList[j]? = some b → b.toNat < 128 := by
 intro j b h
 have hm := List.mem_of_getElem? h
 have key : ∀ c ∈ hexS.data.toList, c.toNat < 128 := by decide
 exact key b hm
theorem ascii_dec : ∀ (j : Nat) b, decS.data.toList[j]? = some b → b.toNat < 128 := by
 intro j b h
 have hm := List.mem_of_getElem? h
 have key : ∀ c ∈ decS.data.toList, c.toNat < 128 := by decide
 exact key b hm
theorem parse_F (s : ByteArray) (w : World) (hs : s.size ≤ 140737488355328) (ht : s.data.toList.take 2 = [48, 102]) :
 Calls Tryz.prog 89 #[.string s] w fun e w' => e = .returned (bitsV (s.data.toList.drop 2)) ∧ Fr Nil w w' := by
 have hq : s.data.toList.length = s.size := by simp
 have hpre : Lib.hasPrefix s.data.toList [48, 102] = true := by
  unfold Lib.hasPrefix
  rw [List.isPrefixOf_iff_prefix, List.prefix_iff_eq_take]
  exact ht.symm
 have htr : Lib.trimPrefix s.data.toList [48, 102] = s.data.toList.drop 2 := by
  unfold Lib.trimPrefix
  rw [hpre]; rfl
 obtain ⟨R, hR⟩ : ∃ R, s.data.toList.drop 2 = R := ⟨_, rfl⟩
 have hRl : R.length ≤ 140737488355328 := by rw [← hR, List.length_drop]; omega
 rw [hR] at htr
 rw [hR]
 obtain ⟨r, hr⟩ : ∃ r : ByteArray, r = ⟨R.toArray⟩ := ⟨_, rfl⟩
 have hrl : r.data.toList = R := by rw [hr]
 have hrs : r.size = R.length := by rw [hr]; simp [ByteArray.size]
 have HP := Lib.hid hpre
 have HT : Hid ((⟨(Lib.trimPrefix s.data.toList [48, 102]).toArray⟩ : ByteArray) = r) := Lib.hid (by rw [htr, hr])
 have HRL := Lib.hid hrl
 clear hpre htr hR ht hq hr hrl
 by_cases h16 : r.size = 16
 · have c1 : ((r.size : Int) == 16) = true := by simp; omega
   have c2 : ((r.size : Int) != 16) = false := by simp; omega
   obtain ⟨b, hb⟩ : ∃ b, R.all (fun c => decide (dgt c ≤ 15)) = b := ⟨_, rfl⟩
   have HB : Hid ((!decide (r.size = 0) && r.data.toList.all (hexS.data.toList.contains ·)) = b) := Lib.hid (by rw [HRL.out, all_hex, hb, h16]; rfl)
   have HX : Hid (hexB R = b) := Lib.hid (by unfold hexB; rw [hb, ← hrs, h16]; simp)
   have HA : Hid (b = true → ∀ c ∈ r.data.toList, dgt c ≤ 15) := Lib.hid (by
    intro hbt c hc
    rw [HRL.out] at hc
    rw [hbt] at hb
    simpa using List.all_eq_true.1 hb c hc)
   have H16 := Lib.hid h16
   have HRS := Lib.hid hrs
   clear hb h16 hrs
   cases b
   · go_enter Tryz.func89, Tryz.ntmps89
     go_wp2_with fail
     refine (Tryz.strings_CutPrefixB s ⟨#[48, 102]⟩ _).mono ?_
     rw [show (⟨#[48, 102]⟩ : ByteArray).data.toList = [48, 102] from rfl, HT.out, HP.out]
     rintro e w1 ⟨rfl, rfl⟩
     go_wp2_with fail
     refine (digits_any r hexS _ (by have := H16.out; omega) (by decide) ascii_hex).mono ?_
     rw [HB.out]
     rintro e w2 ⟨rfl, f2⟩
     obtain ⟨_, _, _⟩ := f2.at (w.heap.size) (by first | assumption | omega | (simp; done) | (simp; omega))
     go_wp2
     refine bodyPost_ret (v := .tuple #[.agg #[.bool false, .int .u64 0], .int .i64 3]) (by simp [results, Tryz.results89, go_sem, *]) rfl ⟨bitsV_bad HX.out, ?_⟩
     exact frA
   · go_enter Tryz.func89, Tryz.ntmps89
     go_wp2_with fail
     refine (Tryz.strings_CutPrefixB s ⟨#[48, 102]⟩ _).mono ?_
     rw [show (⟨#[48, 102]⟩ : ByteArray).data.toList = [48, 102] from rfl, HT.out, HP.out]
     rintro e w1 ⟨rfl, rfl⟩
     go_wp2_with fail
     refine (digits_any r hexS _ (by have := H16.out; omega) (by decide) ascii_hex).mono ?_
     rw [HB.out]
     rintro e w2 ⟨rfl, f2⟩
     obtain ⟨_, _, _⟩ := f2.at (w.heap.size) (by first | assumption | omega | (simp; done) | (simp; omega))
     go_wp2_with fail
     refine (parse16_any r _ H16.out (HA.out trivial)).mono ?_
     rw [HRL.out]
     rintro e w3 ⟨rfl, f3⟩
     obtain ⟨_, _, _⟩ := f3.at (w.heap.size) (by first | assumption | omega | (simp; done) | (simp; omega))
     go_wp2
     refine bodyPost_ret (v := .tuple #[.agg #[.bool true, .int .u64 (numB 16 R)], .int .i64 0]) (by simp [results, Tryz.results89, go_sem, *]) rfl ⟨bitsV_ok HX.out, ?_⟩
     exact frA
 · have c1 : ((r.size : Int) == 16) = false := by simp; omega
   have c2 : ((r.size : Int) != 16) = true := by simp; omega
   have HX : Hid (hexB R = false) := Lib.hid (by unfold hexB; rw [← hrs]; simp; intro _; exact h16)
   clear h16 hrs
   go_enter Tryz.func89, Tryz.ntmps89
   go_wp2_with fail
   refine (Tryz.strings_CutPrefixB s ⟨#[48, 102]⟩ _).mono ?_
   rw [show (⟨#[48, 102]⟩ : ByteArray).data.toList = [48, 102] from rfl, HT.out, HP.out]
   rintro e w1 ⟨rfl, rfl⟩
   go_wp2
   refine bodyPost_ret (v := .tuple #[.agg #[.bool false, .int .u64 0], .int .i64 3]) (by simp [results, Tryz.results89, go_sem, *]) rfl ⟨bitsV_bad HX.out, ?_⟩
   exact frA
set_option maxHeartbeats 1000000 in
theorem parse_N (s : ByteArray) (m : Bool) (D : List UInt8) (w : World) (hs : s.size ≤ 140737488355328) (hE : ErrV w) (ht : s.data.toList.take 2 ≠ [48, 102])
 (hm : (m = true ∧ s.data.toList = 45 :: D) ∨ (m = false ∧ s.data.toList = D ∧ D.head? ≠ some 45)) :
 Calls Tryz.prog 89 #[.string s] w fun e w' => e = .returned (parseV m D s.data.toList) ∧ Fr Nil w w' := by
 have hq : s.data.toList.length = s.size := by simp
 have hpre : Lib.hasPrefix s.data.toList [48, 102] = false := by
  cases h : Lib.hasPrefix s.data.toList [48, 102] with
  | false => rfl
  | true =>
   unfold Lib.hasPrefix at h
   rw [List.isPrefixOf_iff_prefix, List.prefix_iff_eq_take] at h
   exact absurd h.symm ht
 have htr2 : Lib.trimPrefix s.data.toList [45] = D := by
  unfold Lib.trimPrefix Lib.hasPrefix
  rcases hm with ⟨_, h⟩ | ⟨_, h, hn⟩
  · rw [h]; simp
  · rw [h]
    cases D with
    | nil => rfl
    | cons c D =>
     have : ¬ c = 45 := by intro q; subst q; simp at hn
     simp [List.isPrefixOf]
     intro q; exact absurd q.symm this
 have hDl : D.length ≤ 140737488355328 := by
  rcases hm with ⟨_, h⟩ | ⟨_, h, _⟩
  · rw [h] at hq; simp at hq; omega
  · rw [h] at hq; omega
 have hval : decB D = true → D ≠ [] → _ := fun a b => parseI_val s.data.toList D m (fun h => by rcases hm with ⟨_, q⟩ | ⟨q, _⟩; exact q; rw [h] at q; cases q) (fun h => by rcases hm with ⟨q, _⟩ | ⟨_, q, _⟩; rw [h] at q; cases q; exact q) a b
 obtain ⟨d, hd⟩ : ∃ d : ByteArray, d = ⟨D.toArray⟩ := ⟨_, rfl⟩
 have hdl : d.data.toList = D := by rw [hd]
 have hds : d.size = D.length := by rw [hd]; simp [ByteArray.size]
 have HP := Lib.hid hpre
 have HT : Hid ((⟨(Lib.trimPrefix s.data.toList [48, 102]).toArray⟩ : ByteArray) = s) := Lib.hid (by unfold Lib.trimPrefix; rw [hpre]; rfl)
 have HT2 : Hid ((⟨(Lib.trimPrefix s.data.toList [45]).toArray⟩ : ByteArray) = d) := Lib.hid (by rw [htr2, hd])
 have HDL := Lib.hid hdl
 have HDS : Hid (d.size ≤ 140737488355328) := Lib.hid (by omega)
 have HVal := Lib.hid hval
 have hde := size_zero_iff d
 rw [Lib.toList_data, hdl] at hde
 obtain ⟨b, hb⟩ : ∃ b, (!decide (d.size = 0) && decB D) = b := ⟨_, rfl⟩
 have HB : Hid ((!decide (d.size = 0) && d.data.toList.all (decS.data.toList.contains ·)) = b) := Lib.hid (by rw [hdl, all_dec, hb])
 have HBb := Lib.hid hb
 have HDE := Lib.hid hde
 have HQ := Lib.hid hq
 clear hpre htr2 hval hd hdl hb hde hm ht hq
 cases b
 · have HX : Hid (formB D s.data.toList = false) := Lib.hid (by
    unfold formB
    rw [HDE.out, Bool.and_comm (decB D), HBb.out]
    rfl)
   clear hds
   go_enter Tryz.func89, Tryz.ntmps89
   go_wp2_with fail
   refine (Tryz.strings_CutPrefixB s ⟨#[48, 102]⟩ _).mono ?_
   rw [show (⟨#[48, 102]⟩ : ByteArray).data.toList = [48, 102] from rfl, HT.out, HP.out]
   rintro e w1 ⟨rfl, rfl⟩
   go_wp2_with fail
   refine (Tryz.strings_TrimPrefixB s ⟨#[45]⟩ _).mono ?_
   rw [show (⟨#[45]⟩ : ByteArray).data.toList = [45] from rfl, HT2.out]
   rintro e w1 ⟨rfl, rfl⟩
   go_wp2_with fail
   refine (digits_any d decS _ (by have := HDS.out; omega) (by decide) ascii_dec).mono ?_
   rw [HB.out]
   rintro e w2 ⟨rfl, f2⟩
   obtain ⟨_, _, _⟩ := f2.at (w.heap.size) (by first | assumption | omega | (simp; done) | (simp; omega))
   go_wp2
   refine bodyPost_ret (v := .tuple #[.agg #[.bool false, .int .u64 0], .int .i64 3]) (by simp [results, Tryz.results89, go_sem, *]) rfl ⟨parseV_form HX.out, ?_⟩
   exact frA
 · have hd0 : 0 < d.size := by
    have h : (!decide (d.size = 0) && decB D) = true := HBb.out
    rw [Bool.and_eq_true, Bool.not_eq_true', decide_eq_false_iff_not] at h
    omega
   have hne : D ≠ [] := by
    intro q
    have h0 : D.length = 0 := by rw [q]; rfl
    omega
   have hdec : decB D = true := by
    have h : (!decide (d.size = 0) && decB D) = true := HBb.out
    rw [Bool.and_eq_true] at h
    exact h.2
   have hh : D.head? = some d[0] := by rw [← HDL.out, List.head?_eq_getElem?]; exact byte_at d 0 hd0
   have HE2 : Hid (∀ q1 q2 : Bool, ((d[0].toNat : Int) == 48) = q1 → (s.toList == [48]) = q2 → formB D s.data.toList = !(q1 && !q2)) := Lib.hid (by
    intro q1 q2 h1 h2
    unfold formB
    rw [hdec, hh]
    have e4 : D.isEmpty = false := by cases D with
     | nil => exact absurd rfl hne
     | cons c l => rfl
    simp only [← Lib.toList_data, e4, h2]
    have h3 : (some d[0] == some (48 : UInt8)) = q1 := by
     rw [← h1, Bool.eq_iff_iff]
     simp
     constructor
     · intro h; rw [h]; rfl
     · intro h; exact UInt8.toNat_inj.1 (by have q : (48 : UInt8).toNat = 48 := rfl; omega)
    rw [h3]
    simp)
   have hval := HVal.out hdec hne
   obtain ⟨N, hN⟩ : ∃ N, numB 10 D = N := ⟨_, rfl⟩
   rw [hN] at hval
   have HV := Lib.hid hval
   have HN := Lib.hid hN
   obtain ⟨q1, hq1⟩ : ∃ q, ((d[0].toNat : Int) == 48) = q := ⟨_, rfl⟩
   obtain ⟨q2, hq2⟩ : ∃ q, (s.toList == [48]) = q := ⟨_, rfl⟩
   have hq2' : (s.toList != [48]) = !q2 := by rw [← hq2]; rfl
   have HFm := Lib.hid (HE2.out q1 q2 hq1 hq2)
   have HS1 : Hid (s.size ≤ 281474976710656) := Lib.hid (by omega)
   have HErr := Lib.hid hE
   clear HE2 hh hval hN hne hdec HVal hds hE
   by_cases hb : (q1 && !q2) = true
   · obtain ⟨rfl, rfl⟩ : q1 = true ∧ q2 = false := by simpa using hb
     have HFm' : Hid (formB D s.data.toList = false) := HFm
     clear HFm hb
     go_enter Tryz.func89, Tryz.ntmps89
     go_wp2_with fail
     refine (Tryz.strings_CutPrefixB s ⟨#[48, 102]⟩ _).mono ?_
     rw [show (⟨#[48, 102]⟩ : ByteArray).data.toList = [48, 102] from rfl, HT.out, HP.out]
     rintro e w1 ⟨rfl, rfl⟩
     go_wp2_with fail
     refine (Tryz.strings_TrimPrefixB s ⟨#[45]⟩ _).mono ?_
     rw [show (⟨#[45]⟩ : ByteArray).data.toList = [45] from rfl, HT2.out]
     rintro e w1 ⟨rfl, rfl⟩
     go_wp2_with fail
     refine (digits_any d decS _ (by have := HDS.out; omega) (by decide) ascii_dec).mono ?_
     rw [HB.out]
     rintro e w2 ⟨rfl, f2⟩
     obtain ⟨_, _, _⟩ := f2.at (w.heap.size) (by first | assumption | omega | (simp; done) | (simp; omega))
     go_wp2
     refine bodyPost_ret (v := .tuple #[.agg #[.bool false, .int .u64 0], .int .i64 3]) (by simp [results, Tryz.results89, go_sem, *]) rfl ⟨parseV_form HFm'.out, ?_⟩
     exact frA
   · have hb' : (q1 && !q2) = false := by simpa using hb
     rw [hb'] at HFm
     have HFm' : Hid (formB D s.data.toList = true) := HFm
     clear HFm hb
     by_cases hg : 9223372036854775808 < N ∨ (m = false ∧ N = 9223372036854775808)
     · have HR : Hid (Lib.parseIntB 64 s.data.toList = .range) := Lib.hid (by
        rw [HV.out]
        rcases hg with h | ⟨h1, h2⟩
        · rw [if_pos h]
        · rw [if_neg (by omega), h1, if_neg (by simp), if_pos h2])
       have HG : Hid (Ending.returned (.tuple #[.agg #[.bool false, .int .u64 0], .int .i64 1]) = .returned (parseV m D s.data.toList)) := Lib.hid (by
        rcases hg with h | ⟨h1, h2⟩
        · exact parseV_great HFm'.out (by rw [HN.out]; exact h)
        · subst h1; exact parseV_edge HFm'.out (by rw [HN.out]; exact h2))
       clear hg
       cases q1 <;> cases q2 <;> simp at hb'
       all_goals
        go_enter Tryz.func89, Tryz.ntmps89
        go_wp2_with fail
        refine (Tryz.strings_CutPrefixB s ⟨#[48, 102]⟩ _).mono ?_
        rw [show (⟨#[48, 102]⟩ : ByteArray).data.toList = [48, 102] from rfl, HT.out, HP.out]
        rintro e w1 ⟨rfl, rfl⟩
        go_wp2_with fail
        refine (Tryz.strings_TrimPrefixB s ⟨#[45]⟩ _).mono ?_
        rw [show (⟨#[45]⟩ : ByteArray).data.toList = [45] from rfl, HT2.out]
        rintro e w1 ⟨rfl, rfl⟩
        go_wp2_with fail
        refine (digits_any d decS _ (by have := HDS.out; omega) (by decide) ascii_dec).mono ?_
        rw [HB.out]
        rintro e w2 ⟨rfl, f2⟩
        obtain ⟨_, _, _⟩ := f2.at (w.heap.size) (by first | assumption | omega | (simp; done) | (simp; omega))
        go_wp2_with fail
        refine (parseInt_range s _ HS1.out HR.out (HErr.out.fr (by exact frA))).mono ?_
        rintro e w3 ⟨v, NB, rfl, f3⟩
        obtain ⟨_, _, _⟩ := f3.at (w.heap.size) (by first | assumption | omega | (simp; done) | (simp; omega))
        go_wp2
        refine bodyPost_ret (v := .tuple #[.agg #[.bool false, .int .u64 0], .int .i64 1]) (by simp [results, Tryz.results89, go_sem, *]) rfl ⟨HG.out, ?_⟩
        exact frA
     · have hN1 : N ≤ 9223372036854775808 := by omega
       obtain ⟨v, hv⟩ : ∃ v : Int, (if m then -(N : Int) else (N : Int)) = v := ⟨_, rfl⟩
       have HR : Hid (Lib.parseIntB 64 s.data.toList = .ok v) := Lib.hid (by
        rw [HV.out, if_neg (by omega), ← hv]
        cases m
        · have hne : ¬ N = 9223372036854775808 := fun q => hg (.inr ⟨rfl, q⟩)
          rw [if_neg (by simp), if_neg hne, if_neg (by simp)]
        · rw [if_pos rfl, if_pos rfl])
       have HG : Hid (Ending.returned (.tuple #[.agg #[.bool false, .int .u64 (IntKind.u64.wrap v)], .int .i64 0]) = .returned (parseV m D s.data.toList)) := Lib.hid (by
        cases m
        · have hne : ¬ N = 9223372036854775808 := fun q => hg (.inr ⟨rfl, q⟩)
          refine Eq.trans (agg_ret ?_) (parseV_plus HFm'.out (by rw [HN.out]; omega))
          rw [HN.out, ← hv, u64m]; (try simp); omega
        · refine Eq.trans (agg_ret ?_) (parseV_minus HFm'.out (by rw [HN.out]; omega))
          rw [HN.out, ← hv, u64m]; (try simp); omega)
       clear hg hN1 hv
       cases q1 <;> cases q2 <;> simp at hb'
       all_goals
        go_enter Tryz.func89, Tryz.ntmps89
        go_wp2_with fail
        refine (Tryz.strings_CutPrefixB s ⟨#[48, 102]⟩ _).mono ?_
        rw [show (⟨#[48, 102]⟩ : ByteArray).data.toList = [48, 102] from rfl, HT.out, HP.out]
        rintro e w1 ⟨rfl, rfl⟩
        go_wp2_with fail
        refine (Tryz.strings_TrimPrefixB s ⟨#[45]⟩ _).mono ?_
        rw [show (⟨#[45]⟩ : ByteArray).data.toList = [45] from rfl, HT2.out]
        rintro e w1 ⟨rfl, rfl⟩
        go_wp2_with fail
        refine (digits_any d decS _ (by have := HDS.out; omega) (by decide) ascii_dec).mono ?_
        rw [HB.out]
        rintro e w2 ⟨rfl, f2⟩
        obtain ⟨_, _, _⟩ := f2.at (w.heap.size) (by first | assumption | omega | (simp; done) | (simp; omega))
        go_wp2_with fail
        refine (parseInt_ok s v _ HS1.out HR.out).mono ?_
        rintro e w3 ⟨rfl, f3⟩
        obtain ⟨_, _, _⟩ := f3.at (w.heap.size) (by first | assumption | omega | (simp; done) | (simp; omega))
        go_wp2_with fail
        refine (int_any _ _).mono ?_
        rintro e w4 ⟨rfl, f4⟩
        obtain ⟨_, _, _⟩ := f4.at (w.heap.size) (by first | assumption | omega | (simp; done) | (simp; omega))
        go_wp2
        refine bodyPost_ret (v := .tuple #[.agg #[.bool false, .int .u64 (IntKind.u64.wrap v)], .int .i64 0]) (by simp [results, Tryz.results89, go_sem, *]) rfl ⟨HG.out, ?_⟩
        exact frA
theorem parse_any (s : ByteArray) (w : World) (hs : s.size ≤ 140737488355328) (hE : ErrV w) :
 Calls Tryz.prog 89 #[.string s] w fun e w' => e = .returned (refV s.data.toList) ∧ Fr Nil w w' := by
 unfold refV
 by_cases h1 : s.data.toList.take 2 = [48, 102]
 · rw [if_pos h1]; exact parse_F s w hs h1
 · rw [if_neg h1]
   by_cases h2 : s.data.toList.head? = some 45
   · rw [if_pos h2]
     refine parse_N s true _ w hs hE h1 (.inl ⟨rfl, ?_⟩)
     cases h : s.data.toList with
     | nil => rw [h] at h2; simp at h2
     | cons c l => rw [h] at h2; simp at h2; rw [h2]; rfl
   · rw [if_neg h2]
     exact parse_N s false _ w hs hE h1 (.inr ⟨rfl, rfl, h2⟩)
end Go.Proofs.YtlnmicddobgppaaGreatDoor
