/-
  Contracts of package arena: New, Load, Store, Len, Uses, Words, each for every arena.
-/
import Derived.Test.YtlpdlhmdhlcdlaaRows
import Derived.Test.YtlpdlhmdhlcdlaaArenaUse
namespace Go.Proofs.Ytlpdlhmdhlcdlaa
set_option linter.unusedSimpArgs false
set_option linter.unusedVariables false
open Go.RowKit

theorem Arena.ldv_in {l : List Int} {k : Int} (h : inR l.length k = true) : ldv l k = nth l k.toNat := by simp [ldv, h]
/-- Load, whatever the place. -/
theorem load_any (ba bw : Nat) (l : List Int) (u : Nat) (k : Int) (w : World) (ha : Arena w ba bw l u) (hu : u < 4611686018427387904) :
    Calls Try.prog 53 #[.pointer (some ⟨ba, 0, none⟩), .int .i64 k] w fun e w' =>
      e = .returned (.tuple #[.int .i64 (ldv l k), .int .i64 (lde l.length k)]) ∧ Arena w' ba bw l (u + hit l.length k) ∧ Fr (fun b => b = ba) w w' := by
  have hmf : ∀ (fn : Fn) (first cap : Array Value) (w : World), (Instr.makeFunc fn first cap).run Try.prog w = .ok (.func fn first cap) w := fun _ _ _ _ => rfl
  have hba := ha.box.lt
  have hbw := ha.words.lt
  have hb := Blk.new w #[.int .i64 0] 2
  have ha' : Arena (w.alloc (.cells #[.int .i64 0] 2)) ba bw l u := ⟨ha.box.alloc _, ha.words.alloc _⟩
  by_cases hin : inR l.length k = true
  · obtain ⟨h0, h1⟩ := inR_iff.1 hin
    obtain ⟨n, rfl⟩ := Int.eq_ofNat_of_zero_le h0
    have hv : ldv l (n : Int) = nth l n := by simp [ldv, hin]
    have he : lde l.length (n : Int) = 0 := by simp [lde, hin]
    have hh : hit l.length (n : Int) = 1 := by simp [hit, hin]
    rw [hv, he, hh]
    clear hv he hh hin h0
    go_enter Try.func53, Try.ntmps53
    go_wp2_with fail
    refine (use_load ba bw l u n w.heap.size (.int .i64 0) 2 _ ha' hb (by omega) (by decide) (by omega) hu).mono ?_
    rintro e w1 ⟨rfl, ha1, hb1, hf1⟩
    have c1 := hb1.cell 0
    simp at c1
    have hf : Fr (fun b => b = ba) w w1 := ((Fr.refl _ w).alloc _).trans hf1 (fun b hb q => by rcases q with q | q; exact q; omega)
    go_wp2
    go_ret2
    exact ⟨rfl, ha1, hf⟩
  · have hn : inR l.length k = false := by simpa using hin
    have hv : ldv l k = 0 := by simp [ldv, hn]
    have he : lde l.length k = 1 := by simp [lde, hn]
    have hh : hit l.length k = 0 := by simp [hit, hn]
    have hout : k < 0 ∨ (l.length : Int) ≤ k := by
      rcases Int.lt_or_le k 0 with g | g
      · exact .inl g
      · rcases Int.lt_or_le k l.length with g' | g'
        · exact absurd (inR_yes g g') (by simp [hn])
        · exact .inr g'
    have c0 := ha'.box.cell 0
    simp at c0
    rw [hv, he, hh]
    clear hv he hh hin hn
    go_enter Try.func53, Try.ntmps53
    go_wp2_with fail
    refine (use_out ba ⟨bw, 0, none⟩ l.length l.length k _ _ ha'.box.lt c0 hout).mono ?_
    rintro e w1 ⟨rfl, hf1⟩
    have ha1 : Arena w1 ba bw l u := ⟨hf1.blk ha'.box (by simp [Nil]), hf1.blk ha'.words (by simp [Nil])⟩
    have hb1 := hf1.blk hb (by simp [Nil])
    have c1 := hb1.cell 0
    simp at c1
    have hf : Fr (fun b => b = ba) w w1 := ((Fr.refl _ w).alloc _).trans hf1 (fun b hb q => q.elim)
    clear c0 hout
    go_wp2
    go_ret2
    exact ⟨rfl, ha1, hf⟩
/-- Store, whatever the place. -/
theorem store_any (ba bw : Nat) (l : List Int) (u : Nat) (k x : Int) (w : World) (ha : Arena w ba bw l u) (hu : u < 4611686018427387904) :
    Calls Try.prog 48 #[.pointer (some ⟨ba, 0, none⟩), .int .i64 k, .int .i64 x] w fun e w' =>
      e = .returned (.int .i64 (lde l.length k)) ∧ Arena w' ba bw (stl l k x) (u + hit l.length k) ∧ Fr (fun b => b = ba ∨ b = bw) w w' := by
  have hmf : ∀ (fn : Fn) (first cap : Array Value) (w : World), (Instr.makeFunc fn first cap).run Try.prog w = .ok (.func fn first cap) w := fun _ _ _ _ => rfl
  have hba := ha.box.lt
  have hbw := ha.words.lt
  have hb := Blk.new w #[.int .i64 x] 2
  have ha' : Arena (w.alloc (.cells #[.int .i64 x] 2)) ba bw l u := ⟨ha.box.alloc _, ha.words.alloc _⟩
  by_cases hin : inR l.length k = true
  · obtain ⟨h0, h1⟩ := inR_iff.1 hin
    obtain ⟨n, rfl⟩ := Int.eq_ofNat_of_zero_le h0
    have hv : stl l (n : Int) x = l.set n x := by simp [stl, hin]
    have he : lde l.length (n : Int) = 0 := by simp [lde, hin]
    have hh : hit l.length (n : Int) = 1 := by simp [hit, hin]
    rw [hv, he, hh]
    clear hv he hh hin h0
    go_enter Try.func48, Try.ntmps48
    go_wp2_with fail
    refine (use_store ba bw l u n w.heap.size x 2 _ ha' hb (by omega) hu).mono ?_
    rintro e w1 ⟨rfl, ha1, hf1⟩
    have hf : Fr (fun b => b = ba ∨ b = bw) w w1 := ((Fr.refl _ w).alloc _).comp hf1
    go_wp2
    go_ret
    exact ⟨rfl, ha1, hf⟩
  · have hn : inR l.length k = false := by simpa using hin
    have hv : stl l k x = l := by simp [stl, hn]
    have he : lde l.length k = 1 := by simp [lde, hn]
    have hh : hit l.length k = 0 := by simp [hit, hn]
    have hout : k < 0 ∨ (l.length : Int) ≤ k := by
      rcases Int.lt_or_le k 0 with g | g
      · exact .inl g
      · rcases Int.lt_or_le k l.length with g' | g'
        · exact absurd (inR_yes g g') (by simp [hn])
        · exact .inr g'
    have c0 := ha'.box.cell 0
    simp at c0
    rw [hv, he, hh]
    clear hv he hh hin hn
    go_enter Try.func48, Try.ntmps48
    go_wp2_with fail
    refine (use_out ba ⟨bw, 0, none⟩ l.length l.length k _ _ ha'.box.lt c0 hout).mono ?_
    rintro e w1 ⟨rfl, hf1⟩
    have ha1 : Arena w1 ba bw l u := ⟨hf1.blk ha'.box (by simp [Nil]), hf1.blk ha'.words (by simp [Nil])⟩
    have hf : Fr (fun b => b = ba ∨ b = bw) w w1 := ((Fr.refl _ w).alloc _).trans hf1 (fun b hb q => q.elim)
    clear c0 hout
    go_wp2
    go_ret
    exact ⟨rfl, ha1, hf⟩
theorem len_any (ba bw : Nat) (l : List Int) (u : Nat) (w : World) (ha : Arena w ba bw l u) :
    Calls Try.prog 31 #[.pointer (some ⟨ba, 0, none⟩)] w fun e w' => e = .returned (.int .i64 l.length) ∧ w = w' := by
  have c0 := ha.box.cell 0
  simp at c0
  go_enter Try.func31, Try.ntmps31
  go_wp2
  go_ret
  exact ⟨rfl, rfl⟩
theorem infoInt : (Try.prog.info? 2).map (fun i => (i.zero, i.size, i.bytes)) = some (some (.int .i64 0), 1, 8) := by kernel_rfl
set_option maxRecDepth 100000 in
theorem new_in (n : Int) (w : World) (h1 : 1 ≤ n) (h2 : n ≤ 65536) :
    Calls Try.prog 29 #[.int .i64 n] w fun e w' =>
      ∃ ba bw, e = .returned (.tuple #[.pointer (some ⟨ba, 0, none⟩), .int .i64 0]) ∧ Arena w' ba bw (List.replicate n.toNat 0) 0 ∧ w.heap.size ≤ ba ∧ w.heap.size ≤ bw ∧ Fr Nil w w' := by
  obtain ⟨m, rfl⟩ := Int.eq_ofNat_of_zero_le (show 0 ≤ n by omega)
  have hmk := run_make_ints w 61 2 Try.underlying61 infoInt m (by omega)
  have g1 := (Blk.new w (ints (List.replicate m 0)) 2).alloc (.cells #[.slice (some ⟨w.heap.size, 0, none⟩) m m, .int .i64 0] 87)
  have g2 := Blk.new (w.alloc (.cells (ints (List.replicate m 0)) 2)) #[.slice (some ⟨w.heap.size, 0, none⟩) m m, .int .i64 0] 87
  have g3 : Fr Nil w ((w.alloc (.cells (ints (List.replicate m 0)) 2)).alloc (.cells #[.slice (some ⟨w.heap.size, 0, none⟩) m m, .int .i64 0] 87)) := ((Fr.refl _ _).alloc _).alloc _
  simp at g2
  rw [Int.toNat_natCast]
  go_enter Try.func29, Try.ntmps29
  go_wp2
  go_ret2
  exact ⟨_, _, rfl, ⟨by simpa using g2, g1⟩, by omega, by omega, g3⟩
set_option maxRecDepth 100000 in
theorem new_out (n : Int) (w : World) (h : n < 1 ∨ 65536 < n) :
    Calls Try.prog 29 #[.int .i64 n] w fun e w' => e = .returned (.tuple #[.pointer none, .int .i64 1]) ∧ w = w' := by
  rcases h with h | h
  all_goals
    go_enter Try.func29, Try.ntmps29
    go_wp2
    go_ret2
    exact ⟨rfl, rfl⟩
/-- A block whose first cells are so many numbers. -/
def HoldsInts (w : World) (b cap : Nat) (l : List Int) : Prop := ∃ cur, Blk w b cur 2 ∧ cur.size = cap ∧ cur.toList.take l.length = (ints l).toList
theorem HoldsInts.cell {w : World} {b cap : Nat} {l : List Int} (h : HoldsInts w b cap l) {k : Nat} (hk : k < l.length) : w.cell? ⟨b, k, none⟩ = some (.int .i64 (nth l k)) := by
  obtain ⟨cur, hb, _, ht⟩ := h
  rw [hb.cell k, ← ints_at l k hk]
  have : (cur.toList.take l.length)[k]? = (ints l).toList[k]? := by rw [ht]
  rw [List.getElem?_take_of_lt hk] at this
  simpa using this
theorem clone_any (bw : Nat) (l : List Int) (w : World) (ha : Blk w bw (ints l) 2) (h0 : 0 < l.length) (hl : l.length ≤ 1000000) :
    Calls Try.prog 46 #[.slice (some ⟨bw, 0, none⟩) l.length l.length] w fun e w' =>
      ∃ b' cap, e = .returned (.slice (some ⟨b', 0, none⟩) l.length cap) ∧ HoldsInts w' b' cap l ∧ w.heap.size ≤ b' ∧ Fr Nil w w' := by
  have hnil := fun w : World => Lib.run_eql_slice_nil (P := Try.prog) w 61 2 (some ⟨bw, 0, none⟩) l.length l.length 0 0 Try.underlying61
  obtain ⟨i0, hi, hz0, hz1, hz2⟩ := info_parts infoInt
  have hown : (w.alloc (.cells #[] 2)).ownsRow w.heap.size 2 1 (.slice (some ⟨w.heap.size, 0, none⟩) 0 0) 0 [] :=
    ⟨rfl, .inr ⟨w.heap.size, 0, #[], rfl, Nat.le_refl _, Blk.new w #[] _, Nat.le_refl _, by unfold maxLen; omega, rfl, rfl⟩⟩
  have hc : ∀ j u, (ints l).toList[j]? = some u → (w.alloc (.cells #[] 2)).cell? ((⟨bw, 0, none⟩ : Addr).add j) = some u := by
    intro j u hj
    have := (ha.alloc (.cells #[] 2)).cell j
    rw [add_head, this]; simpa using hj
  have h1 : ∀ u ∈ (ints l).toList, u.oneCell' = true := by
    intro u hu
    simp [ints] at hu
    obtain ⟨x, _, rfl⟩ := hu
    rfl
  go_enter Try.func46, Try.ntmps46
  go_wp2_with (at_builtin; refine wpList_append_own _ rfl (.tmp 5) (.tmp 6) 61 rfl w.heap.size 2 i0 (.int .i64 0) 1 8 Try.underlying61 hi hz0 hz1 hz2 rfl (by decide) _ 0 [] rfl hown ⟨bw, 0, none⟩ l.length l.length (ints l).toList rfl (by simp) hc h1 (by unfold maxLen; omega) (by omega) (by simp) ?_)
  intro v' w1 hown1 hg1 hnil1
  have hnil2 : v' ≠ .slice none 0 0 := fun q => hnil1 q
  have hex : ∃ g cap cur, v' = .slice (some ⟨g, 0, none⟩) l.length cap ∧ w.heap.size ≤ g ∧ Blk w1 g cur 2 ∧ l.length ≤ cap ∧ cur.size = cap ∧ cur.toList.take l.length = (ints l).toList := by
    rcases hown1.2 with ⟨q, _⟩ | ⟨g, cap, cur, q1, q2, q3, q4, _, q5, q6⟩
    · exact absurd q hnil2
    · exact ⟨g, cap, cur, by simpa using q1, q2, q3, by simpa using q4, by simpa using q5, by simpa using q6⟩
  obtain ⟨g, cap, cur, hv, r1, r2, r3, r4, r5⟩ := hex
  have hf : Fr Nil w w1 := ((Fr.refl _ w).alloc _).grown hg1 (fun k hk q => by simp [Value.ownBlock] at hk; omega)
  clear hown1 hg1 hnil1 hnil2 hown hc h1 hnil hi hz0 hz1 hz2
  rw [hv]
  clear hv
  go_wp2
  go_ret
  exact ⟨g, cap, rfl, ⟨cur, r2, r4, r5⟩, r1, hf⟩
theorem words_any (ba bw : Nat) (l : List Int) (u : Nat) (w : World) (ha : Arena w ba bw l u) (h0 : 0 < l.length) (hl : l.length ≤ 1000000) :
    Calls Try.prog 27 #[.pointer (some ⟨ba, 0, none⟩)] w fun e w' =>
      ∃ b' cap, e = .returned (.slice (some ⟨b', 0, none⟩) l.length cap) ∧ HoldsInts w' b' cap l ∧ w.heap.size ≤ b' ∧ Fr Nil w w' := by
  have c0 := ha.box.cell 0
  simp at c0
  go_enter Try.func27, Try.ntmps27
  go_wp2_with fail
  refine (clone_any bw l w ha.words h0 hl).mono ?_
  rintro e w1 ⟨b', cap, rfl, h1, h2, h3⟩
  go_wp2
  go_ret
  exact ⟨b', cap, rfl, h1, h2, h3⟩
/-- The same contracts, the number of words by a name of its own. -/
theorem load_n (ba bw : Nat) (l : List Int) (n u : Nat) (k : Int) (w : World) (hl : Hid (l.length = n)) (ha : Arena w ba bw l u) (hu : u < 4611686018427387904) :
    Calls Try.prog 53 #[.pointer (some ⟨ba, 0, none⟩), .int .i64 k] w fun e w' =>
      e = .returned (.tuple #[.int .i64 (ldv l k), .int .i64 (lde n k)]) ∧ Arena w' ba bw l (u + hit n k) ∧ Fr (fun b => b = ba) w w' := by
  have h := load_any ba bw l u k w ha hu
  rw [hl.out] at h; exact h
theorem store_n (ba bw : Nat) (l : List Int) (n u : Nat) (k x : Int) (w : World) (hl : Hid (l.length = n)) (ha : Arena w ba bw l u) (hu : u < 4611686018427387904) :
    Calls Try.prog 48 #[.pointer (some ⟨ba, 0, none⟩), .int .i64 k, .int .i64 x] w fun e w' =>
      e = .returned (.int .i64 (lde n k)) ∧ Arena w' ba bw (stl l k x) (u + hit n k) ∧ Fr (fun b => b = ba ∨ b = bw) w w' := by
  have h := store_any ba bw l u k x w ha hu
  rw [hl.out] at h; exact h
theorem len_n (ba bw : Nat) (l : List Int) (n u : Nat) (w : World) (hl : Hid (l.length = n)) (ha : Arena w ba bw l u) :
    Calls Try.prog 31 #[.pointer (some ⟨ba, 0, none⟩)] w fun e w' => e = .returned (.int .i64 n) ∧ w = w' := by
  have h := len_any ba bw l u w ha
  rw [hl.out] at h; exact h
theorem words_n (ba bw : Nat) (l : List Int) (n u : Nat) (w : World) (hl : Hid (l.length = n)) (ha : Arena w ba bw l u) (h0 : 0 < n) (hn : n ≤ 1000000) :
    Calls Try.prog 27 #[.pointer (some ⟨ba, 0, none⟩)] w fun e w' =>
      ∃ b' cap, e = .returned (.slice (some ⟨b', 0, none⟩) n cap) ∧ HoldsInts w' b' cap l ∧ w.heap.size ≤ b' ∧ Fr Nil w w' := by
  have h := words_any ba bw l u w ha (by rw [hl.out]; exact h0) (by rw [hl.out]; exact hn)
  rw [hl.out] at h; exact h
theorem HoldsInts.free {w : World} {b cap : Nat} {l : List Int} (h : HoldsInts w b cap l) (k : Nat) : w.frozen? ⟨b, k, none⟩ = false := h.choose_spec.1.free k
theorem HoldsInts.lt {w : World} {b cap : Nat} {l : List Int} (h : HoldsInts w b cap l) : b < w.heap.size := h.choose_spec.1.lt
theorem stl_hid {l : List Int} {n : Nat} (h : Hid (l.length = n)) (k x : Int) : Hid ((stl l k x).length = n) := (stl_length l k x).trans h.out
end Go.Proofs.Ytlpdlhmdhlcdlaa
