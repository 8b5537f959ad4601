/-
  Contracts of the document's answer for layer 7: the token that stands at a place. No conditions but sizes that memory bears.
-/
import Derived.Test.YthpenpgcacikaaaRef07d
namespace Go.Proofs.Ythpenpgcacikaaa
set_option linter.unusedSimpArgs false
set_option linter.unusedVariables false
open Go.RowKit

def tokV (t : TokV) : Value := .agg #[.int .i64 t.kind, .string ⟨t.text.toArray⟩, .bool t.flt, .int .u64 (t.bits : Int), .int .i64 (t.line : Int)]
theorem refV_num (s : List UInt8) : refV s = .tuple #[.agg #[.bool (numOf s).1, .int .u64 ((numOf s).2.1 : Int)], .int .i64 (numOf s).2.2] := by
  have form : ∃ (f : Bool) (b : Nat) (e : Int), refV s = .tuple #[.agg #[.bool f, .int .u64 (b : Int)], .int .i64 e] := by
    have hb : ∀ l, ∃ (f : Bool) (b : Nat) (e : Int), bitsV l = .tuple #[.agg #[.bool f, .int .u64 (b : Int)], .int .i64 e] := by
      intro l
      unfold bitsV
      split
      · exact ⟨_, _, _, rfl⟩
      · exact ⟨_, 0, _, rfl⟩
    have hp : ∀ m d t, ∃ (f : Bool) (b : Nat) (e : Int), parseV m d t = .tuple #[.agg #[.bool f, .int .u64 (b : Int)], .int .i64 e] := by
      intro m d t
      unfold parseV resV
      split
      · split
        · exact ⟨_, _, _, rfl⟩
        · split
          · exact ⟨_, _, _, rfl⟩
          · split
            · exact ⟨_, _, _, rfl⟩
            · exact ⟨_, _, _, rfl⟩
      · exact ⟨_, _, _, rfl⟩
    unfold refV
    split
    · exact hb _
    · split
      · exact hp _ _ _
      · exact hp _ _ _
  obtain ⟨f, b, e, h⟩ := form
  rw [numOf_of h, h]
theorem extract_from (s : ByteArray) (a b : Nat) : (s.extract a b).data.toList = (s.data.toList.drop a).take (b - a) := by
  simp [ByteArray.data_extract]
theorem extract_off (s : ByteArray) : (s.extract 1 s.size).data.toList = s.data.toList.drop 1 := by
  rw [extract_from, List.take_of_length_le]
  rw [List.length_drop]
  simp
set_option maxRecDepth 100000 in
set_option maxHeartbeats 1000000 in
theorem rnumber_any (kd : Int) (f0 : Bool) (b0 : Int) (line : Nat) (s : ByteArray) (w : World) (hs : 0 < s.size) (hs' : s.size ≤ 1000000) :
    Calls Try.prog 54 #[.agg #[.int .i64 kd, .string s, .bool f0, .int .u64 b0, .int .i64 line]] w fun e w' => e = .returned (.tuple #[tokV (numberF s.data.toList line).1, .int .i64 (numberF s.data.toList line).2]) ∧ Fr Nil w w' := by
  have hh : s.data.toList.head? = some s[0] := by rw [List.head?_eq_getElem?]; exact bytes_at s 0 hs
  have i1 : (0 : Int) < (s.size : Int) := by omega
  have i2 : (1 : Int) ≤ (s.size : Int) := by omega
  have hse : (⟨s.data.toList.toArray⟩ : ByteArray) = s := bytes_eq _ _ (by simp)
  by_cases h35 : s[0].toNat = 35
  · have c0 : ((s[0].toNat : Int) == 35) = true := by rw [h35]; rfl
    have ho : hashOff s.data.toList = (s.extract 1 s.size).data.toList := by
      unfold hashOff
      rw [hh, if_pos (congrArg some (u8_of (d := 35) h35 rfl)), extract_off]
    have hn := refV_num (s.extract 1 s.size).data.toList
    rw [← ho] at hn
    unfold numberF tokV
    rw [hse]
    generalize numOf (hashOff s.data.toList) = q at hn ⊢
    obtain ⟨f, b, e⟩ := q
    simp only at hn ⊢
    rw [ho] at hn
    have HN := Lib.hid hn
    clear hn hh ho h35
    go_enter Try.func54, Try.ntmps54
    go_wp2_with fail
    refine (rparse_any (s.extract 1 s.size) _ (by simp; omega)).mono ?_
    rw [HN.out]
    rintro e1 w2 ⟨rfl, f2⟩
    obtain ⟨_, _, _⟩ := f2.at (w.heap.size) (by first | assumption | omega | (simp; done) | (simp; omega)); obtain ⟨_, _, _⟩ := f2.at (w.heap.size + 1) (by first | assumption | omega | (simp; done) | (simp; omega))
    go_wp2
    refine bodyPost_ret (v := .tuple #[.agg #[.int .i64 3, .string s, .bool f, .int .u64 (b : Int), .int .i64 (line : Int)], .int .i64 e]) (by simp [results, Try.results54, go_sem, *]) rfl ⟨rfl, ?_⟩
    (repeat (first | (with_reducible exact Fr.refl _ _) | (with_reducible assumption) | (with_reducible exact Fr.of_nil (by assumption)) | (with_reducible refine Fr.drew ?_) | (with_reducible refine Fr.drewN ?_ _) | (with_reducible refine Fr.alloc ?_ _) | (with_reducible refine Fr.set ?_ _ _ (by first | (intros; omega) | (simp; done) | (simp; omega))) | (with_reducible refine Fr.via ?_ (by assumption)) | (with_reducible refine Fr.comp ?_ (by assumption))))
  · have c0 : ((s[0].toNat : Int) == 35) = false := by simp; omega
    have ho : hashOff s.data.toList = s.data.toList := by
      unfold hashOff
      rw [hh, if_neg (fun e => h35 (by rw [Option.some.inj e]; rfl))]
    have hn := refV_num s.data.toList
    unfold numberF tokV
    rw [hse, ho]
    generalize numOf s.data.toList = q at hn ⊢
    obtain ⟨f, b, e⟩ := q
    simp only at hn ⊢
    have HN := Lib.hid hn
    clear hn hh ho h35 hse
    go_enter Try.func54, Try.ntmps54
    go_wp2_with fail
    refine (rparse_any s _ (by omega)).mono ?_
    rw [HN.out]
    rintro e1 w2 ⟨rfl, f2⟩
    obtain ⟨_, _, _⟩ := f2.at (w.heap.size) (by first | assumption | omega | (simp; done) | (simp; omega)); obtain ⟨_, _, _⟩ := f2.at (w.heap.size + 1) (by first | assumption | omega | (simp; done) | (simp; omega))
    go_wp2
    refine bodyPost_ret (v := .tuple #[.agg #[.int .i64 3, .string s, .bool f, .int .u64 (b : Int), .int .i64 (line : Int)], .int .i64 e]) (by simp [results, Try.results54, go_sem, *]) rfl ⟨rfl, ?_⟩
    (repeat (first | (with_reducible exact Fr.refl _ _) | (with_reducible assumption) | (with_reducible exact Fr.of_nil (by assumption)) | (with_reducible refine Fr.drew ?_) | (with_reducible refine Fr.drewN ?_ _) | (with_reducible refine Fr.alloc ?_ _) | (with_reducible refine Fr.set ?_ _ _ (by first | (intros; omega) | (simp; done) | (simp; omega))) | (with_reducible refine Fr.via ?_ (by assumption)) | (with_reducible refine Fr.comp ?_ (by assumption))))
end Go.Proofs.Ythpenpgcacikaaa
