/-
  Layer 7's statements: what they share. Conditions: sizes that memory bears, and the library's variables.
-/
import Derived.Test.YtomcmelgioamlaaDoorLex7
namespace Go.Proofs.YtomcmelgioamlaaDoor
set_option linter.unusedSimpArgs false
set_option linter.unusedVariables false
open Go.RowKit

theorem flatT_get (l : List TokV) (i : Nat) (hi : i < l.length) (k : Nat) (hk : k < 5) : (flatT l)[i * 5 + k]? = (tokCells l[i])[k]? := by
  induction l generalizing i with
  | nil => simp at hi
  | cons t l ih =>
    have e : flatT (t :: l) = tokCells t ++ flatT l := rfl
    have hl : (tokCells t).length = 5 := rfl
    rw [e]
    cases i with
    | zero =>
      rw [List.getElem?_append_left (by rw [hl]; omega)]
      simp
    | succ i =>
      rw [List.getElem?_append_right (by rw [hl]; omega), hl, show (i + 1) * 5 + k - 5 = i * 5 + k by omega]
      exact ih i (by simpa using hi)
theorem tok_cell {base g cap : Nat} {w : World} {l : List TokV} {n : Nat} (h : ToksAt base w (.slice (some ⟨g, 0, none⟩) n cap) l) (hn : n = l.length) (i : Nat) (hi : i < l.length) (k : Nat) (hk : k < 5) : w.cell? ⟨g, i * 5 + k, none⟩ = (tokCells l[i])[k]? := by
  subst hn
  rw [World.ownsRow.cellAt h (i * 5 + k) (by omega)]
  exact flatT_get l i hi k hk
theorem toks_form {base : Nat} {w : World} {v : Value} {l : List TokV} (h : ToksAt base w v l) (hn : 0 < l.length) : ∃ g cap, v = .slice (some ⟨g, 0, none⟩) l.length cap := by
  obtain ⟨g, cap, e⟩ := Joins.ownsRow_form h hn
  exact ⟨g, cap, e⟩
theorem lexG_size : ∀ (n : Nat) (acc : List TokV) (l : List UInt8) (line : Nat), acc.length ≤ 4096 → (lexG n acc l line).toks.length ≤ 4096 := by
  intro n
  induction n with
  | zero => intro acc l line h; exact h
  | succ n ih =>
    intro acc l line h
    by_cases hl : l = []
    · subst hl; rw [lexG_end]; exact h
    · by_cases he : (oneF l line).2 = 0
      · by_cases hf : acc.length = 4096
        · rw [lexG_full hl he hf]; simp
        · rw [lexG_more hl he hf]
          exact ih _ _ _ (by simp; omega)
      · rw [lexG_bad hl he]; simp
theorem lexF_size (l : List UInt8) : (lexF l).toks.length ≤ 4096 := by
  unfold lexF
  exact lexG_size _ _ _ _ (by simp)
/-- The same tokens are the same. -/
theorem same_any (l : List TokV) (va vb : Value) (b1 b2 : Nat) (w : World) (h1 : ToksAt b1 w va l) (h2 : ToksAt b2 w vb l) (hl : l.length ≤ 4096) :
    Calls Tryd.prog 13 #[va, vb] w fun e w' => e = .returned (.bool true) ∧ Fr Nil w w' := by
  rcases Nat.eq_zero_or_pos l.length with hz | hz
  · obtain ⟨a1, k1, rfl⟩ := owns_shape h1
    obtain ⟨a2, k2, rfl⟩ := owns_shape h2
    rw [hz]
    clear h1 h2 hl
    go_enter Tryd.func13, Tryd.ntmps13
    go_wp2_with fail
    go_loopw [5] (fun i wr => i = .int .i64 0 ∧ Fr Nil w wr) (fun _ _ => 0)
    case atStart => exact ⟨rfl, Fr.refl _ _⟩
    case round =>
      obtain ⟨rfl, hw⟩ := hrel
      go_wp2
      go_ret
      exact ⟨rfl, hw⟩
  · obtain ⟨g1, k1, rfl⟩ := toks_form h1 hz
    obtain ⟨g2, k2, rfl⟩ := toks_form h2 hz
    have H1 := Lib.hid h1
    have H2 := Lib.hid h2
    clear h1 h2
    go_enter Tryd.func13, Tryd.ntmps13
    go_wp2_with fail
    go_loopw [5] (fun i wr => ∃ k : Nat, k ≤ l.length ∧ i = .int .i64 k ∧ Fr Nil w wr) (fun i _ => l.length - (intOf i).toNat)
    case atStart => exact ⟨0, by omega, rfl, Fr.refl _ _⟩
    case round =>
      obtain ⟨k, hk, rfl, hw⟩ := hrel
      by_cases hlt : k < l.length
      · have p := H1.out.fr hw
        have q := H2.out.fr hw
        have p0 := tok_cell p rfl k hlt 0 (by omega)
        have p1 := tok_cell p rfl k hlt 1 (by omega)
        have p2 := tok_cell p rfl k hlt 2 (by omega)
        have p3 := tok_cell p rfl k hlt 3 (by omega)
        have p4 := tok_cell p rfl k hlt 4 (by omega)
        have q0 := tok_cell q rfl k hlt 0 (by omega)
        have q1 := tok_cell q rfl k hlt 1 (by omega)
        have q2 := tok_cell q rfl k hlt 2 (by omega)
        have q3 := tok_cell q rfl k hlt 3 (by omega)
        have q4 := tok_cell q rfl k hlt 4 (by omega)
        simp only [tokCells, Nat.add_zero, List.getElem?_cons_zero, List.getElem?_cons_succ] at p0 p1 p2 p3 p4 q0 q1 q2 q3 q4
        generalize l[k].kind = t0 at *
        generalize (⟨l[k].text.toArray⟩ : ByteArray) = t1 at *
        generalize l[k].flt = t2 at *
        generalize (l[k].bits : Int) = t3 at *
        generalize (l[k].line : Int) = t4 at *
        have i0 : (0 : Int) ≤ (k : Int) := by omega
        have i1 : (k : Int) < (l.length : Int) := by omega
        clear p q
        go_wp2
        go_quiet (fail)
        go_wp2
        go_roundw
        case rel => exact ⟨k + 1, by omega, by go_num, hw.drewN _⟩
        case measure => simp [intOf]; omega
      · obtain rfl : k = l.length := by omega
        have i1 : ¬ ((l.length : Int) < (l.length : Int)) := by omega
        go_wp2
        go_ret
        exact ⟨rfl, hw⟩
theorem lex_awake : lexF [102, 32, 120, 61, 120, 43, 46, 35, 45, 49, 45, 45, 121] = ⟨[⟨1, [102], false, 0, 1⟩, ⟨1, [120], false, 0, 1⟩, ⟨6, [61], false, 0, 1⟩, ⟨1, [120], false, 0, 1⟩, ⟨4, [43, 46], false, 0, 1⟩, ⟨3, [35, 45, 49], false, 18446744073709551615, 1⟩], 0, 0⟩ := by kernel_rfl
theorem awake_any (w : World) (hW : LibW w) : Calls Tryd.prog 10 #[] w fun e w' => e = .returned (.bool true) ∧ Fr Nil w w' := by
  have hlex := lex_any ⟨#[102, 32, 120, 61, 120, 43, 46, 35, 45, 49, 45, 45, 121]⟩ w hW (by decide)
  rw [show (⟨#[102, 32, 120, 61, 120, 43, 46, 35, 45, 49, 45, 45, 121]⟩ : ByteArray).data.toList = [102, 32, 120, 61, 120, 43, 46, 35, 45, 49, 45, 45, 121] from rfl, lex_awake] at hlex
  simp only at hlex
  have HX := Lib.hid hlex
  clear hlex hW
  go_enter Tryd.func10, Tryd.ntmps10
  go_wp2_with fail
  refine (HX.out).mono ?_
  rintro e w1 ⟨v, rfl, hv, f1⟩
  obtain ⟨g, cap, rfl⟩ := toks_form hv (by decide)
  have c10 := tok_cell hv rfl 2 (by decide) 0 (by omega)
  have c21 := tok_cell hv rfl 4 (by decide) 1 (by omega)
  have c28 := tok_cell hv rfl 5 (by decide) 3 (by omega)
  simp [tokCells] at c10 c21 c28
  clear hv HX
  simp only [List.length_cons, List.length_nil]
  go_wp2
  go_ret
  exact ⟨rfl, by (repeat (first | (with_reducible exact Fr.refl _ _) | (with_reducible assumption) | (with_reducible exact Fr.of_nil (by assumption)) | (with_reducible refine Fr.drew ?_) | (with_reducible refine Fr.drewN ?_ _) | (with_reducible refine Fr.alloc ?_ _) | (with_reducible refine Fr.set ?_ _ _ (by first | (intros; omega) | (simp; done) | (simp; omega))) | (with_reducible refine Fr.via ?_ (by assumption)) | (with_reducible refine Fr.comp ?_ (by assumption))))⟩
theorem tells_any (s : ByteArray) (w : World) (hW : LibW w) : Calls Tryd.prog 3 #[.string s] w fun e w' => e = .returned (.bool true) ∧ Fr Nil w w' := by
  have hav := awake_any w hW
  have HA := Lib.hid hav
  have HW := Lib.hid hW
  clear hav hW
  by_cases hs : s.size ≤ 20000
  · have t1 : ¬ (20000 : Int) < (s.size : Int) := by omega
    have hlx := fun w h => lex_any s w h (by omega)
    have hrl := fun w => rlex_any s w (by omega)
    have hle : (lexF s.data.toList).toks.length ≤ 4096 := lexF_size _
    generalize lexF s.data.toList = R at *
    have HLX := Lib.hid hlx
    have HRL := Lib.hid hrl
    clear hlx hrl
    go_enter Tryd.func3, Tryd.ntmps3
    go_wp2_with fail
    refine (HA.out).mono ?_
    rintro e w1 ⟨rfl, f1⟩
    go_wp2_with fail
    refine (HLX.out _ (HW.out.fr f1)).mono ?_
    rintro e w2 ⟨va, rfl, h1, f2⟩
    go_wp2_with fail
    refine (HRL.out _).mono ?_
    rintro e w3 ⟨vb, rfl, h2, f3⟩
    go_wp2_with fail
    refine (same_any R.toks va vb _ _ _ (h1.fr f3) h2 hle).mono ?_
    rintro e w4 ⟨rfl, f4⟩
    go_wp2
    go_ret
    exact ⟨rfl, by (repeat (first | (with_reducible exact Fr.refl _ _) | (with_reducible assumption) | (with_reducible exact Fr.of_nil (by assumption)) | (with_reducible refine Fr.drew ?_) | (with_reducible refine Fr.drewN ?_ _) | (with_reducible refine Fr.alloc ?_ _) | (with_reducible refine Fr.set ?_ _ _ (by first | (intros; omega) | (simp; done) | (simp; omega))) | (with_reducible refine Fr.via ?_ (by assumption)) | (with_reducible refine Fr.comp ?_ (by assumption))))⟩
  · have t1 : (20000 : Int) < (s.size : Int) := by omega
    go_enter Tryd.func3, Tryd.ntmps3
    go_wp2_with fail
    refine (HA.out).mono ?_
    rintro e w1 ⟨rfl, f1⟩
    go_wp2
    go_ret
    exact ⟨rfl, by (repeat (first | (with_reducible exact Fr.refl _ _) | (with_reducible assumption) | (with_reducible exact Fr.of_nil (by assumption)) | (with_reducible refine Fr.drew ?_) | (with_reducible refine Fr.drewN ?_ _) | (with_reducible refine Fr.alloc ?_ _) | (with_reducible refine Fr.set ?_ _ _ (by first | (intros; omega) | (simp; done) | (simp; omega))) | (with_reducible refine Fr.via ?_ (by assumption)) | (with_reducible refine Fr.comp ?_ (by assumption))))⟩
end Go.Proofs.YtomcmelgioamlaaDoor
