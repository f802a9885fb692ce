/- The law LexBlanks on lists. -/
import Derived.Test.YtincigcoagcgaaaDoorRefLex7
import Derived.Test.YtincigcoagcgaaaDoorLb1
namespace Go.Proofs.YtincigcoagcgaaaDoor.Pr
set_option linter.unusedVariables false
set_option linter.unusedSimpArgs false
open Go.RowKit Go.Proofs.YtincigcoagcgaaaDoorW.PrintWords Go.Proofs.YtincigcoagcgaaaDoorW.PrintLast Go.Proofs.YtincigcoagcgaaaDoorW.PrintMore

theorem take_succ_rd7 {xs : List Int} {i : Nat} (h : i < xs.length) : xs.take (i + 1) = xs.take i ++ [rd xs i] := by
  rw [List.take_succ_eq_append_getElem h, rd_get h]

theorem rdT_at {xs : List S33} {i : Nat} (h : i < xs.length) : rd_T33 xs (i : Int) = xs[i] := by unfold rd_T33; simp [h]

theorem face_at {l m : List S33} (h : m.map face = l.map face) (i : Nat) (hi : i < l.length) : ∃ hm : i < m.length, m[i].f0 = l[i].f0 ∧ m[i].f2 = l[i].f2 ∧ m[i].f3 = l[i].f3 := by
  have hl : m.length = l.length := by have := congrArg List.length h; simpa using this
  have hm : i < m.length := by omega
  have e := congrArg (fun z => z[i]?) h
  simp only [List.getElem?_map, List.getElem?_eq_getElem hi, List.getElem?_eq_getElem hm, Option.map_some] at e
  injection e with e
  unfold face at e
  simp only [Prod.mk.injEq] at e
  exact ⟨hm, e.1, e.2.1, e.2.2⟩

theorem at_parts {xs : List Int} {t : S33} (h : At xs t) : ∃ (p n : Nat), t.f1 = p ∧ t.f2 = strOfNums ((xs.drop p).take n) ∧ p + n ≤ xs.length ∧ 1 ≤ n ∧ t.f2.size = n := by
  obtain ⟨p, n, kd, v, rfl, hp, hn, _⟩ := h
  exact ⟨p, n, rfl, rfl, hp, hn, by show (strOfNums _).size = n; rw [size_str, List.length_take, List.length_drop]; omega⟩

theorem blanks_l2 {xs : List Int} (hl : xs.length ≤ 600) {l m : List S33} (hm : m.map face = l.map face) (hat : ∀ t ∈ l, At xs t) (hll : l.length ≤ 600) (d : Nat) : ∀ (i k : Nat), i ≤ l.length → l.length - i = d → d < k →
    reverielaw01_LexBlanks.l2 k xs l m (l.length : Int) i = some true := by
  induction d with
  | zero =>
    intro i k hi hd hk
    obtain ⟨k, rfl⟩ : ∃ j, k = j + 1 := ⟨k - 1, by omega⟩
    simp only [reverielaw01_LexBlanks.l2]
    rw [if_neg (by omega)]
  | succ d ih =>
    intro i k hi hd hk
    obtain ⟨k, rfl⟩ : ∃ j, k = j + 1 := ⟨k - 1, by omega⟩
    have hil : i < l.length := by omega
    obtain ⟨him, f0, f2, f3⟩ := face_at hm i hil
    obtain ⟨p, n, e1, e2, hp, hn, hs⟩ := at_parts (hat _ (List.getElem_mem hil))
    have next := ih (i + 1) k (by omega) (by omega) (by omega)
    simp only [reverielaw01_LexBlanks.l2]
    rw [if_pos (by omega), if_pos (by omega), if_pos (by omega), if_pos (by omega), rdT_at hil, rdT_at him, f0, f2, f3, if_pos rfl, if_pos rfl, if_pos rfl, hs, e1, w64 (x := (p : Int) + n) (by omega) (by omega), if_pos (by omega), if_pos (by omega), if_pos (by omega),
      show ((p : Int) + n).toNat = p + n from by omega, Int.toNat_natCast, List.drop_take, show p + n - p = n from by omega, ← e2, if_pos rfl, w64 (by omega) (by omega)]
    exact next

theorem blanks_l1 {xs : List Int} (hx : Bytes xs) (hl : xs.length ≤ 600) {note : List Int} (hnl : note.length ≤ 20) {l : List S33} (hat : ∀ t ∈ l, At xs t) (hll : l.length ≤ 600) (d : Nat) : ∀ (i k : Nat), i ≤ note.length → note.length - i = d → d + 700 < k →
    (∀ x ∈ note.take i, x ≠ 10) → reverielaw01_LexBlanks.l1 k xs l (wide note l) note (note.length : Int) i = some true := by
  induction d with
  | zero =>
    intro i k hi hd hk hn
    obtain ⟨k, rfl⟩ : ∃ j, k = j + 2 := ⟨k - 2, by omega⟩
    rw [List.take_of_length_le (by omega)] at hn
    rw [show k + 2 = (k + 1) + 1 from rfl]
    simp only [reverielaw01_LexBlanks.l1]
    rw [if_neg (by omega)]
    by_cases hw : ((wide note l).length : Int) > 4096
    · rw [if_pos hw]
    · obtain ⟨m, e1, e2⟩ := wide_lex hx hn l hat 0 []
      rw [if_neg hw, lexf (by omega), e1, Option.bind_some]
      simp only [List.nil_append]
      rw [if_pos trivial]
      have hml : m.length = l.length := by have := congrArg List.length e2; simpa using this
      simp only [reverielaw01_LexBlanks.j3]
      rw [if_neg (by rw [hml]; simp)]
      exact blanks_l2 hl e2 hat hll l.length 0 k (Nat.zero_le _) (by omega) (by omega)
  | succ d ih =>
    intro i k hi hd hk hn
    obtain ⟨k, rfl⟩ : ∃ j, k = j + 1 := ⟨k - 1, by omega⟩
    have hil : i < note.length := by omega
    simp only [reverielaw01_LexBlanks.l1]
    rw [if_pos (by omega), if_pos (by omega), if_pos (by omega)]
    by_cases h10 : rd note i = 10
    · rw [if_pos h10]
    · rw [if_neg h10, w64 (by omega) (by omega), show (i : Int) + 1 = ((i + 1 : Nat) : Int) from by omega]
      refine ih (i + 1) k (by omega) (by omega) (by omega) fun x hx' => ?_
      rw [take_succ_rd7 hil] at hx'
      rcases List.mem_append.1 hx' with h | h
      · exact hn x h
      · rw [List.mem_singleton.1 h]; exact h10

theorem wide_app (note : List Int) (a b : List S33) : wide note (a ++ b) = wide note a ++ wide note b := by
  induction a with
  | nil => rfl
  | cons t a ih => rw [List.cons_append, wide, wide, ih]; simp

theorem wide_len {xs : List Int} (hl : xs.length ≤ 600) {note : List Int} (hnl : note.length ≤ 20) (l : List S33) (hat : ∀ t ∈ l, At xs t) : (wide note l).length ≤ l.length * 624 := by
  induction l with
  | nil => simp [wide]
  | cons t l ih =>
    obtain ⟨p, n, e1, e2, hp, hn, hs⟩ := at_parts (hat t (by simp))
    have := ih fun t ht => hat t (List.mem_cons_of_mem _ ht)
    have hb := bytesOf_length t.f2
    rw [wide]
    simp only [List.length_append, List.length_cons, List.length_nil]
    omega

theorem blanks_l0 {xs : List Int} (hx : Bytes xs) (hl : xs.length ≤ 600) {note : List Int} (hnl : note.length ≤ 20) {l : List S33} (hat : ∀ t ∈ l, At xs t) (hll : l.length ≤ 600) (d : Nat) : ∀ (i k : Nat), i ≤ l.length → l.length - i = d → d + 800 < k →
    reverielaw01_LexBlanks.l0 k xs note l (wide note (l.take i)) l (l.length : Int) i = some true := by
  induction d with
  | zero =>
    intro i k hi hd hk
    obtain ⟨k, rfl⟩ : ∃ j, k = j + 1 := ⟨k - 1, by omega⟩
    rw [List.take_of_length_le (by omega)]
    simp only [reverielaw01_LexBlanks.l0]
    rw [if_neg (by omega)]
    exact blanks_l1 hx hl hnl hat hll note.length 0 k (Nat.zero_le _) rfl (by omega) (by rw [List.take_zero]; intro x h; cases h)
  | succ d ih =>
    intro i k hi hd hk
    obtain ⟨k, rfl⟩ : ∃ j, k = j + 1 := ⟨k - 1, by omega⟩
    have hil : i < l.length := by omega
    obtain ⟨p, n, e1, e2, hp, hn, hs⟩ := at_parts (hat _ (List.getElem_mem hil))
    have hw := wide_len hl hnl (l.take i) (fun t ht => hat t (List.mem_of_mem_take ht))
    have hti : (l.take i).length ≤ 600 := by rw [List.length_take]; omega
    have h2 : ([32, 59] : List Int).length = 2 := rfl
    have h3 : ([10, 9] : List Int).length = 2 := rfl
    simp only [reverielaw01_LexBlanks.l0]
    rw [if_pos (by omega), if_pos (by omega), if_pos (by omega), Option.bind_some, h2, if_pos (by omega), Option.bind_some, List.length_append, h2, if_pos (by omega), Option.bind_some, Option.bind_some, List.length_append, List.length_append, h2, h3, if_pos (by omega), Option.bind_some,
      List.length_append, List.length_append, List.length_append, h2, h3, rdT_at hil, hs, if_pos (by omega), w64 (by omega) (by omega), show (i : Int) + 1 = ((i + 1 : Nat) : Int) from by omega]
    have e3 : wide note (l.take i) ++ [32, 59] ++ note ++ [10, 9] ++ bytesOf l[i].f2 = wide note (l.take (i + 1)) := by
      rw [List.take_succ_eq_append_getElem hil, wide_app, wide, wide]; simp
    rw [e3]
    exact ih (i + 1) k (by omega) (by omega) (by omega)
end Go.Proofs.YtincigcoagcgaaaDoor.Pr
namespace Go.Proofs.YtincigcoagcgaaaDoor.Pure
set_option linter.unusedVariables false
set_option linter.unusedSimpArgs false
open Go.RowKit Go.Proofs.YtincigcoagcgaaaDoor.Pr Go.Proofs.YtincigcoagcgaaaDoorW.PrintWords Go.Proofs.YtincigcoagcgaaaDoorW.PrintLast

theorem LexBlanks : reverielaw01_LexBlanks.Pure := by
  intro xs note h1 h2 hw h3 h4 hw2
  have hx : Bytes xs := bytes_wf6 hw
  refine ⟨20000, ?_⟩
  unfold reverielaw01_LexBlanks.f reverielaw01_lives.f
  rw [Option.bind_some, if_pos rfl]
  obtain ⟨k, hk⟩ : ∃ k, 20000 = k + 1 := ⟨19999, rfl⟩
  obtain rfl : k = 19999 := by omega
  rw [hk]
  simp only [reverielaw01_LexBlanks.j0]
  by_cases hl : (xs.length : Int) > 600
  · rw [if_pos hl, if_pos trivial]; rfl
  rw [if_neg hl]
  by_cases hnl : (note.length : Int) > 20
  · rw [if_pos (decide_eq_true hnl)]; rfl
  · rw [if_neg (by simpa using hnl), lexf (by omega), Option.bind_some]
    obtain ⟨fa, pa, la⟩ := lexL_form xs.length xs (Nat.le_refl _) 0 [] 0 (0 + xs.length) (Int.le_refl _) (by omega) (fun t ht => nomatch ht)
    rcases fa with ⟨f1, f2⟩ | ⟨f1, f2, f3, f4⟩
    · obtain ⟨l, e1, g⟩ := lex_good xs xs.length 0 0 (Nat.zero_le _) (by omega) (Nat.le_refl _) (.zero _) [] f2
      rw [show lexL xs 0 [] = lexL (xs.drop 0) ((0 : Nat) : Int) [] from rfl, e1, List.nil_append]
      rw [show lexL xs 0 [] = lexL (xs.drop 0) ((0 : Nat) : Int) [] from rfl, e1, List.nil_append, List.length_nil] at la
      simp only at la ⊢
      rw [if_pos trivial]
      exact blanks_l0 hx (by omega) (by omega) (good_at g) (by omega) l.length 0 19999 (Nat.zero_le _) (by omega) (by omega)
    · rw [if_neg (by rw [f2]; decide), f1]
      rfl
end Go.Proofs.YtincigcoagcgaaaDoor.Pure
