/- The plain function's tokens, one by one: what lies between them is skipped; each alone is one token. -/
import Derived.Test.YtincigcoagcgaaaDoorRefLex5
namespace Go.Proofs.YtincigcoagcgaaaDoor.Pr
set_option linter.unusedVariables false
set_option linter.unusedSimpArgs false
open Go.RowKit Go.Proofs.YtincigcoagcgaaaDoorW.PrintWords Go.Proofs.YtincigcoagcgaaaDoorW.PrintLast Go.Proofs.YtincigcoagcgaaaDoorW.PrintMore

theorem byte_wf6 {x : Int} (h : (Lit.int .u8 x).wf = true) : 0 ≤ x ∧ x ≤ 255 := by
  have h1 : IntKind.u8.min = 0 := rfl
  have h2 : IntKind.u8.max = 255 := rfl
  simp only [Lit.wf, Bool.and_eq_true, decide_eq_true_eq] at h
  omega
theorem bytes_wf6 {xs : List Int} (h : ∀ x ∈ xs, (Lit.int .u8 x).wf = true) : Bytes xs := fun x hx => byte_wf6 (h x hx)

theorem bytesOf_str {xs : List Int} (hx : Bytes xs) : bytesOf (strOfNums xs) = xs := by
  unfold bytesOf strOfNums
  simp only [List.map_map]
  refine (List.map_congr_left fun x h => ?_).trans (List.map_id xs)
  have := hx x h
  show ((UInt8.ofNat x.toNat).toNat : Int) = x
  have e2 : (UInt8.ofNat x.toNat).toNat = x.toNat := by
    show x.toNat % 256 = _
    omega
  rw [e2]; omega

theorem lexf {a : List Int} (h : a.length ≤ 4096) : lex_Tokens.f a = some (lexL a 0 []) := by unfold lex_Tokens.f; rw [if_neg (by omega)]; rfl

theorem rdT_head (t : S33) (l : List S33) : rd_T33 (t :: l) 0 = t := rfl

theorem str_ne {xs : List Int} (h : 1 ≤ xs.length) : ¬ (strOfNums xs).toList = ([] : List UInt8) := by
  rw [ByteArray.toList_eq]
  intro h2
  have h3 := congrArg List.length h2
  have h4 := size_str xs
  rw [Array.length_toList] at h3
  have h5 : (strOfNums xs).size = (strOfNums xs).data.size := rfl
  rw [List.length_nil] at h3
  omega

theorem lead_take (p : Int → Bool) (xs : List Int) : ∀ j : Nat, lead p (xs.take j) = min (lead p xs) j := by
  induction xs with
  | nil => intro j; simp [lead]
  | cons x xs ih =>
    intro j
    cases j with
    | zero => simp [lead]
    | succ j =>
      rw [List.take_succ_cons, lead, lead, ih j]
      split <;> omega

/-- The first j are blanks and notes. -/
inductive Sk : List Int → Nat → Prop
  | zero (a : List Int) : Sk a 0
  | step (a : List Int) (m j : Nat) : lexStep a = .skip m → m ≤ j → j ≤ a.length → Sk (a.drop m) (j - m) → Sk a j

theorem step_take_skip {a : List Int} {m j : Nat} (h : lexStep a = .skip m) (hj : m ≤ j) : lexStep (a.take j) = .skip m := by
  have hp := (step_pos a).1 m h
  cases a with
  | nil => cases h
  | cons c r =>
    obtain ⟨j, rfl⟩ : ∃ i, j = i + 1 := ⟨j - 1, by omega⟩
    have e := lead_take isNote (c :: r) (j + 1)
    rw [List.take_succ_cons] at e ⊢
    simp only [lexStep] at h ⊢
    by_cases h1 : isBlank c = true
    · rw [if_pos h1] at h ⊢; exact h
    · rw [if_neg h1] at h ⊢
      by_cases h2 : (c == 59) = true
      · rw [if_pos h2] at h ⊢
        injection h with h
        rw [e, h, Nat.min_eq_left hj]
      · rw [if_neg h2] at h
        exfalso
        repeat' first
          | (split at h; skip)
          | contradiction

theorem sk_lex {a : List Int} {j : Nat} (h : Sk a j) : ∀ (at_ : Int) (out : List S33), lexL (a.take j) at_ out = (out, -1, 0) := by
  induction h with
  | zero a => intro at_ out; rw [List.take_zero, lexL_nil]
  | step a m j hs hm hj _ ih =>
    intro at_ out
    have hp := (step_pos a).1 m hs
    rw [lexL_step _ _ _ (by rw [List.length_take]; omega), step_take_skip hs hm]
    simp only
    rw [List.drop_take]
    exact ih _ _

theorem sk_end {a : List Int} {j : Nat} (h : Sk a j) : ∀ m : Nat, lexStep (a.drop j) = .skip m → j + m ≤ a.length → Sk a (j + m) := by
  induction h with
  | zero a =>
    intro m hs hl
    rw [List.drop_zero] at hs
    refine .step a m (0 + m) hs (by omega) hl ?_
    rw [show 0 + m - m = 0 from by omega]
    exact .zero _
  | step a m' j hs hm hj _ ih =>
    intro m hs' hl
    have := ih m (by rw [List.drop_drop, show m' + (j - m') = j from by omega]; exact hs') (by rw [List.length_drop]; omega)
    refine .step a m' (j + m) hs (by omega) hl ?_
    rw [show j + m - m' = j - m' + m from by omega]
    exact this

theorem rd_take0 (r : List Int) (n : Nat) (h : 1 ≤ (r.take n).length) : rd (r.take n) 0 = rd r 0 := by
  cases r with
  | nil => simp at h
  | cons d r =>
    cases n with
    | zero => simp at h
    | succ n => rfl

/-- A token alone: the step is the same. -/
theorem step_take_tok {a : List Int} {kd : Int} {n : Nat} (h : lexStep a = .tok kd n) : lexStep (a.take n) = .tok kd n := by
  have hp := (step_pos a).2.1 kd n h
  cases a with
  | nil => cases h
  | cons c r =>
    obtain ⟨n, rfl⟩ : ∃ i, n = i + 1 := ⟨n - 1, by omega⟩
    have e := lead_take isWithin (c :: r) (n + 1)
    rw [List.take_succ_cons] at e ⊢
    simp only [lexStep] at h ⊢
    by_cases h1 : isBlank c = true
    · rw [if_pos h1] at h; cases h
    rw [if_neg h1] at h ⊢
    by_cases h2 : (c == 59) = true
    · rw [if_pos h2] at h; cases h
    rw [if_neg h2] at h ⊢
    by_cases h3 : (c == 40) = true
    · rw [if_pos h3] at h ⊢; exact h
    rw [if_neg h3] at h ⊢
    by_cases h4 : (c == 41) = true
    · rw [if_pos h4] at h ⊢; exact h
    rw [if_neg h4] at h ⊢
    by_cases h5 : (c == 45) = true ∧ 1 ≤ r.length ∧ (rd r 0 == 62) = true
    · rw [if_pos h5] at h
      injection h with hk hn
      have hl : 1 ≤ (r.take n).length := by rw [List.length_take]; omega
      rw [if_pos ⟨h5.1, hl, by rw [rd_take0 r n hl]; exact h5.2.2⟩, hk, ← hn]
    rw [if_neg h5] at h
    rw [if_neg (fun hx => h5 ⟨hx.1, by have := hx.2.1; rw [List.length_take] at this; omega, by rw [← rd_take0 r n hx.2.1]; exact hx.2.2⟩)]
    by_cases h6 : isDigit c = true ∨ ((c == 45) = true ∧ 1 ≤ r.length ∧ isDigit (rd r 0) = true)
    · rw [if_pos h6] at h; cases h
    rw [if_neg h6] at h
    rw [if_neg (fun hx => h6 (hx.imp id fun hx => ⟨hx.1, by have := hx.2.1; rw [List.length_take] at this; omega, by rw [← rd_take0 r n hx.2.1]; exact hx.2.2⟩))]
    by_cases h7 : isLower c = true
    · rw [if_pos h7] at h ⊢
      injection h with hk hn
      rw [e, hk, hn, Nat.min_self]
    rw [if_neg h7] at h ⊢
    by_cases h8 : isUpper c = true
    · rw [if_pos h8] at h ⊢
      injection h with hk hn
      rw [e, hk, hn, Nat.min_self]
    rw [if_neg h8] at h ⊢
    by_cases h9 : isSym c = true
    · rw [if_pos h9] at h ⊢; exact h
    rw [if_neg h9] at h; cases h

theorem step_take_num {a : List Int} {n : Nat} (h : lexStep a = .num n) : lexStep (a.take n) = .num n := by
  have hp := (step_pos a).2.2 n h
  cases a with
  | nil => cases h
  | cons c r =>
    obtain ⟨n, rfl⟩ : ∃ i, n = i + 1 := ⟨n - 1, by omega⟩
    have e := lead_take isDigit r n
    rw [List.take_succ_cons]
    simp only [lexStep] at h ⊢
    by_cases h1 : isBlank c = true
    · rw [if_pos h1] at h; cases h
    rw [if_neg h1] at h ⊢
    by_cases h2 : (c == 59) = true
    · rw [if_pos h2] at h; cases h
    rw [if_neg h2] at h ⊢
    by_cases h3 : (c == 40) = true
    · rw [if_pos h3] at h; cases h
    rw [if_neg h3] at h ⊢
    by_cases h4 : (c == 41) = true
    · rw [if_pos h4] at h; cases h
    rw [if_neg h4] at h ⊢
    by_cases h5 : (c == 45) = true ∧ 1 ≤ r.length ∧ (rd r 0 == 62) = true
    · rw [if_pos h5] at h; cases h
    rw [if_neg h5] at h
    rw [if_neg (fun hx => h5 ⟨hx.1, by have := hx.2.1; rw [List.length_take] at this; omega, by rw [← rd_take0 r n hx.2.1]; exact hx.2.2⟩)]
    by_cases h6 : isDigit c = true ∨ ((c == 45) = true ∧ 1 ≤ r.length ∧ isDigit (rd r 0) = true)
    · rw [if_pos h6] at h
      injection h with hn
      rw [if_pos ?_, e, show lead isDigit r = n from by omega, Nat.min_self, Nat.add_comm]
      refine h6.imp id fun hx => ?_
      have h1 : 1 ≤ lead isDigit r := by
        cases r with
        | nil => simp at hx
        | cons d r => exact lead_cons_pos (by have := hx.2.2; simpa [rd] using this)
      have hl : 1 ≤ (r.take n).length := by rw [List.length_take]; omega
      exact ⟨hx.1, hl, by rw [rd_take0 r n hl]; exact hx.2.2⟩
    rw [if_neg h6] at h
    exfalso
    repeat' first
      | (split at h; skip)
      | contradiction

theorem numBad_take {a : List Int} {n : Nat} (hn : 1 ≤ n) (hl : n ≤ a.length) (h : ¬ numBad a n = true) : ¬ numBad (a.take n) n = true := by
  have h0 : rd (a.take n) 0 = rd a 0 := rd_take0 a n (by rw [List.length_take]; omega)
  unfold numBad at h ⊢
  rw [h0, decide_eq_false (show ¬ n < (a.take n).length from by rw [List.length_take]; omega), Bool.false_and, Bool.or_false]
  intro hx
  exact h (by rw [hx, Bool.true_or])

/-- A text is one token: of a kind, with a number. -/
def Tok1 (T : List Int) (kd v : Int) : Prop := (lexStep T = .tok kd T.length ∧ v = 0) ∨ (lexStep T = .num T.length ∧ kd = 2 ∧ v = numVal T ∧ ¬ numBad T T.length = true)

theorem tok1_lex {T : List Int} {kd v : Int} (h : Tok1 T kd v) (hl : T.length ≠ 0) (at_ : Int) (out : List S33) : lexL T at_ out = (out ++ [⟨kd, at_, strOfNums T, v⟩], -1, 0) := by
  rw [lexL_step _ _ _ hl]
  rcases h with ⟨h, rfl⟩ | ⟨h, rfl, rfl, hb⟩
  · rw [h]
    simp only
    rw [List.drop_length, List.take_length, lexL_nil]
  · rw [h]
    simp only
    rw [if_neg hb, List.drop_length, List.take_length, lexL_nil]

/-- Tokens from a place on, one by one. -/
inductive Good (xs : List Int) : Nat → List S33 → Prop
  | nil (e : Nat) : e ≤ xs.length → lexL (xs.drop e) 0 [] = ([], -1, 0) → Good xs e []
  | cons (e p n : Nat) (kd v : Int) (l : List S33) : e ≤ p → p + n ≤ xs.length → 1 ≤ n → lexL ((xs.take p).drop e) 0 [] = ([], -1, 0) →
      Tok1 ((xs.drop p).take n) kd v → Good xs (p + n) l → Good xs e (⟨kd, p, strOfNums ((xs.drop p).take n), v⟩ :: l)

theorem lex_good (xs : List Int) (d : Nat) : ∀ (p e : Nat), p ≤ xs.length → xs.length - p ≤ d → e ≤ p → Sk (xs.drop e) (p - e) → ∀ out, (lexL (xs.drop p) p out).2.2 = 0 →
    ∃ l, lexL (xs.drop p) p out = (out ++ l, -1, 0) ∧ Good xs e l := by
  have fin : ∀ (p e : Nat), p = xs.length → e ≤ p → Sk (xs.drop e) (p - e) → ∀ out, ∃ l, lexL (xs.drop p) p out = (out ++ l, -1, 0) ∧ Good xs e l := by
    intro p e hp he hs out
    refine ⟨[], ?_, .nil e (by omega) ?_⟩
    · rw [List.drop_eq_nil_of_le (by omega), lexL_nil, List.append_nil]
    · have := sk_lex hs 0 []
      rwa [List.take_of_length_le (by rw [List.length_drop]; omega)] at this
  induction d with
  | zero => intro p e hp hd he hs out h0; exact fin p e (by omega) he hs out
  | succ d ih =>
    intro p e hp hd he hs out h0
    by_cases hpe : p = xs.length
    · exact fin p e hpe he hs out
    · have hlen : (xs.drop p).length ≠ 0 := by rw [List.length_drop]; omega
      obtain ⟨p1, p2, p3⟩ := step_pos (xs.drop p)
      obtain ⟨q1, q2, q3⟩ := step_len (xs.drop p)
      rw [List.length_drop] at q1 q2 q3
      have bt : lexL ((xs.take p).drop e) 0 [] = ([], -1, 0) := by rw [List.drop_take]; exact sk_lex hs 0 []
      have one : ∀ (n : Nat), n ≤ xs.length - p → ((xs.drop p).take n).length = n := fun n h2 => by rw [List.length_take, List.length_drop]; omega
      have next : ∀ (n : Nat) (kd v : Int), 1 ≤ n → n ≤ xs.length - p → (lexL ((xs.drop p).drop n) ((p : Int) + n) (out ++ [⟨kd, p, strOfNums ((xs.drop p).take n), v⟩])).2.2 = 0 →
          Tok1 ((xs.drop p).take n) kd v →
          ∃ l, lexL ((xs.drop p).drop n) ((p : Int) + n) (out ++ [⟨kd, p, strOfNums ((xs.drop p).take n), v⟩]) = (out ++ l, -1, 0) ∧ Good xs e l := by
        intro n kd v h1 h2 h3 h4
        rw [List.drop_drop, show (p : Int) + (n : Int) = ((p + n : Nat) : Int) from by omega] at h3 ⊢
        obtain ⟨l, e1, g⟩ := ih (p + n) (p + n) (by omega) (by omega) (Nat.le_refl _) (by rw [Nat.sub_self]; exact .zero _) _ h3
        exact ⟨_ :: l, by rw [e1, List.append_assoc]; rfl, .cons e p n kd v l he (by omega) h1 bt h4 g⟩
      rw [lexL_step _ _ _ hlen] at h0 ⊢
      cases hst : lexStep (xs.drop p) with
      | skip m =>
        rw [hst] at h0
        simp only at h0 ⊢
        have h1 := p1 m hst
        have h2 := q1 m hst
        rw [List.drop_drop, show (p : Int) + (m : Int) = ((p + m : Nat) : Int) from by omega] at h0 ⊢
        have hs2 := sk_end hs m (by rw [List.drop_drop, show e + (p - e) = p from by omega]; exact hst) (by rw [List.length_drop]; omega)
        rw [show p - e + m = p + m - e from by omega] at hs2
        exact ih (p + m) e (by omega) (by omega) (by omega) hs2 out h0
      | tok kd n =>
        rw [hst] at h0
        simp only at h0 ⊢
        exact next n kd 0 (p2 kd n hst) (q2 kd n hst) h0 (.inl ⟨by rw [one n (q2 kd n hst)]; exact step_take_tok hst, rfl⟩)
      | num n =>
        rw [hst] at h0
        simp only at h0 ⊢
        by_cases hb : numBad (xs.drop p) n = true
        · rw [if_pos hb] at h0; exact absurd h0 (by show ¬(2 : Int) = 0; decide)
        · rw [if_neg hb] at h0 ⊢
          exact next n 2 _ (p3 n hst) (q3 n hst) h0 (.inr ⟨by rw [one n (q3 n hst)]; exact step_take_num hst, rfl, rfl, by rw [one n (q3 n hst)]; exact numBad_take (p3 n hst) (by rw [List.length_drop]; exact q3 n hst) hb⟩)
      | bad =>
        rw [hst] at h0
        exact absurd h0 (by show ¬(2 : Int) = 0; decide)
end Go.Proofs.YtincigcoagcgaaaDoor.Pr
