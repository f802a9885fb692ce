/- The plain function's tokens: two texts one behind the other; a text further on. -/
import Derived.Test.YtincigcoagcgaaaDoorRefLex
namespace Go.Proofs.YtincigcoagcgaaaDoor.Pr
set_option linter.unusedVariables false
set_option linter.unusedSimpArgs false
open Go.RowKit Go.Proofs.YtincigcoagcgaaaDoorW.PrintWords Go.Proofs.YtincigcoagcgaaaDoorW.PrintLast Go.Proofs.YtincigcoagcgaaaDoorW.PrintMore

/-- A token further on. -/
def sh (s : Int) (t : S33) : S33 := ⟨t.f0, t.f1 + s, t.f2, t.f3⟩

theorem lead_app {p : Int → Bool} (h : p 10 = false) (a b : List Int) : lead p (a ++ 10 :: b) = lead p a := by
  induction a with
  | nil => show (if p 10 = true then lead p b + 1 else 0) = 0; rw [if_neg (by rw [h]; decide)]
  | cons x a ih => rw [List.cons_append, lead, lead, ih]

theorem step_app (a b : List Int) (ha : a ≠ []) : lexStep (a ++ 10 :: b) = lexStep a := by
  cases a with
  | nil => exact absurd rfl ha
  | cons c r =>
    have e1 : lead isNote (c :: (r ++ 10 :: b)) = lead isNote (c :: r) := lead_app (by decide) (c :: r) b
    have e2 : lead isWithin (c :: (r ++ 10 :: b)) = lead isWithin (c :: r) := lead_app (by decide) (c :: r) b
    have e3 : lead isDigit (r ++ 10 :: b) = lead isDigit r := lead_app (by decide) r b
    have h62 : (1 ≤ (r ++ 10 :: b).length ∧ (rd (r ++ 10 :: b) 0 == 62) = true) = (1 ≤ r.length ∧ (rd r 0 == 62) = true) := by
      apply propext; cases r with
      | nil => simp [rd]
      | cons d r => simp [rd]
    have hdg : (1 ≤ (r ++ 10 :: b).length ∧ isDigit (rd (r ++ 10 :: b) 0) = true) = (1 ≤ r.length ∧ isDigit (rd r 0) = true) := by
      apply propext; cases r with
      | nil => simp [rd, isDigit]
      | cons d r => simp [rd]
    rw [List.cons_append]
    simp only [lexStep, e1, e2, e3, h62, hdg]

/-- What a step takes is there. -/
theorem step_len (a : List Int) : (∀ m, lexStep a = .skip m → m ≤ a.length) ∧ (∀ kd n, lexStep a = .tok kd n → n ≤ a.length) ∧ (∀ n, lexStep a = .num n → n ≤ a.length) := by
  cases a with
  | nil => exact ⟨fun _ h => (nomatch h), fun _ _ h => (nomatch h), fun _ h => (nomatch h)⟩
  | cons c r =>
    have l1 := lead_le isNote (c :: r)
    have l2 := lead_le isWithin (c :: r)
    have l3 := lead_le isDigit r
    rw [List.length_cons] at *
    refine ⟨fun m h => ?_, fun kd n h => ?_, fun n h => ?_⟩
    all_goals
      simp only [lexStep] at h
      repeat' first
        | (split at h; skip)
        | contradiction
    all_goals first
      | (injection h with h; omega)
      | (injection h with h h'; omega)

theorem rd_app (a b : List Int) (i : Nat) (h : i < a.length) : rd (a ++ b) i = rd a i := by
  unfold rd; simp only [List.getD_eq_getElem?_getD, Int.toNat_natCast]; rw [List.getElem?_append_left h]

theorem rd_app_end (a b : List Int) : rd (a ++ 10 :: b) (a.length : Int) = 10 := by
  unfold rd; simp [List.getD_eq_getElem?_getD]

theorem numBad_app (a b : List Int) (n : Nat) (ha : a ≠ []) (h : n ≤ a.length) : numBad (a ++ 10 :: b) n = numBad a n := by
  have hl : 0 < a.length := List.length_pos_iff.2 ha
  have e0 : rd (a ++ 10 :: b) 0 = rd a 0 := rd_app a _ 0 hl
  unfold numBad
  rw [e0, List.length_append, List.length_cons]
  by_cases hn : n < a.length
  · rw [rd_app _ _ _ hn, decide_eq_true hn, decide_eq_true (show n < a.length + (b.length + 1) from by omega)]
  · obtain rfl : n = a.length := by omega
    rw [rd_app_end, decide_eq_false hn, show isWithin 10 = false from by decide, Bool.and_false, Bool.false_and]

theorem lexL_join (n : Nat) : ∀ (a : List Int), a.length ≤ n → ∀ (at_ : Int) (out : List S33) (b : List Int),
    lexL (a ++ 10 :: b) at_ out = if (lexL a at_ out).2.2 = 0 then lexL b (at_ + a.length + 1) (lexL a at_ out).1 else lexL a at_ out := by
  have base : ∀ (at_ : Int) (out : List S33) (b : List Int), lexL ([] ++ 10 :: b) at_ out = if (lexL [] at_ out).2.2 = 0 then lexL b (at_ + ([] : List Int).length + 1) (lexL [] at_ out).1 else lexL [] at_ out := by
    intro at_ out b
    rw [lexL_nil, if_pos rfl, List.nil_append, lexL_step _ _ _ (by simp)]
    have hs : lexStep (10 :: b) = .skip 1 := by simp [lexStep, isBlank]
    rw [hs]
    show lexL ((10 :: b).drop 1) _ _ = _
    rw [List.drop_succ_cons, List.drop_zero, List.length_nil]
    congr 1
    show at_ + 1 = at_ + 0 + 1
    omega
  induction n with
  | zero =>
    intro a hl at_ out b
    obtain rfl : a = [] := List.eq_nil_of_length_eq_zero (by omega)
    exact base at_ out b
  | succ n ih =>
    intro a hl at_ out b
    by_cases ha : a = []
    · subst ha; exact base at_ out b
    · have hp : 0 < a.length := List.length_pos_iff.2 ha
      rw [lexL_step (a ++ 10 :: b) at_ out (by rw [List.length_append]; omega), lexL_step a at_ out (by omega), step_app a b ha]
      obtain ⟨p1, p2, p3⟩ := step_pos a
      obtain ⟨q1, q2, q3⟩ := step_len a
      have go : ∀ m, 1 ≤ m → m ≤ a.length → ∀ out', lexL ((a ++ 10 :: b).drop m) (at_ + m) out' = if (lexL (a.drop m) (at_ + m) out').2.2 = 0 then lexL b (at_ + a.length + 1) (lexL (a.drop m) (at_ + m) out').1 else lexL (a.drop m) (at_ + m) out' := by
        intro m h1 h2 out'
        rw [List.drop_append_of_le_length h2, ih (a.drop m) (by rw [List.length_drop]; omega)]
        rw [List.length_drop, show at_ + (m : Int) + ((a.length - m : Nat) : Int) + 1 = at_ + a.length + 1 from by omega]
      cases hs : lexStep a with
      | skip m => exact go m (p1 m hs) (q1 m hs) out
      | tok kd m =>
        simp only
        rw [List.take_append_of_le_length (q2 kd m hs)]
        exact go m (p2 kd m hs) (q2 kd m hs) _
      | num m =>
        simp only
        rw [numBad_app a b m ha (q3 m hs), List.take_append_of_le_length (q3 m hs)]
        by_cases hb : numBad a m = true
        · rw [if_pos hb, if_pos hb, if_neg (by show ¬(2 : Int) = 0; decide)]
        · rw [if_neg hb, if_neg hb]
          exact go m (p3 m hs) (q3 m hs) _
      | bad => simp only; rw [if_neg (by show ¬(2 : Int) = 0; decide)]

theorem lexL_shift (s : Int) (pre : List S33) (n : Nat) : ∀ (b : List Int), b.length ≤ n → ∀ (at_ : Int) (out : List S33),
    lexL b (at_ + s) (pre ++ out.map (sh s)) = if (lexL b at_ out).2.2 = 0 then (pre ++ (lexL b at_ out).1.map (sh s), -1, 0) else ([], (lexL b at_ out).2.1 + s, 2) := by
  induction n with
  | zero =>
    intro b hl at_ out
    obtain rfl : b = [] := List.eq_nil_of_length_eq_zero (by omega)
    rw [lexL_nil, lexL_nil, if_pos rfl]
  | succ n ih =>
    intro b hl at_ out
    by_cases hb : b.length = 0
    · obtain rfl : b = [] := List.eq_nil_of_length_eq_zero hb
      rw [lexL_nil, lexL_nil, if_pos rfl]
    · rw [lexL_step b (at_ + s) _ hb, lexL_step b at_ out hb]
      obtain ⟨p1, p2, p3⟩ := step_pos b
      have go : ∀ (m : Nat), 1 ≤ m → ∀ out', lexL (b.drop m) (at_ + s + m) (pre ++ out'.map (sh s)) = if (lexL (b.drop m) (at_ + m) out').2.2 = 0 then (pre ++ (lexL (b.drop m) (at_ + m) out').1.map (sh s), -1, 0) else ([], (lexL (b.drop m) (at_ + m) out').2.1 + s, 2) := by
        intro m h1 out'
        rw [show at_ + s + (m : Int) = at_ + m + s from by omega]
        exact ih (b.drop m) (by rw [List.length_drop]; omega) _ _
      have put : ∀ (kd v : Int) (t : ByteArray), pre ++ out.map (sh s) ++ [(⟨kd, at_ + s, t, v⟩ : S33)] = pre ++ (out ++ [(⟨kd, at_, t, v⟩ : S33)]).map (sh s) := by
        intro kd v t
        rw [List.map_append, List.append_assoc]; rfl
      cases hs : lexStep b with
      | skip m => exact go m (p1 m hs) out
      | tok kd m =>
        simp only
        rw [put]
        exact go m (p2 kd m hs) _
      | num m =>
        simp only
        by_cases hbd : numBad b m = true
        · rw [if_pos hbd, if_pos hbd, if_neg (by show ¬(2 : Int) = 0; decide)]
        · rw [if_neg hbd, if_neg hbd, put]
          exact go m (p3 m hs) _
      | bad => simp only; rw [if_neg (by show ¬(2 : Int) = 0; decide)]

/-- What the answer looks like; its tokens' places. -/
theorem lexL_form (n : Nat) : ∀ (b : List Int), b.length ≤ n → ∀ (at_ : Int) (out : List S33) (lo hi : Int), lo ≤ at_ → at_ + b.length ≤ hi → (∀ t ∈ out, lo ≤ t.f1 ∧ t.f1 ≤ hi) →
    (((lexL b at_ out).2.1 = -1 ∧ (lexL b at_ out).2.2 = 0) ∨ ((lexL b at_ out).1 = [] ∧ (lexL b at_ out).2.2 = 2 ∧ lo ≤ (lexL b at_ out).2.1 ∧ (lexL b at_ out).2.1 < hi)) ∧ (∀ t ∈ (lexL b at_ out).1, lo ≤ t.f1 ∧ t.f1 ≤ hi) ∧ (lexL b at_ out).1.length ≤ out.length + b.length := by
  induction n with
  | zero =>
    intro b hl at_ out lo hi h1 h2 ho
    obtain rfl : b = [] := List.eq_nil_of_length_eq_zero (by omega)
    rw [lexL_nil]
    exact ⟨.inl ⟨rfl, rfl⟩, ho, Nat.le_refl _⟩
  | succ n ih =>
    intro b hl at_ out lo hi h1 h2 ho
    by_cases hb : b.length = 0
    · obtain rfl : b = [] := List.eq_nil_of_length_eq_zero hb
      rw [lexL_nil]
      exact ⟨.inl ⟨rfl, rfl⟩, ho, Nat.le_refl _⟩
    · rw [lexL_step b at_ out hb]
      obtain ⟨p1, p2, p3⟩ := step_pos b
      obtain ⟨q1, q2, q3⟩ := step_len b
      have bad : (((([] : List S33), at_, (2 : Int)).2.1 = -1 ∧ (([] : List S33), at_, (2 : Int)).2.2 = 0) ∨ ((([] : List S33), at_, (2 : Int)).1 = [] ∧ (([] : List S33), at_, (2 : Int)).2.2 = 2 ∧ lo ≤ (([] : List S33), at_, (2 : Int)).2.1 ∧ (([] : List S33), at_, (2 : Int)).2.1 < hi)) ∧ (∀ t ∈ (([] : List S33), at_, (2 : Int)).1, lo ≤ t.f1 ∧ t.f1 ≤ hi) ∧ (([] : List S33), at_, (2 : Int)).1.length ≤ out.length + b.length :=
        ⟨.inr ⟨rfl, rfl, h1, by show at_ < hi; omega⟩, fun t ht => (nomatch ht), Nat.zero_le _⟩
      have tk : ∀ (kd v : Int) (t : ByteArray), ∀ x ∈ out ++ [(⟨kd, at_, t, v⟩ : S33)], lo ≤ x.f1 ∧ x.f1 ≤ hi := by
        intro kd v t x hx
        rcases List.mem_append.1 hx with h | h
        · exact ho x h
        · obtain rfl := List.mem_singleton.1 h
          exact ⟨h1, by show at_ ≤ hi; omega⟩
      cases hs : lexStep b with
      | skip m =>
        simp only
        have := q1 m hs
        have := p1 m hs
        obtain ⟨r1, r2, r3⟩ := ih (b.drop m) (by rw [List.length_drop]; omega) (at_ + m) out lo hi (by omega) (by rw [List.length_drop]; omega) ho
        rw [List.length_drop] at r3
        exact ⟨r1, r2, by omega⟩
      | tok kd m =>
        simp only
        have := q2 kd m hs
        have := p2 kd m hs
        obtain ⟨r1, r2, r3⟩ := ih (b.drop m) (by rw [List.length_drop]; omega) (at_ + m) _ lo hi (by omega) (by rw [List.length_drop]; omega) (tk kd 0 (strOfNums (b.take m)))
        rw [List.length_drop, List.length_append] at r3
        exact ⟨r1, r2, by simp only [List.length_singleton] at r3; omega⟩
      | num m =>
        have := q3 m hs
        have := p3 m hs
        simp only
        by_cases hbd : numBad b m = true
        · rw [if_pos hbd]; exact bad
        · rw [if_neg hbd]
          obtain ⟨r1, r2, r3⟩ := ih (b.drop m) (by rw [List.length_drop]; omega) (at_ + m) _ lo hi (by omega) (by rw [List.length_drop]; omega) (tk 2 (numVal (b.take m)) (strOfNums (b.take m)))
          rw [List.length_drop, List.length_append] at r3
          exact ⟨r1, r2, by simp only [List.length_singleton] at r3; omega⟩
      | bad => exact bad
end Go.Proofs.YtincigcoagcgaaaDoor.Pr
