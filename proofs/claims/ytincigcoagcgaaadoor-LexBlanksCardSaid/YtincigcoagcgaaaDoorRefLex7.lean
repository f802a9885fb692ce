/- Tokens with blanks and notes between them are the same tokens. -/
import Derived.Test.YtincigcoagcgaaaDoorRefLex6
namespace Go.Proofs.YtincigcoagcgaaaDoor.Pr
set_option linter.unusedVariables false
set_option linter.unusedSimpArgs false
open Go.RowKit Go.Proofs.YtincigcoagcgaaaDoorW.PrintWords Go.Proofs.YtincigcoagcgaaaDoorW.PrintLast Go.Proofs.YtincigcoagcgaaaDoorW.PrintMore

theorem lead_app2 {p : Int → Bool} {s : Int} (h : p s = false) (a b : List Int) : lead p (a ++ s :: b) = lead p a := by
  induction a with
  | nil => show (if p s = true then lead p b + 1 else 0) = 0; rw [if_neg (by rw [h]; decide)]
  | cons x a ih => rw [List.cons_append, lead, lead, ih]

/-- A blank behind a token. -/
theorem step_app32 (T b : List Int) (h : ∀ m, lexStep T ≠ .skip m) (ht : T ≠ []) : lexStep (T ++ 32 :: b) = lexStep T := by
  cases T with
  | nil => exact absurd rfl ht
  | cons c r =>
    have h59 : ¬ (isBlank c = false ∧ (c == 59) = true) := by
      rintro ⟨h1, h2⟩
      exact h (lead isNote (c :: r)) (by simp only [lexStep, h1, h2, Bool.false_eq_true, if_false, if_true])
    have e2 : lead isWithin (c :: (r ++ 32 :: b)) = lead isWithin (c :: r) := lead_app2 (by decide) (c :: r) b
    have e3 : lead isDigit (r ++ 32 :: b) = lead isDigit r := lead_app2 (by decide) r b
    have h62 : (1 ≤ (r ++ 32 :: b).length ∧ (rd (r ++ 32 :: b) 0 == 62) = true) = (1 ≤ r.length ∧ (rd r 0 == 62) = true) := by
      apply propext; cases r with
      | nil => simp [rd]
      | cons d r => simp [rd]
    have hdg : (1 ≤ (r ++ 32 :: b).length ∧ isDigit (rd (r ++ 32 :: b) 0) = true) = (1 ≤ r.length ∧ isDigit (rd r 0) = true) := by
      apply propext; cases r with
      | nil => simp [rd, isDigit]
      | cons d r => simp [rd]
    rw [List.cons_append]
    simp only [lexStep, e2, e3, h62, hdg]
    by_cases h1 : isBlank c = true
    · rw [if_pos h1, if_pos h1]
    · rw [if_neg h1, if_neg h1]
      by_cases h2 : (c == 59) = true
      · exact absurd ⟨by simpa using h1, h2⟩ h59
      · rw [if_neg h2, if_neg h2]

theorem rd_app_end2 (a b : List Int) (s : Int) : rd (a ++ s :: b) (a.length : Int) = s := by
  unfold rd; simp [List.getD_eq_getElem?_getD]

theorem numBad_app32 (a b : List Int) (ha : a ≠ []) : numBad (a ++ 32 :: b) a.length = numBad a a.length := by
  have hl : 0 < a.length := List.length_pos_iff.2 ha
  have e0 : rd (a ++ 32 :: b) 0 = rd a 0 := rd_app a _ 0 hl
  unfold numBad
  rw [e0, List.length_append, List.length_cons, rd_app_end2, decide_eq_false (Nat.lt_irrefl a.length), show isWithin 32 = false from by decide, Bool.and_false, Bool.false_and]

/-- A token, and what is behind it. -/
theorem tok1_app {T : List Int} {kd v : Int} (h : Tok1 T kd v) (ht : T ≠ []) (b : List Int) (at_ : Int) (out : List S33) :
    lexL (T ++ 32 :: b) at_ out = lexL (32 :: b) (at_ + T.length) (out ++ [⟨kd, at_, strOfNums T, v⟩]) := by
  have hs : lexStep (T ++ 32 :: b) = lexStep T := step_app32 T b (by rcases h with ⟨h, _⟩ | ⟨h, _⟩ <;> (rw [h]; intro m hm; cases hm)) ht
  rw [lexL_step _ _ _ (by rw [List.length_append, List.length_cons]; omega), hs]
  have e1 : (T ++ 32 :: b).drop T.length = 32 :: b := List.drop_left
  have e2 : (T ++ 32 :: b).take T.length = T := List.take_left
  rcases h with ⟨h, rfl⟩ | ⟨h, rfl, rfl, hb⟩
  · rw [h]
    simp only
    rw [e1, e2]
  · rw [h]
    simp only
    rw [numBad_app32 T b ht, if_neg hb, e1, e2]

/-- The tokens' texts, each behind a note. -/
def wide (note : List Int) : List S33 → List Int
  | [] => []
  | t :: l => [32, 59] ++ note ++ [10, 9] ++ bytesOf t.f2 ++ wide note l

theorem lead_note {note : List Int} (h : ∀ x ∈ note, x ≠ 10) : lead isNote note = note.length := by
  induction note with
  | nil => rfl
  | cons x note ih =>
    rw [lead, if_pos (by unfold isNote; simpa using h x (by simp)), ih (fun y hy => h y (by simp [hy]))]
    rfl

theorem note_lex {note : List Int} (h : ∀ x ∈ note, x ≠ 10) (at_ : Int) (out : List S33) : lexL (32 :: 59 :: note) at_ out = (out, -1, 0) := by
  rw [lexL_step _ _ _ (by simp)]
  have hs : lexStep (32 :: 59 :: note) = .skip 1 := by simp [lexStep, isBlank]
  rw [hs]
  show lexL (59 :: note) _ _ = _
  rw [lexL_step _ _ _ (by simp)]
  have hs2 : lexStep (59 :: note) = .skip (lead isNote (59 :: note)) := by simp [lexStep, isBlank]
  have hl : lead isNote (59 :: note) = note.length + 1 := by rw [lead, if_pos (by decide), lead_note h]
  rw [hs2, hl]
  simp only
  rw [List.drop_eq_nil_of_le (by simp), lexL_nil]

/-- What is compared. -/
def face (t : S33) : Int × ByteArray × Int := (t.f0, t.f2, t.f3)

/-- What a list's token says of the text. -/
def At (xs : List Int) (t : S33) : Prop := ∃ (p n : Nat) (kd v : Int), t = ⟨kd, p, strOfNums ((xs.drop p).take n), v⟩ ∧ p + n ≤ xs.length ∧ 1 ≤ n ∧ Tok1 ((xs.drop p).take n) kd v

theorem good_at {xs : List Int} {e : Nat} {l : List S33} (h : Good xs e l) : ∀ t ∈ l, At xs t := by
  induction h with
  | nil => intro t ht; cases ht
  | cons e p n kd v l he hp hn _ h1 _ ih =>
    intro t ht
    rcases List.mem_cons.1 ht with rfl | ht
    · exact ⟨p, n, kd, v, rfl, hp, hn, h1⟩
    · exact ih t ht

theorem wide_lex {xs : List Int} (hx : Bytes xs) {note : List Int} (hn : ∀ x ∈ note, x ≠ 10) : ∀ (l : List S33), (∀ t ∈ l, At xs t) → ∀ (at_ : Int) (out : List S33),
    ∃ m, lexL (wide note l) at_ out = (out ++ m, -1, 0) ∧ m.map face = l.map face := by
  intro l
  induction l with
  | nil => intro _ at_ out; exact ⟨[], by rw [wide, lexL_nil, List.append_nil], rfl⟩
  | cons t l ih =>
    intro h at_ out
    obtain ⟨p, n, kd, v, rfl, hp, h1, htok⟩ := h t (by simp)
    have hT : bytesOf (strOfNums ((xs.drop p).take n)) = (xs.drop p).take n := bytesOf_str fun x h => hx x (List.mem_of_mem_drop (List.mem_of_mem_take h))
    have hlen : ((xs.drop p).take n).length = n := by rw [List.length_take, List.length_drop]; omega
    have hne : (xs.drop p).take n ≠ [] := by intro h0; rw [h0] at hlen; simp at hlen; omega
    have e1 : wide note (⟨kd, p, strOfNums ((xs.drop p).take n), v⟩ :: l) = (32 :: 59 :: note) ++ 10 :: (9 :: ((xs.drop p).take n ++ wide note l)) := by
      rw [wide, hT]; simp
    rw [e1, lexL_join _ _ (Nat.le_refl _), note_lex hn, if_pos rfl]
    simp only
    rw [lexL_step (9 :: _) _ _ (by simp)]
    have hs : lexStep (9 :: ((xs.drop p).take n ++ wide note l)) = .skip 1 := by simp [lexStep, isBlank]
    rw [hs]
    simp only [List.drop_succ_cons, List.drop_zero]
    generalize at_ + ((32 :: 59 :: note).length : Int) + 1 + ((1 : Nat) : Int) = q
    cases l with
    | nil =>
      refine ⟨[⟨kd, q, strOfNums ((xs.drop p).take n), v⟩], ?_, rfl⟩
      rw [wide, List.append_nil, tok1_lex htok (by omega)]
    | cons t2 l =>
      obtain ⟨m, e2, e3⟩ := ih (fun t ht => h t (List.mem_cons_of_mem _ ht)) (q + ((xs.drop p).take n).length) (out ++ [⟨kd, q, strOfNums ((xs.drop p).take n), v⟩])
      have e4 : wide note (t2 :: l) = 32 :: (59 :: note ++ [10, 9] ++ bytesOf t2.f2 ++ wide note l) := by rw [wide]; simp
      refine ⟨⟨kd, q, strOfNums ((xs.drop p).take n), v⟩ :: m, ?_, by rw [List.map_cons, List.map_cons, e3]; rfl⟩
      rw [e4, tok1_app htok hne, ← e4, e2, List.append_assoc]
      rfl
end Go.Proofs.YtincigcoagcgaaaDoor.Pr
