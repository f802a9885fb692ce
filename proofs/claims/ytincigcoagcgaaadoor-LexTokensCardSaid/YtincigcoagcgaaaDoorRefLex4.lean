/- The law LexTokens, without Go and memory: the document's tokens are the plain function's. -/
import Derived.Test.YtincigcoagcgaaaDoorRefLex3
import Derived.Test.YtincigcoagcgaaaDoorPr4
namespace Go.Proofs.YtincigcoagcgaaaDoor.Pr
set_option linter.unusedVariables false
set_option linter.unusedSimpArgs false
open Go.RowKit Go.Proofs.YtincigcoagcgaaaDoorW.PrintWords Go.Proofs.YtincigcoagcgaaaDoorW.PrintLast Go.Proofs.YtincigcoagcgaaaDoorW.PrintMore

theorem byte_wf' {x : Int} (h : (Lit.int .u8 x).wf = true) : 0 ≤ x ∧ x ≤ 255 := by
  have h1 : IntKind.u8.min = 0 := rfl
  have h2 : IntKind.u8.max = 255 := rfl
  simp only [Lit.wf, Bool.and_eq_true, decide_eq_true_eq] at h
  omega

theorem bytes_wf {xs : List Int} (h : ∀ x ∈ xs, (Lit.int .u8 x).wf = true) : Bytes xs := fun x hx => byte_wf' (h x hx)

/-- The document's tokens of what is left. -/
theorem tokens_l0 {xs : List Int} (hx : Bytes xs) (hl : xs.length ≤ 4096) (d : Nat) : ∀ (at_ k : Nat) (out : List S33), at_ ≤ xs.length → xs.length - at_ = d → (at_ < xs.length → isBlank (rd xs at_) = false ∧ (rd xs at_ == 59) = false) → out.length ≤ at_ → 20000 + d < k →
    reverieref01_Tokens.l0 k (strOfNums xs) out at_ = some ((lexL (xs.drop at_) at_ out).1, (lexL (xs.drop at_) at_ out).2.1) ∧ (((lexL (xs.drop at_) at_ out).2.1 = -1 ∧ (lexL (xs.drop at_) at_ out).2.2 = 0) ∨ (0 ≤ (lexL (xs.drop at_) at_ out).2.1 ∧ (lexL (xs.drop at_) at_ out).2.2 = 2)) ∧ (lexL (xs.drop at_) at_ out).1.length ≤ 4096 := by
  induction d using Nat.strongRecOn with
  | ind d ih =>
    intro at_ k out hat hd hnb hout hk
    obtain ⟨k, rfl⟩ : ∃ m, k = m + 1 := ⟨k - 1, by omega⟩
    by_cases hlt : at_ < xs.length
    · obtain ⟨hb, h59⟩ := hnb hlt
      have one := one_f hx hl at_ hlt hb h59 k (by omega)
      have hls := lexL_step (xs.drop at_) at_ out (by rw [List.length_drop]; omega)
      obtain ⟨p1, p2, p3⟩ := step_pos (xs.drop at_)
      have go : ∀ (kd v : Int) (n : Nat), 1 ≤ n → at_ + n ≤ xs.length → reverieref01_One.f k (strOfNums xs) at_ = some (kd, (at_ : Int), strOfNums ((xs.drop at_).take n), v, true) →
          lexL (xs.drop at_) at_ out = lexL ((xs.drop at_).drop n) ((at_ : Int) + (n : Int)) (out ++ [⟨kd, at_, strOfNums ((xs.drop at_).take n), v⟩]) →
          reverieref01_Tokens.l0 (k + 1) (strOfNums xs) out at_ = some ((lexL (xs.drop at_) at_ out).1, (lexL (xs.drop at_) at_ out).2.1) ∧ (((lexL (xs.drop at_) at_ out).2.1 = -1 ∧ (lexL (xs.drop at_) at_ out).2.2 = 0) ∨ (0 ≤ (lexL (xs.drop at_) at_ out).2.1 ∧ (lexL (xs.drop at_) at_ out).2.2 = 2)) ∧ (lexL (xs.drop at_) at_ out).1.length ≤ 4096 := by
        intro kd v n hn hle e hL
        obtain ⟨⟨m, e2, hm, hs, hnb2⟩, _⟩ := skip_both hx hl (xs.length - (at_ + n)) (at_ + n) k hle rfl (by omega)
        have hsz : ((strOfNums ((xs.drop at_).take n)).size : Int) = (n : Int) := by rw [size_str, List.length_take, List.length_drop]; omega
        have hr := ih (xs.length - (at_ + n + m)) (by omega) (at_ + n + m) k (out ++ [⟨kd, at_, strOfNums ((xs.drop at_).take n), v⟩]) hm rfl hnb2 (by rw [List.length_append]; show out.length + 1 ≤ _; omega) (by omega)
        rw [← hs, ← List.drop_drop, show ((at_ + n : Nat) : Int) = (at_ : Int) + (n : Int) from by omega, ← hL] at hr
        refine ⟨?_, hr.2⟩
        simp only [reverieref01_Tokens.l0]
        rw [if_pos (by rw [size_str]; omega), e, Option.bind_some]
        simp only
        rw [if_pos trivial, if_pos (by omega), hsz, w64 (by omega) (by omega), show (at_ : Int) + (n : Int) = ((at_ + n : Nat) : Int) from by omega]
        unfold reverieref01_Skip.f
        rw [e2, Option.bind_some]
        exact hr.1
      have bad : (∃ a b c d, reverieref01_One.f k (strOfNums xs) at_ = some (a, b, c, d, false)) → lexL (xs.drop at_) at_ out = ([], (at_ : Int), 2) →
          reverieref01_Tokens.l0 (k + 1) (strOfNums xs) out at_ = some ((lexL (xs.drop at_) at_ out).1, (lexL (xs.drop at_) at_ out).2.1) ∧ (((lexL (xs.drop at_) at_ out).2.1 = -1 ∧ (lexL (xs.drop at_) at_ out).2.2 = 0) ∨ (0 ≤ (lexL (xs.drop at_) at_ out).2.1 ∧ (lexL (xs.drop at_) at_ out).2.2 = 2)) ∧ (lexL (xs.drop at_) at_ out).1.length ≤ 4096 := by
        rintro ⟨a, b, c, d', e⟩ hL
        rw [hL]
        refine ⟨?_, .inr ⟨by show (0 : Int) ≤ at_; omega, rfl⟩, by show 0 ≤ 4096; decide⟩
        simp only [reverieref01_Tokens.l0]
        rw [if_pos (by rw [size_str]; omega), e, Option.bind_some]
        simp only
        rw [if_neg (by decide)]
      cases hs : lexStep (xs.drop at_) with
      | skip m => rw [hs] at one; exact one.elim
      | tok kd n =>
        rw [hs] at one hls
        exact go kd 0 n (p2 kd n hs) one.1 one.2 hls
      | num n =>
        rw [hs] at one hls
        simp only at hls
        cases hnbd : numBad (xs.drop at_) n with
        | true =>
          rw [if_pos hnbd] at hls
          exact bad (one.2.1 hnbd) hls
        | false =>
          rw [if_neg (by rw [hnbd]; decide)] at hls
          exact go 2 _ n (p3 n hs) one.1 (one.2.2 hnbd) hls
      | bad =>
        rw [hs] at one hls
        exact bad one hls
    · rw [List.drop_eq_nil_of_le (by omega), lexL_nil]
      refine ⟨?_, .inl ⟨rfl, rfl⟩, by show out.length ≤ 4096; omega⟩
      simp only [reverieref01_Tokens.l0]
      rw [if_neg (by rw [size_str]; omega)]

theorem same_l0 (l : List S33) (hl : l.length ≤ 4096) (d : Nat) : ∀ (i k : Nat), i ≤ l.length → l.length - i = d → d < k → reverieref01_Same.l0 k l l i = some true := by
  induction d with
  | zero =>
    intro i k hi hd hk
    obtain ⟨k, rfl⟩ : ∃ m, k = m + 1 := ⟨k - 1, by omega⟩
    simp only [reverieref01_Same.l0]
    rw [if_neg (by omega)]
  | succ d ih =>
    intro i k hi hd hk
    obtain ⟨k, rfl⟩ : ∃ m, k = m + 1 := ⟨k - 1, by omega⟩
    simp only [reverieref01_Same.l0]
    rw [if_pos (by omega), if_pos (by omega), if_pos (by omega), if_neg (by simp), w64 (by omega) (by omega), show (i : Int) + 1 = ((i + 1 : Nat) : Int) from by omega]
    exact ih (i + 1) k (by omega) (by omega) (by omega)

theorem same_f (l : List S33) (hl : l.length ≤ 4096) (k : Nat) (hk : 5000 < k) : reverieref01_Same.f k l l = some true := by
  unfold reverieref01_Same.f
  rw [if_pos rfl]
  exact same_l0 l hl l.length 0 k (by omega) (by omega) (by omega)

/-- The document's tokens, and what the plain function says of its places and errors. -/
theorem tokens_f {xs : List Int} (hx : Bytes xs) (k : Nat) (hk : 40000 < k) : ∃ r, lex_Tokens.f xs = some r ∧ reverieref01_Tokens.f k (strOfNums xs) = some (r.1, r.2.1) ∧ ((r.2.1 = -1 ∧ r.2.2 = 0) ∨ (0 ≤ r.2.1 ∧ r.2.2 = 2)) ∧ r.1.length ≤ 4096 := by
  unfold lex_Tokens.f reverieref01_Tokens.f
  by_cases h : 4096 < xs.length
  · rw [if_pos h, if_pos (by rw [size_str]; omega)]
    exact ⟨_, rfl, rfl, .inr ⟨by decide, rfl⟩, by decide⟩
  · rw [if_neg h, if_neg (by rw [size_str]; omega)]
    refine ⟨_, rfl, ?_⟩
    obtain ⟨⟨m, e2, hm, hs, hnb2⟩, _⟩ := skip_both hx (by omega) xs.length 0 k (by omega) (by omega) (by omega)
    rw [show ((0 : Nat) : Int) = 0 from rfl] at e2
    unfold reverieref01_Skip.f
    rw [e2, Option.bind_some]
    have ht := tokens_l0 hx (by omega) (xs.length - (0 + m)) (0 + m) k [] hm rfl hnb2 (by show 0 ≤ _; omega) (by omega)
    rw [← hs []] at ht
    exact ht
end Go.Proofs.YtincigcoagcgaaaDoor.Pr
