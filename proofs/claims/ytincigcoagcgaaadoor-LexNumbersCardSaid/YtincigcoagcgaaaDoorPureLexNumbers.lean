/- The law LexNumbers on lists. -/
import Derived.Test.YtincigcoagcgaaaDoorRefLex6
import Derived.Test.YtincigcoagcgaaaDoorLn1
namespace Go.Proofs.YtincigcoagcgaaaDoor.Pr
set_option linter.unusedVariables false
set_option linter.unusedSimpArgs false
open Go.RowKit Go.Proofs.YtincigcoagcgaaaDoorW.PrintWords Go.Proofs.YtincigcoagcgaaaDoorW.PrintLast Go.Proofs.YtincigcoagcgaaaDoorW.PrintMore

theorem bytesOf_app (a b : ByteArray) : bytesOf (a ++ b) = bytesOf a ++ bytesOf b := by
  unfold bytesOf
  rw [ByteArray.data_append, Array.toList_append, List.map_append]

theorem str_of_bytes (s : ByteArray) : strOfNums (bytesOf s) = s := by
  apply ByteArray.ext
  apply Array.ext'
  unfold strOfNums bytesOf
  simp only [List.map_map]
  refine (List.map_congr_left fun x _ => ?_).trans (List.map_id _)
  show UInt8.ofNat ((x.toNat : Int)).toNat = x
  rw [Int.toNat_natCast]
  simp

theorem digitsVal_end (l : List Int) (d : Int) : digitsVal (l ++ [d]) = 10 * digitsVal l + (d - 48) := by
  unfold digitsVal; rw [List.foldl_append]; rfl

/-- The decimal digits of a number, as bytes. -/
def decNums (u : Nat) : List Int := (Lib.decDigits u).map fun b => (b.toNat : Int)

theorem dec_facts (u : Nat) : (∀ x ∈ decNums u, 48 ≤ x ∧ x ≤ 57) ∧ digitsVal (decNums u) = u := by
  induction u using Nat.strongRecOn with
  | _ u ih =>
    have one : ∀ d : Nat, d < 10 → ((UInt8.ofNat (48 + d)).toNat : Int) = 48 + d := by
      intro d hd
      have : (UInt8.ofNat (48 + d)).toNat = 48 + d := by show (48 + d) % 256 = _; omega
      rw [this]; omega
    unfold decNums
    rw [Lib.decDigits]
    split
    · rename_i h
      simp only [List.map_cons, List.map_nil, one u h, List.mem_singleton]
      refine ⟨fun x hx => by omega, ?_⟩
      show (10 * 0 + ((48 + (u : Int)) - 48) : Int) = u
      omega
    · rename_i h
      obtain ⟨h1, h2⟩ := ih (u / 10) (by omega)
      rw [List.map_append, List.map_cons, List.map_nil, one (u % 10) (by omega)]
      refine ⟨fun x hx => ?_, ?_⟩
      · rcases List.mem_append.1 hx with hx | hx
        · exact h1 x hx
        · rw [List.mem_singleton] at hx; omega
      · rw [digitsVal_end]
        unfold decNums at h2
        rw [h2]
        omega

theorem dec_len (k : Nat) : ∀ u : Nat, u < 10 ^ (k + 1) → 1 ≤ (decNums u).length ∧ (decNums u).length ≤ k + 1 := by
  induction k with
  | zero =>
    intro u h
    unfold decNums
    rw [Lib.decDigits, dif_pos (by omega)]
    exact ⟨by simp, by simp⟩
  | succ k ih =>
    intro u h
    unfold decNums
    rw [Lib.decDigits]
    split
    · exact ⟨by simp, by simp⟩
    · have h2 : u / 10 < 10 ^ (k + 1) := by
        rw [Nat.div_lt_iff_lt_mul (by decide)]
        rw [Nat.pow_succ] at h
        exact h
      have := ih (u / 10) h2
      unfold decNums at this
      rw [List.length_map] at this
      rw [List.length_map, List.length_append, List.length_singleton]
      omega

theorem lead_digits {l : List Int} (h : ∀ x ∈ l, 48 ≤ x ∧ x ≤ 57) : lead isDigit l = l.length := by
  induction l with
  | nil => rfl
  | cons x l ih =>
    have hx := h x (by simp)
    rw [lead, if_pos (by unfold isDigit; simp [hx.1, hx.2]), ih (fun y hy => h y (by simp [hy]))]
    rfl

theorem dig_not {x : Int} (h : 48 ≤ x ∧ x ≤ 57) : isBlank x = false ∧ (x == 59) = false ∧ (x == 40) = false ∧ (x == 41) = false ∧ (x == 45) = false ∧ (x == 62) = false ∧ isDigit x = true := by
  refine ⟨?_, ?_, ?_, ?_, ?_, ?_, ?_⟩
  all_goals first
    | (simp only [beq_eq_false_iff_ne, ne_eq]; omega)
    | (unfold isBlank; simp only [Bool.or_eq_false_iff, beq_eq_false_iff_ne, ne_eq]; omega)
    | (unfold isDigit; simp [h.1, h.2])

/-- What a text of digits is: one number, or none. -/
theorem num_lex {D : List Int} (h : ∀ x ∈ D, 48 ≤ x ∧ x ≤ 57) (h1 : 1 ≤ D.length) : lexL D 0 [] = if 18 < D.length then ([], 0, 2) else ([⟨2, 0, strOfNums D, digitsVal D⟩], -1, 0) := by
  cases D with
  | nil => simp at h1
  | cons c r =>
    have hc := dig_not (h c (by simp))
    have hr : lead isDigit r = r.length := lead_digits fun x hx => h x (by simp [hx])
    have hs : lexStep (c :: r) = .num (r.length + 1) := by
      simp only [lexStep, hc.1, hc.2.1, hc.2.2.1, hc.2.2.2.1, hc.2.2.2.2.1, hc.2.2.2.2.2.2, Bool.false_eq_true, if_false, false_and, true_or, if_true]
      rw [hr, Nat.add_comm]
    have h0 : rd (c :: r) 0 = c := rfl
    have hb : numBad (c :: r) (r.length + 1) = decide (18 < r.length + 1) := by
      unfold numBad
      rw [h0, List.length_cons, decide_eq_false (Nat.lt_irrefl (r.length + 1)), Bool.false_and, Bool.or_false]
      have : (c != 45) = true := by simp only [bne, hc.2.2.2.2.1]; rfl
      rw [this, Bool.and_true]
      by_cases h18 : 18 < r.length + 1
      · rw [decide_eq_true h18, Bool.or_true]
      · rw [decide_eq_false h18, decide_eq_false (by omega), Bool.or_false]
    rw [lexL_step _ _ _ (by simp), hs]
    simp only
    rw [hb, List.length_cons]
    by_cases h18 : 18 < r.length + 1
    · rw [if_pos (decide_eq_true h18), if_pos h18]
    · rw [if_neg (by simpa using h18), if_neg h18, List.drop_eq_nil_of_le (by simp), lexL_nil, List.take_of_length_le (by simp)]
      unfold numVal
      rw [h0, if_neg (by rw [hc.2.2.2.2.1]; decide)]
      rfl

theorem neg_lex {D : List Int} (h : ∀ x ∈ D, 48 ≤ x ∧ x ≤ 57) (h1 : 1 ≤ D.length) : lexL (45 :: D) 0 [] = if 18 < D.length then ([], 0, 2) else ([⟨2, 0, strOfNums (45 :: D), -digitsVal D⟩], -1, 0) := by
  have hr : lead isDigit D = D.length := lead_digits h
  have hd0 : 48 ≤ rd D 0 ∧ rd D 0 ≤ 57 := h _ (by have := rd_mem (xs := D) (i := 0) (by omega); exact this)
  have hc := dig_not hd0
  have hs : lexStep (45 :: D) = .num (D.length + 1) := by
    have e45 : isBlank 45 = false := by decide
    have d45 : isDigit 45 = false := by decide
    simp only [lexStep, e45, d45, hc.2.2.2.2.2.1, hc.2.2.2.2.2.2, Bool.false_eq_true, if_false, and_false, false_or, show ((45 : Int) == 59) = false from rfl, show ((45 : Int) == 40) = false from rfl, show ((45 : Int) == 41) = false from rfl, show ((45 : Int) == 45) = true from rfl, true_and, and_true, h1, if_true]
    rw [hr, Nat.add_comm]
  have h0 : rd (45 :: D) 0 = 45 := rfl
  have hb : numBad (45 :: D) (D.length + 1) = decide (18 < D.length) := by
    unfold numBad
    rw [h0, List.length_cons, decide_eq_false (Nat.lt_irrefl (D.length + 1)), Bool.false_and, Bool.or_false, show ((45 : Int) != 45) = false from rfl, Bool.and_false, Bool.or_false]
    by_cases h18 : 18 < D.length
    · rw [decide_eq_true h18, decide_eq_true (by omega)]
    · rw [decide_eq_false h18, decide_eq_false (by omega)]
  rw [lexL_step _ _ _ (by simp), hs]
  simp only
  rw [hb]
  by_cases h18 : 18 < D.length
  · rw [if_pos (decide_eq_true h18), if_pos h18]
  · rw [if_neg (by simpa using h18), if_neg h18, List.drop_eq_nil_of_le (by simp), lexL_nil, List.take_of_length_le (by simp)]
    unfold numVal
    rw [h0, if_pos (show ((45 : Int) == 45) = true from rfl)]
    rfl

theorem size_bytes (s : ByteArray) : s.size = (bytesOf s).length := (bytesOf_length s).symm

theorem numbers_l0 (n : Int) (u : Nat) (hu : (u : Int) = if n < 0 then -n else n) (m : Nat) (hm : m ≤ 20) (d : Nat) : ∀ (s : ByteArray) (i k : Nat), (∀ x ∈ bytesOf s, 48 ≤ x ∧ x ≤ 57) → 1 ≤ s.size → s.size ≤ 18 + i → digitsVal (bytesOf s) = u → i ≤ m → m - i = d → d < k →
    reverielaw01_LexNumbers.l0 k n s (m : Int) i = some true := by
  have n20 : ¬(0 : Int) = 2 := by decide
  induction d with
  | zero =>
    intro s i k hs h1 h18 hv hi hd hk
    obtain ⟨k, rfl⟩ : ∃ j, k = j + 1 := ⟨k - 1, by omega⟩
    simp only [reverielaw01_LexNumbers.l0]
    rw [if_neg (by omega)]
    have hsz := size_bytes s
    have h45 : bytesOf ((⟨#[45]⟩ : ByteArray) ++ s) = 45 :: bytesOf s := by rw [bytesOf_app]; rfl
    have hsz45 : ((⟨#[45]⟩ : ByteArray) ++ s).size = s.size + 1 := by rw [size_bytes, h45, List.length_cons, ← hsz]
    by_cases hn : n < 0
    · rw [if_pos hn] at hu
      rw [if_pos hn, if_pos (by omega), if_pos (by omega), h45, lexf (by rw [List.length_cons]; omega), neg_lex hs (by omega), Option.bind_some]
      by_cases hl : 18 < (bytesOf s).length
      · rw [if_pos hl]
        simp only
        rw [if_pos (by omega), if_pos trivial, if_pos trivial]; rfl
      · rw [if_neg hl]
        simp only [List.length_singleton]
        rw [if_neg (by omega), if_pos trivial, if_pos trivial, if_pos (show ((1 : Nat) : Int) = 1 from rfl), if_pos (by decide)]
        show (if (-digitsVal (bytesOf s)) = n then (if (2 : Int) = 2 then some ((strOfNums (45 :: bytesOf s)).toList == ((⟨#[45]⟩ : ByteArray) ++ s).toList) else some false) else some false) = some true
        rw [hv, if_pos (by omega), if_pos rfl, ← h45, str_of_bytes, beq_self_eq_true]
    · rw [if_neg hn] at hu
      rw [if_neg hn, if_pos (by omega), lexf (by omega), num_lex hs (by omega), Option.bind_some]
      by_cases hl : 18 < (bytesOf s).length
      · rw [if_pos hl]
        simp only
        rw [if_pos (by omega), if_pos trivial, if_pos trivial]; rfl
      · rw [if_neg hl]
        simp only [List.length_singleton]
        rw [if_neg (by omega), if_pos trivial, if_pos trivial, if_pos (show ((1 : Nat) : Int) = 1 from rfl), if_pos (by decide)]
        show (if (digitsVal (bytesOf s)) = n then (if (2 : Int) = 2 then some ((strOfNums (bytesOf s)).toList == s.toList) else some false) else some false) = some true
        rw [hv, if_pos (by omega), if_pos rfl, str_of_bytes, beq_self_eq_true]
  | succ d ih =>
    intro s i k hs h1 h18 hv hi hd hk
    obtain ⟨k, rfl⟩ : ∃ j, k = j + 1 := ⟨k - 1, by omega⟩
    simp only [reverielaw01_LexNumbers.l0]
    have h48 : bytesOf ((⟨#[48]⟩ : ByteArray) ++ s) = 48 :: bytesOf s := by rw [bytesOf_app]; rfl
    have hsz48 : ((⟨#[48]⟩ : ByteArray) ++ s).size = s.size + 1 := by rw [size_bytes, h48, List.length_cons, ← size_bytes s]
    rw [if_pos (by omega), if_pos (by omega), w64 (by omega) (by omega), show (i : Int) + 1 = ((i + 1 : Nat) : Int) from by omega]
    refine ih _ (i + 1) k ?_ (by omega) (by omega) ?_ (by omega) (by omega) (by omega)
    · intro x hx
      rw [h48] at hx
      rcases List.mem_cons.1 hx with rfl | hx
      · decide
      · exact hs x hx
    · rw [h48]; exact hv
end Go.Proofs.YtincigcoagcgaaaDoor.Pr
namespace Go.Proofs.YtincigcoagcgaaaDoor.Pure
set_option linter.unusedVariables false
set_option linter.unusedSimpArgs false
open Go.RowKit Go.Proofs.YtincigcoagcgaaaDoor.Pr Go.Proofs.YtincigcoagcgaaaDoorW.PrintWords Go.Proofs.YtincigcoagcgaaaDoorW.PrintLast Go.Proofs.YtincigcoagcgaaaDoorW.PrintMore

theorem LexNumbers : reverielaw01_LexNumbers.Pure := by
  intro a b h1 h2
  refine ⟨60, ?_⟩
  have hb := byte_wf6 h2
  unfold reverielaw01_LexNumbers.f reverielaw01_lives.f
  rw [Option.bind_some, if_pos rfl]
  have ht : -1000000000000000000 < Int.tmod a 1000000000000000000 ∧ Int.tmod a 1000000000000000000 < 1000000000000000000 := by
    rcases Int.le_total 0 a with h | h
    · rw [Int.tmod_eq_emod_of_nonneg h]; omega
    · obtain ⟨c, rfl⟩ : ∃ c : Int, a = -c := ⟨-a, by omega⟩
      rw [Int.neg_tmod, Int.tmod_eq_emod_of_nonneg (by omega)]; omega
  generalize Int.tmod a 1000000000000000000 = n at ht ⊢
  have hw : wrap64 (-n) = -n := by unfold wrap64; omega
  obtain ⟨u, hu⟩ : ∃ u : Nat, (u : Int) = if n < 0 then -n else n := by
    by_cases h : n < 0
    · exact ⟨(-n).toNat, by rw [if_pos h]; omega⟩
    · exact ⟨n.toNat, by rw [if_neg h]; omega⟩
  have hmx : mx n (wrap64 (-n)) = u := by
    rw [hw, hu]; unfold mx
    by_cases h : n < 0
    · rw [if_pos (by omega), if_pos h]
    · rw [if_neg h]
      by_cases h2 : n < -n
      · omega
      · rw [if_neg h2]
  have hu2 : u < 10 ^ (17 + 1) := by
    have e : (10 : Nat) ^ (17 + 1) = 1000000000000000000 := by decide
    rw [e]
    split at hu <;> omega
  have hb20 : ∃ m : Nat, Int.tmod (wrap64 b) 20 = m ∧ m ≤ 20 := by
    rw [w64 (by omega) (by omega), Int.tmod_eq_emod_of_nonneg (by omega)]
    exact ⟨(b % 20).toNat, by omega, by omega⟩
  obtain ⟨m, hm, hm2⟩ := hb20
  have hf : strconv_FormatInt.f (u : Int) 10 = some ⟨(Lib.itoa (u : Int)).toArray⟩ := by
    unfold strconv_FormatInt.f
    have e : (10 : Nat) ^ (17 + 1) = 1000000000000000000 := by decide
    rw [if_pos ⟨rfl, by omega, by omega⟩]
  have hbs : bytesOf ⟨(Lib.itoa (u : Int)).toArray⟩ = decNums u := by rw [Lib.itoa_nonneg]; rfl
  obtain ⟨d1, d2⟩ := dec_facts u
  obtain ⟨l1, l2⟩ := dec_len 17 u hu2
  rw [hmx, hf, Option.bind_some, hm]
  exact numbers_l0 n u hu m hm2 m _ 0 60 (by rw [hbs]; exact d1) (by rw [size_bytes, hbs]; exact l1) (by rw [size_bytes, hbs]; omega) (by rw [hbs]; exact d2) (Nat.zero_le _) (by omega) (by omega)
end Go.Proofs.YtincigcoagcgaaaDoor.Pure
