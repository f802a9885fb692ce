/- strconv.ParseInt at the digits of a token: the number that they spell. -/
import Derived.Test.YtincigcoagcgaaaDoorLexSpec
import Derived.Test.YtincigcoagcgaaaDoorShelf
import Derived.Lib.ParseIntB
import Derived.Lib.AtoiErrMem
namespace Go.Proofs.YtincigcoagcgaaaDoor.Pr
set_option linter.unusedVariables false
set_option linter.unusedSimpArgs false
open Go.RowKit Go.Proofs.YtincigcoagcgaaaDoorW.PrintWords Go.Proofs.YtincigcoagcgaaaDoorW.PrintLast Go.Proofs.YtincigcoagcgaaaDoorW.PrintMore

theorem digit_toNat {d : Int} (h : isDigit d = true) : d.toNat.toUInt8.toNat = d.toNat ∧ 48 ≤ d.toNat ∧ d.toNat ≤ 57 ∧ ((d.toNat : Nat) : Int) = d := by
  unfold isDigit at h
  simp at h
  refine ⟨?_, by omega, by omega, by omega⟩
  show d.toNat % 256 = d.toNat
  omega

theorem parseUintM_digits (ds : List Int) : ∀ (acc k : Nat), (∀ d ∈ ds, isDigit d = true) → acc < 10 ^ k → ds.length + k ≤ 18 →
    ∃ u : Nat, Lib.parseUintM (2 ^ 64 - 1) acc (ds.map fun d => d.toNat.toUInt8) = .ok u ∧ (u : Int) = ds.foldl (fun a d => 10 * a + (d - 48)) (acc : Int) ∧ u < 10 ^ (ds.length + k) := by
  induction ds with
  | nil => intro acc k _ hk _; exact ⟨acc, rfl, rfl, by simpa using hk⟩
  | cons d ds ih =>
    intro acc k hd hk hl
    obtain ⟨e1, e2, e3, e4⟩ := digit_toNat (hd d (by simp))
    simp only [List.length_cons] at hl
    have hp : 10 ^ k ≤ 10 ^ 17 := Nat.pow_le_pow_right (by decide) (by omega)
    have hp2 : (10 : Nat) ^ 17 = 100000000000000000 := by decide
    have hk1 : acc * 10 + (d.toNat - 48) < 10 ^ (k + 1) := by rw [Nat.pow_succ]; omega
    obtain ⟨u, h1, h2, h3⟩ := ih (acc * 10 + (d.toNat - 48)) (k + 1) (fun x hx => hd x (by simp [hx])) hk1 (by omega)
    refine ⟨u, ?_, ?_, ?_⟩
    · rw [List.map_cons, Lib.parseUintM, e1, if_pos ⟨e2, e3⟩, if_neg (by omega), if_neg (by omega)]
      exact h1
    · rw [h2, List.foldl_cons]
      congr 1
      omega
    · rw [List.length_cons, show ds.length + 1 + k = ds.length + (k + 1) from by omega]; exact h3

theorem toList_strOfNums (t : List Int) : (strOfNums t).data.toList = t.map fun d => d.toNat.toUInt8 := by
  unfold strOfNums; simp

theorem lead_all (p : Int → Bool) (xs : List Int) : ∀ x ∈ xs.take (lead p xs), p x = true := by
  induction xs with
  | nil => simp
  | cons x xs ih =>
    intro y hy
    unfold lead at hy
    by_cases hx : p x = true
    · rw [if_pos hx, List.take_succ_cons, List.mem_cons] at hy
      rcases hy with rfl | hy
      · exact hx
      · exact ih y hy
    · rw [if_neg hx] at hy; simp at hy

theorem parse_ok (rest : List Int) (n : Nat) (h1 : 1 ≤ n) (h2 : n ≤ rest.length) (h3 : isDigit (rd rest 0) = true ∨ rd rest 0 = 45 ∧ 2 ≤ n) (h4 : n = lead isDigit (rest.drop 1) + 1) (h5 : n ≤ 18 ∨ n ≤ 19 ∧ rd rest 0 = 45) :
    Lib.parseIntB 64 (strOfNums (rest.take n)).data.toList = .ok (numVal (rest.take n)) := by
  obtain ⟨c, r, rfl⟩ : ∃ c r, rest = c :: r := by
    cases rest with
    | nil => simp at h2; omega
    | cons c r => exact ⟨c, r, rfl⟩
  obtain ⟨k, rfl⟩ : ∃ k, n = k + 1 := ⟨n - 1, by omega⟩
  have hc : rd (c :: r) 0 = c := rfl
  rw [hc] at h3 h5
  have hall : ∀ x ∈ r.take k, isDigit x = true := by
    have := lead_all isDigit r
    rw [show k = lead isDigit r from by simpa using h4]; exact this
  have hlen : (r.take k).length ≤ k := by rw [List.length_take]; omega
  rw [toList_strOfNums, List.take_succ_cons, List.map_cons]
  unfold Lib.parseIntB numVal
  have hrd : rd (c :: r.take k) 0 = c := rfl
  rw [hrd]
  by_cases hneg : c = 45
  · subst hneg
    have e1 : (45 : Int).toNat.toUInt8.toNat = 45 := by decide
    have hk2 : 1 ≤ k := by
      rcases h3 with h3 | h3
      · exact absurd h3 (by decide)
      · omega
    have hne : r.take k ≠ [] := by
      intro hcc; have : (r.take k).length = 0 := by rw [hcc]; rfl
      rw [List.length_take] at this; simp at h2; omega
    obtain ⟨u, q1, q2, q3⟩ := parseUintM_digits (r.take k) 0 0 hall (by decide) (by omega)
    have q4 : u < 10 ^ 18 := Nat.lt_of_lt_of_le q3 (Nat.pow_le_pow_right (by decide) (by omega))
    simp only [e1, or_true, if_true]
    unfold Lib.parseUintB
    rw [if_neg (by simpa using hne), q1]
    simp only [not_true, false_and, if_false, true_and]
    rw [if_neg (by omega)]
    simp only [beq_self_eq_true, if_true, List.drop_succ_cons, List.drop_zero, digitsVal]
    rw [q2]; rfl
  · have hd : isDigit c = true := by
      rcases h3 with h3 | h3
      · exact h3
      · exact absurd h3.1 hneg
    obtain ⟨e1, e2, e3, e4⟩ := digit_toNat hd
    obtain ⟨u, q1, q2, q3⟩ := parseUintM_digits (c :: r.take k) 0 0 (fun x hx => (List.mem_cons.1 hx).elim (fun e => e ▸ hd) (hall x)) (by decide) (by simp; omega)
    have q4 : u < 10 ^ 18 := Nat.lt_of_lt_of_le q3 (Nat.pow_le_pow_right (by decide) (by simp; omega))
    rw [List.map_cons] at q1
    simp only [e1]
    rw [if_neg (by omega)]
    unfold Lib.parseUintB
    rw [if_neg (by simp), q1]
    simp only [show ¬ c.toNat = 45 from by omega, not_false_eq_true, true_and, false_and, if_false]
    rw [if_neg (by omega), if_neg (by rw [beq_iff_eq]; exact hneg)]
    unfold digitsVal
    rw [q2]; rfl

theorem parseInt_any (rest : List Int) (n : Nat) (h1 : 1 ≤ n) (h2 : n ≤ rest.length) (h3 : isDigit (rd rest 0) = true ∨ rd rest 0 = 45 ∧ 2 ≤ n) (h4 : n = lead isDigit (rest.drop 1) + 1) (h5 : n ≤ 18 ∨ n ≤ 19 ∧ rd rest 0 = 45) (w : World) :
    Calls Tryd.prog 21 #[.string (strOfNums (rest.take n)), .int .i64 10, .int .i64 64] w fun e w' => e = .returned (.tuple #[.int .i64 (numVal (rest.take n)), .nilIface]) ∧ Below w.heap.size w w' := by
  have hs : (strOfNums (rest.take n)).size ≤ 9223372036854775806 := by
    show (strOfNums (rest.take n)).data.size ≤ _
    rw [← Array.length_toList, toList_strOfNums, List.length_map, List.length_take]; omega
  refine (Tryd.strconv_ParseInt_10_at64_ok _ hs _ (parse_ok rest n h1 h2 h3 h4 h5) w).mono ?_
  rintro e w' ⟨rfl, rfl | ⟨t, rfl⟩⟩
  · exact ⟨rfl, Below.refl _ _⟩
  · exact ⟨rfl, Lib.bytesWorld_below w _ t⟩
end Go.Proofs.YtincigcoagcgaaaDoor.Pr
