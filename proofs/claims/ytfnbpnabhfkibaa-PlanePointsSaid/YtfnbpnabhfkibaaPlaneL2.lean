/- The walks of the laws PlaneMany and PlaneWords: they return true. -/
import Derived.Test.YtfnbpnabhfkibaaPlaneL1
import Derived.Deep.LoopGhost
namespace Go.Proofs.Ytfnbpnabhfkibaa
set_option linter.unusedVariables false
set_option linter.unusedSimpArgs false
open Go.RowKit Ieee
attribute [local go_sem] eqGuard_pt

set_option maxHeartbeats 1000000 in
theorem many_any (re im n : Int) (h0 : 0 ≤ n) (h1 : n ≤ 255) (w : World) : Calls Try.prog 5 #[.int .i64 re, .int .i64 im, .int .u8 n] w fun e w' => e = .returned (.bool true) ∧ w = w' := by
  have hE := fun a b c d w => eql_parts 25 a b c d w
  have p1 := part_wrap
  go_enter Try.func5, Try.ntmps5
  go_wp2_with (first | (go_at_call 8; refine (lives_any _).mono ?_; rintro e w' ⟨rfl, rfl⟩) | (go_at_call 9; refine (of_any _ _ _).mono ?_; rintro e w' ⟨rfl, rfl⟩))
  go_loopg [8, 17] n.toNat (fun g s i wr => wr = w ∧ ∃ k : Nat, (k : Int) ≤ n ∧ g = n.toNat - k ∧ i = .int .u8 k ∧ s = pt (part (re * k)) (part (im * k)))
  case atStart => exact ⟨rfl, 0, h0, rfl, rfl, by simp⟩
  case round =>
    obtain ⟨rfl, k, hk, rfl, rfl, rfl⟩ := hrel
    by_cases hlt : (k : Int) < n
    · have e1 : re * (k : Int) + re = re * ((k + 1 : Nat) : Int) := by rw [Int.natCast_add, Int.mul_add]; simp
      have e2 : im * (k : Int) + im = im * ((k + 1 : Nat) : Int) := by rw [Int.natCast_add, Int.mul_add]; simp
      have hA := add_parts (re * k) (im * k) re im
      rw [e1, e2] at hA
      have HK : Hid ((k : Int) + 1 ≤ n ∧ n.toNat - (k + 1) < n.toNat - k) := ⟨by omega, by omega⟩
      clear e1 e2
      go_wp2_with (go_at_call 10; refine (hA _).mono ?_; rintro e w' ⟨rfl, rfl⟩)
      go_roundg (n.toNat - (k + 1))
      case measure => exact HK.out.2
      case rel => exact ⟨rfl, k + 1, by have := HK.out.1; omega, rfl, by go_num, rfl⟩
    · obtain rfl : n = (k : Int) := by omega
      have e0 : part (re * -im + im * re) = 0 := by
        rw [show re * -im + im * re = 0 from by grind]; decide
      have q0 : ∀ x : Int, x - im * 0 = x := fun x => by omega
      have q1 : ∀ x : Int, re * 0 + x = x := fun x => by omega
      go_wp2_with (first | (go_at_call 9; refine (of_any _ _ _).mono ?_; rintro e w' ⟨rfl, rfl⟩) | (go_at_call 11; refine (mul_parts _ _ _ _ _).mono ?_; rintro e w' ⟨rfl, rfl⟩) | (go_at_call 12; refine (im_any _ 0 (by decide) _).mono ?_; rintro e w' ⟨rfl, rfl⟩))
      go_ret
      exact ⟨rfl, rfl⟩
theorem tmod_word (n : Int) (c : n.tmod 16777216 < 0) : n.tmod 16777216 + 16777216 = n % 16777216 := by
  have h := Int.mul_tdiv_add_tmod n 16777216
  have h1 := Int.tmod_lt_of_pos n (show (0 : Int) < 16777216 by decide)
  have h2 := Int.lt_tmod_of_pos n (show (0 : Int) < 16777216 by decide)
  omega
theorem tmod_word' (n : Int) (c : ¬ n.tmod 16777216 < 0) : n.tmod 16777216 = n % 16777216 := by
  have h := Int.mul_tdiv_add_tmod n 16777216
  have h1 := Int.tmod_lt_of_pos n (show (0 : Int) < 16777216 by decide)
  omega

set_option maxHeartbeats 400000 in
theorem refPart_any (n : Int) (w : World) :
    Calls Try.prog 15 #[.int .i64 n] w fun e w' => e = .returned (.int .i64 (part n)) ∧ w = w' := by
  obtain ⟨t1, t2, _⟩ := tmod_bd n
  have w1 := tmod_word n
  have w2 := tmod_word' n
  have HP : Hid (part n = (n + 8388608) % 16777216 - 8388608) := rfl
  by_cases c1 : n.tmod 16777216 < 0
  · have e1 := w1 c1
    have e2 : Hid (8388608 ≤ n % 16777216 → part n = n % 16777216 - 16777216) := fun h => by rw [HP.out]; omega
    have e3 : Hid (n % 16777216 < 8388608 → part n = n % 16777216) := fun h => by rw [HP.out]; omega
    clear w1 w2
    go_enter Try.func15, Try.ntmps15
    go_wp2
    all_goals go_ret
    · exact ⟨by first | (rw [e2.out (by omega)]; rfl) | rfl, rfl⟩
    · exact ⟨by first | (rw [e3.out (by omega)]; rfl) | rfl, rfl⟩
  · have e1 := w2 c1
    have c1' : ¬ n % 16777216 < 0 := by omega
    have e2 : Hid (8388608 ≤ n % 16777216 → part n = n % 16777216 - 16777216) := fun h => by rw [HP.out]; omega
    have e3 : Hid (n % 16777216 < 8388608 → part n = n % 16777216) := fun h => by rw [HP.out]; omega
    clear w1 w2 c1 t1 t2
    go_enter Try.func15, Try.ntmps15
    go_wp2
    all_goals go_ret
    · exact ⟨by first | (rw [e2.out (by omega)]; rfl) | rfl, rfl⟩
    · exact ⟨by first | (rw [e3.out (by omega)]; rfl) | rfl, rfl⟩

/-- The number of a point. -/
def word (a b : Int) : Int := a % 4294967296 * 4294967296 + b % 4294967296
theorem word_bits (a b : Int) : bits .or .u64 (a % 4294967296 * 4294967296) (b % 4294967296) = word a b := by
  have h1 : a % 4294967296 * 4294967296 = (((a % 4294967296).toNat * 2 ^ 32 : Nat) : Int) := by omega
  have h2 : b % 4294967296 = (((b % 4294967296).toNat : Nat) : Int) := by omega
  rw [h1, h2, u64_or_nat _ _ (by omega) (by omega), nat_join 32 _ _ (by omega) (by omega)]
  unfold word; omega

set_option maxHeartbeats 400000 in
theorem word_any (a b : Int) (ha : -8388608 ≤ a ∧ a < 8388608) (hb : -8388608 ≤ b ∧ b < 8388608) (w : World) :
    Calls Try.prog 17 #[pt a b] w fun e w' => e = .returned (.int .u64 (word a b)) ∧ w = w' := by
  have hw := word_bits a b
  go_enter Try.func17, Try.ntmps17
  go_wp2_with (first | (go_at_call 13; refine (re_any _ _ ha _).mono ?_; rintro e w' ⟨rfl, rfl⟩) | (go_at_call 12; refine (im_any _ _ hb _).mono ?_; rintro e w' ⟨rfl, rfl⟩))
  go_ret
  exact ⟨rfl, rfl⟩

theorem wrap32_bd (x : Int) : -2147483648 ≤ wrap32 x ∧ wrap32 x < 2147483648 := by unfold wrap32; omega

/-- A number is a point's where its halves are parts. -/
theorem word_iff (v : Int) (h0 : 0 ≤ v) (h1 : v < 18446744073709551616) :
    word (part (wrap32 (v / 4294967296))) (part (wrap32 v)) = v ↔ part (wrap32 (v / 4294967296)) = wrap32 (v / 4294967296) ∧ part (wrap32 v) = wrap32 v := by
  have b1 := part_bd (wrap32 (v / 4294967296))
  have b2 := part_bd (wrap32 v)
  generalize part (wrap32 (v / 4294967296)) = p at *
  generalize part (wrap32 v) = q at *
  unfold word wrap32
  omega

set_option maxHeartbeats 400000 in
theorem fromWord_no (v : Int) (h0 : 0 ≤ v) (h1 : v < 18446744073709551616) (h : (word (part (wrap32 (v / 4294967296))) (part (wrap32 v)) != v) = true) (w : World) :
    Calls Try.prog 14 #[.int .u64 v] w fun e w' => e = .returned (.tuple #[.complex .f64 0 0, .int .i64 12]) ∧ w = w' := by
  have p1 := part_wrap
  go_enter Try.func14, Try.ntmps14
  go_wp2_with (first | (go_at_call 9; refine (of_any _ _ _).mono ?_; rintro e w' ⟨rfl, rfl⟩) | (go_at_call 17; refine (word_any _ _ (part_bd _) (part_bd _) _).mono ?_; rintro e w' ⟨rfl, rfl⟩))
  go_ret2
  exact ⟨rfl, rfl⟩
set_option maxHeartbeats 400000 in
theorem fromWord_yes (v : Int) (h0 : 0 ≤ v) (h1 : v < 18446744073709551616) (h : (word (part (wrap32 (v / 4294967296))) (part (wrap32 v)) != v) = false) (w : World) :
    Calls Try.prog 14 #[.int .u64 v] w fun e w' => e = .returned (.tuple #[pt (part (wrap32 (v / 4294967296))) (part (wrap32 v)), .int .i64 0]) ∧ w = w' := by
  have p1 := part_wrap
  go_enter Try.func14, Try.ntmps14
  go_wp2_with (first | (go_at_call 9; refine (of_any _ _ _).mono ?_; rintro e w' ⟨rfl, rfl⟩) | (go_at_call 17; refine (word_any _ _ (part_bd _) (part_bd _) _).mono ?_; rintro e w' ⟨rfl, rfl⟩))
  go_ret2
  exact ⟨rfl, rfl⟩

set_option maxHeartbeats 400000 in
theorem is_any (a b : Int) (ha : -8388608 ≤ a ∧ a < 8388608) (hb : -8388608 ≤ b ∧ b < 8388608) (w : World) :
    Calls Try.prog 16 #[pt a b, .int .i64 a, .int .i64 b] w fun e w' => e = .returned (.bool true) ∧ w = w' := by
  go_enter Try.func16, Try.ntmps16
  go_wp2_with (first | (go_at_call 13; refine (re_any _ _ ha _).mono ?_; rintro e w' ⟨rfl, rfl⟩) | (go_at_call 12; refine (im_any _ _ hb _).mono ?_; rintro e w' ⟨rfl, rfl⟩))
  go_ret
  exact ⟨rfl, rfl⟩

theorem zero_pt : (.complex .f64 0 0 : Value) = pt 0 0 := rfl

/-- The halves, as the code spells them. -/
def Half (x X : Int) : Prop := (2147483648 ≤ x ∧ X = x - 4294967296) ∨ (x < 2147483648 ∧ X = x)

set_option maxHeartbeats 2000000 in
theorem words_any (v : Int) (h0 : 0 ≤ v) (h1 : v < 18446744073709551616) (w : World) : Calls Try.prog 6 #[.int .u64 v] w fun e w' => e = .returned (.bool true) ∧ w = w' := by
  have hiff := word_iff v h0 h1
  have hz : ∀ w, (binOp .eql 25 (.complex .f64 0 0) (.complex .f64 0 0)).run Try.prog w = .ok (.bool true) w := fun w => (eql_pt _ 0 0 0 0 (by decide) (by decide) (by decide) (by decide) w).1
  have hX : (2147483648 ≤ v / 4294967296 ∧ wrap32 (v / 4294967296) = v / 4294967296 - 4294967296) ∨ (v / 4294967296 < 2147483648 ∧ wrap32 (v / 4294967296) = v / 4294967296) := by unfold wrap32; omega
  have hY : (2147483648 ≤ v % 4294967296 ∧ wrap32 v = v % 4294967296 - 4294967296) ∨ (v % 4294967296 < 2147483648 ∧ wrap32 v = v % 4294967296) := by unfold wrap32; omega
  have bX := part_bd (wrap32 (v / 4294967296))
  have bY := part_bd (wrap32 v)
  by_cases hp : part (wrap32 (v / 4294967296)) = wrap32 (v / 4294967296)
  · by_cases hq : part (wrap32 v) = wrap32 v
    · have hy : (word (part (wrap32 (v / 4294967296))) (part (wrap32 v)) != v) = false := by rw [hiff.2 ⟨hp, hq⟩]; simp
      have hW := hiff.2 ⟨hp, hq⟩
      have hF := fromWord_yes v h0 h1 hy
      rw [hp] at bX
      rw [hq] at bY
      rw [hp, hq] at hF hW
      clear hiff hy hz
      rcases hX with ⟨hX1, hX2⟩ | ⟨hX1, hX2⟩ <;> rcases hY with ⟨hY1, hY2⟩ | ⟨hY1, hY2⟩
      all_goals
        rw [hX2, hY2] at hF hW
        rw [hX2] at hp bX
        rw [hY2] at hq bY
        have hI := is_any _ _ bX bY
        have hWd := word_any _ _ bX bY
        rw [hW] at hWd
        clear hX2 hY2 hW
        go_enter Try.func6, Try.ntmps6
        go_wp2_with (first | (go_at_call 8; refine (lives_any _).mono ?_; rintro e w' ⟨rfl, rfl⟩) | (go_at_call 14; refine (hF _).mono ?_; rintro e w' ⟨rfl, rfl⟩) | (go_at_call 15; refine (refPart_any _ _).mono ?_; rintro e w' ⟨rfl, rfl⟩) | (go_at_call 16; refine (hI _).mono ?_; rintro e w' ⟨rfl, rfl⟩) | (go_at_call 17; refine (hWd _).mono ?_; rintro e w' ⟨rfl, rfl⟩))
        go_ret
        exact ⟨rfl, rfl⟩
    · have hy : (word (part (wrap32 (v / 4294967296))) (part (wrap32 v)) != v) = true := by rw [bne_iff_ne]; intro hc; exact hq (hiff.1 hc).2
      have hF := fromWord_no v h0 h1 hy
      clear hiff hy bX bY
      rcases hX with ⟨hX1, hX2⟩ | ⟨hX1, hX2⟩ <;> rcases hY with ⟨hY1, hY2⟩ | ⟨hY1, hY2⟩
      all_goals
        rw [hX2] at hp
        rw [hY2] at hq
        have hq' := bne_iff_ne.2 hq
        clear hX2 hY2 hq
        go_enter Try.func6, Try.ntmps6
        go_wp2_with (first | (go_at_call 8; refine (lives_any _).mono ?_; rintro e w' ⟨rfl, rfl⟩) | (go_at_call 14; refine (hF _).mono ?_; rintro e w' ⟨rfl, rfl⟩) | (go_at_call 15; refine (refPart_any _ _).mono ?_; rintro e w' ⟨rfl, rfl⟩))
        go_ret
        exact ⟨rfl, rfl⟩
  · have hy : (word (part (wrap32 (v / 4294967296))) (part (wrap32 v)) != v) = true := by rw [bne_iff_ne]; intro hc; exact hp (hiff.1 hc).1
    have hF := fromWord_no v h0 h1 hy
    clear hiff hy bX bY
    rcases hX with ⟨hX1, hX2⟩ | ⟨hX1, hX2⟩ <;> rcases hY with ⟨hY1, hY2⟩ | ⟨hY1, hY2⟩
    all_goals
      rw [hX2] at hp
      have hp' := bne_iff_ne.2 hp
      clear hX2 hY2 hp
      go_enter Try.func6, Try.ntmps6
      go_wp2_with (first | (go_at_call 8; refine (lives_any _).mono ?_; rintro e w' ⟨rfl, rfl⟩) | (go_at_call 14; refine (hF _).mono ?_; rintro e w' ⟨rfl, rfl⟩) | (go_at_call 15; refine (refPart_any _ _).mono ?_; rintro e w' ⟨rfl, rfl⟩))
      go_ret
      exact ⟨rfl, rfl⟩
end Go.Proofs.Ytfnbpnabhfkibaa
