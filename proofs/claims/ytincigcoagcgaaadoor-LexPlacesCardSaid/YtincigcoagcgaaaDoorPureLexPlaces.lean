/- The law LexPlaces on lists. -/
import Derived.Test.YtincigcoagcgaaaDoorRefLex6
import Derived.Test.YtincigcoagcgaaaDoorLp1
namespace Go.Proofs.YtincigcoagcgaaaDoor.Pr
set_option linter.unusedVariables false
set_option linter.unusedSimpArgs false
open Go.RowKit Go.Proofs.YtincigcoagcgaaaDoorW.PrintWords Go.Proofs.YtincigcoagcgaaaDoorW.PrintLast Go.Proofs.YtincigcoagcgaaaDoorW.PrintMore

theorem places_l0 {xs : List Int} (hx : Bytes xs) (hl : xs.length ≤ 1000) (all : List S33) (hal : all.length ≤ 1000) : ∀ (l : List S33) (e i k : Nat), Good xs e l → i + l.length = all.length → all.drop i = l → 2 * l.length + 1 ≤ k →
    reverielaw01_LexPlaces.l0 k xs e all (all.length : Int) i = some true := by
  intro l
  induction l with
  | nil =>
    intro e i k hg hi hd hk
    obtain ⟨k, rfl⟩ : ∃ m, k = m + 1 := ⟨k - 1, by omega⟩
    cases hg with
    | nil _ he hr =>
      simp only [List.length_nil, Nat.add_zero] at hi
      simp only [reverielaw01_LexPlaces.l0]
      rw [if_neg (by omega), if_pos (by omega), if_pos (by omega), Int.toNat_natCast, lexf (by rw [List.length_drop]; omega), hr, Option.bind_some, if_pos rfl]
      rfl
  | cons t l ih =>
    intro e i k hg hi hd hk
    rw [List.length_cons] at hi hk
    obtain ⟨k, rfl⟩ : ∃ m, k = m + 2 := ⟨k - 2, by omega⟩
    have hil : i < all.length := by omega
    have ht : rd_T33 all (i : Int) = t := by
      rw [List.drop_eq_getElem_cons hil] at hd
      injection hd with h1 h2
      unfold rd_T33
      simp [hil, h1]
    have hd2 : all.drop (i + 1) = l := by
      rw [List.drop_eq_getElem_cons hil] at hd
      injection hd with h1 h2
    cases hg with
    | cons _ p n kd v _ hep hpn hn hbt hone hgd =>
      have next := ih (p + n) (i + 1) k hgd (by omega) hd2 (by omega)
      have hsz : (strOfNums ((xs.drop p).take n)).size = n := by rw [size_str, List.length_take, List.length_drop]; omega
      have hcut : (xs.take (p + n)).drop p = (xs.drop p).take n := by rw [List.drop_take, show p + n - p = n from by omega]
      have hbs : bytesOf (strOfNums ((xs.drop p).take n)) = (xs.drop p).take n := bytesOf_str fun x h => hx x (List.mem_of_mem_drop (List.mem_of_mem_take h))
      have e1 : wrap64 ((p : Int) + (n : Int)) = ((p + n : Nat) : Int) := by rw [w64 (by omega) (by omega)]; omega
      rw [show k + 2 = (k + 1) + 1 from rfl]
      simp only [reverielaw01_LexPlaces.l0]
      rw [if_pos (by omega), if_pos (by omega), if_pos (by omega), ht]
      simp only
      rw [if_neg (by omega), if_neg (str_ne (by rw [List.length_take, List.length_drop]; omega)), hsz, e1, if_neg (by omega), if_pos (by omega), if_pos (by omega), if_pos (by omega), Int.toNat_natCast, Int.toNat_natCast, hcut]
      simp only [reverielaw01_LexPlaces.j2]
      rw [if_neg (by simp), if_pos (by omega), if_pos (by omega), if_pos (by omega), Int.toNat_natCast, Int.toNat_natCast, lexf (by rw [List.length_drop, List.length_take]; omega), hbt, Option.bind_some, if_pos (by rw [hsz]; omega), hbs,
        lexf (by rw [List.length_take, List.length_drop]; omega), tok1_lex hone (by rw [List.length_take, List.length_drop]; omega), Option.bind_some]
      simp only [List.nil_append, List.length_nil, List.length_singleton, rdT_head]
      rw [if_pos (show ((0 : Nat) : Int) = 0 from rfl), if_pos trivial, if_pos (show ((1 : Nat) : Int) = 1 from rfl), if_pos (by decide), if_pos trivial, if_pos trivial, hsz, e1, w64 (by omega) (by omega)]
      exact next
end Go.Proofs.YtincigcoagcgaaaDoor.Pr
namespace Go.Proofs.YtincigcoagcgaaaDoor.Pure
set_option linter.unusedVariables false
set_option linter.unusedSimpArgs false
open Go.RowKit Go.Proofs.YtincigcoagcgaaaDoor.Pr Go.Proofs.YtincigcoagcgaaaDoorW.PrintWords Go.Proofs.YtincigcoagcgaaaDoorW.PrintLast

theorem LexPlaces : reverielaw01_LexPlaces.Pure := by
  intro xs h1 h2 hw
  have hx : Bytes xs := bytes_wf6 hw
  refine ⟨20000, ?_⟩
  unfold reverielaw01_LexPlaces.f reverielaw01_lives.f
  rw [Option.bind_some, if_pos rfl]
  obtain ⟨k, hk⟩ : ∃ k, 20000 = k + 1 := ⟨19999, rfl⟩
  obtain rfl : k = 19999 := by omega
  rw [hk]
  simp only [reverielaw01_LexPlaces.j0]
  by_cases hl : (xs.length : Int) > 1000
  · rw [if_pos (decide_eq_true hl)]; rfl
  · rw [if_neg (by simpa using hl), lexf (by omega), Option.bind_some]
    obtain ⟨fa, pa, la⟩ := lexL_form xs.length xs (Nat.le_refl _) 0 [] 0 (0 + xs.length) (Int.le_refl _) (by omega) (fun t ht => nomatch ht)
    rcases fa with ⟨f1, f2⟩ | ⟨f1, f2, f3, f4⟩
    · obtain ⟨l, e1, g⟩ := lex_good xs xs.length 0 0 (Nat.zero_le _) (by omega) (Nat.le_refl _) (.zero _) [] f2
      rw [show lexL xs 0 [] = lexL (xs.drop 0) ((0 : Nat) : Int) [] from rfl, e1, List.nil_append]
      rw [show lexL xs 0 [] = lexL (xs.drop 0) ((0 : Nat) : Int) [] from rfl, e1, List.nil_append, List.length_nil] at la
      simp only at la ⊢
      rw [if_pos trivial]
      exact places_l0 hx (by omega) l (by omega) l 0 0 19999 g (by omega) rfl (by omega)
    · rw [if_neg (by rw [f2]; decide), if_pos (by omega), decide_eq_true (by omega)]
end Go.Proofs.YtincigcoagcgaaaDoor.Pure
