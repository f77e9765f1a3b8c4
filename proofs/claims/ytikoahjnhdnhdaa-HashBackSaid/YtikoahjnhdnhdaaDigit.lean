/- CONTRACTS of hash.digit and scrupleref02.digit, and what the two Unhex answer, as plain data. Condition: a byte. -/
import Derived.Test.YtikoahjnhdnhdaaDigests
namespace Go.Proofs.Ytikoahjnhdnhdaa
open Go.ChangeShapes Go.WideShapes Go.ChangeAt Go.RowKit Go.Proofs.YtikoahjnhdnhdaaW.PrintWords Go.Deep
set_option linter.unusedVariables false

/-- Is it a digit, and which? -/
def isD (c : Int) : Bool := (decide (48 ≤ c) && decide (c ≤ 57)) || (decide (97 ≤ c) && decide (c ≤ 102))
def dv (c : Int) : Int := if c ≤ 57 then c - 48 else c - 87

theorem isD_iff (c : Int) : isD c = true ↔ (48 ≤ c ∧ c ≤ 57) ∨ (97 ≤ c ∧ c ≤ 102) := by simp [isD]
theorem dv_bounds {c : Int} (h : isD c = true) : 0 ≤ dv c ∧ dv c ≤ 15 := by
  rw [isD_iff] at h
  unfold dv
  split <;> omega

theorem digit_yes (c : Int) (w : World) (h : isD c = true) : Calls Try.prog 11 #[.int .u8 c] w fun e w' => e = .returned (.tuple #[.int .u8 (dv c), .bool true]) ∧ w = w' := by
  rw [isD_iff] at h
  rcases h with ⟨h1, h2⟩ | ⟨h1, h2⟩
  · have hd : dv c = c - 48 := by unfold dv; rw [if_pos h2]
    rw [hd]
    clear hd
    go_enter Try.func11, Try.ntmps11
    go_wp2
    go_ret2
    exact ⟨rfl, rfl⟩
  · have hd : dv c = c - 97 + 10 := by unfold dv; rw [if_neg (by omega)]; omega
    rw [hd]
    clear hd
    go_enter Try.func11, Try.ntmps11
    go_wp2
    go_ret2
    exact ⟨rfl, rfl⟩

theorem digit_no (c : Int) (w : World) (h0 : 0 ≤ c) (h1 : c ≤ 255) (h : isD c = false) : Calls Try.prog 11 #[.int .u8 c] w fun e w' => e = .returned (.tuple #[.int .u8 0, .bool false]) ∧ w = w' := by
  have hn : ¬ ((48 ≤ c ∧ c ≤ 57) ∨ (97 ≤ c ∧ c ≤ 102)) := by rw [← isD_iff, h]; simp
  rcases (by omega : c < 48 ∨ (57 < c ∧ c < 97) ∨ 102 < c) with h2 | ⟨h2, h3⟩ | h2
  · go_enter Try.func11, Try.ntmps11
    go_wp2
    go_ret2
    exact ⟨rfl, rfl⟩
  · have h4 : 48 ≤ c := by omega
    go_enter Try.func11, Try.ntmps11
    go_wp2
    go_ret2
    exact ⟨rfl, rfl⟩
  · have h4 : 48 ≤ c := by omega
    have h5 : 57 < c := by omega
    have h6 : 97 ≤ c := by omega
    go_enter Try.func11, Try.ntmps11
    go_wp2
    go_ret2
    exact ⟨rfl, rfl⟩

theorem index_digits64 (i : Nat) (h1 : i < 16) (w : World) : (Instr.index 9 (.string ⟨#[48, 49, 50, 51, 52, 53, 54, 55, 56, 57, 97, 98, 99, 100, 101, 102]⟩) (.int .i64 (i : Int))).run Try.prog w = .ok (.int .u8 (dig i)) w := by
  rcases (by omega : i = 0 ∨ i = 1 ∨ i = 2 ∨ i = 3 ∨ i = 4 ∨ i = 5 ∨ i = 6 ∨ i = 7 ∨ i = 8 ∨ i = 9 ∨ i = 10 ∨ i = 11 ∨ i = 12 ∨ i = 13 ∨ i = 14 ∨ i = 15) with rfl | rfl | rfl | rfl | rfl | rfl | rfl | rfl | rfl | rfl | rfl | rfl | rfl | rfl | rfl | rfl
  all_goals kernel_rfl
theorem dig_dv {k : Nat} (hk : k < 16) : isD (dig k) = true ∧ dv (dig k) = k := by
  rw [isD_iff]
  unfold dig dv
  constructor
  · split <;> omega
  · split <;> split <;> omega
theorem dv_dig {c : Int} (h : isD c = true) : dig (dv c) = c := by
  rw [isD_iff] at h
  unfold dig dv
  split <;> split <;> omega

/-- What the reference's digit answers. -/
def rdv (c : Int) : Int := if isD c = true then dv c else -1
theorem rdigit_any (c : Int) (w : World) : Calls Try.prog 12 #[.int .u8 c] w fun e w' => e = .returned (.int .i64 (rdv c)) ∧ w = w' := by
  go_enter Try.func12, Try.ntmps12
  go_wp2
  go_loop [3] (fun i => ∃ k : Nat, k ≤ 16 ∧ i = .int .i64 k ∧ Hid (∀ j : Nat, j < k → dig j ≠ c)) (fun i => 16 - (intOf i).toNat)
  case atStart => exact ⟨0, by omega, rfl, fun j h => absurd h (by omega)⟩
  case round =>
    obtain ⟨k, hk, rfl, HN⟩ := hrel
    by_cases hlt : k < 16
    · have hix := index_digits64 k hlt
      by_cases he : dig k = c
      · have hd : Hid (rdv c = k) := by
          show _ = _
          unfold rdv
          rw [← he, if_pos (dig_dv hlt).1, (dig_dv hlt).2]
        have hq : (dig (k : Int) == c) = true := by simpa using he
        clear he
        go_wp2
        go_ret
        rw [hd.out]
        exact ⟨rfl, rfl⟩
      · have hq : (dig (k : Int) == c) = false := by simpa using he
        have HN' : Hid (∀ j : Nat, j < k + 1 → dig j ≠ c) := by
          intro j hj
          by_cases h : j = k
          · subst h; exact he
          · exact HN.out j (by omega)
        clear he
        go_wp2
        go_round
        case rel => exact ⟨k + 1, by omega, by go_num, HN'⟩
        case measure => simp [intOf]; omega
    · have hd : Hid (rdv c = -1) := by
        show _ = _
        unfold rdv
        rw [if_neg]
        intro h
        have hb := dv_bounds h
        refine HN.out (dv c).toNat (by omega) ?_
        rw [Int.toNat_of_nonneg hb.1]
        exact dv_dig h
      go_wp2
      go_ret
      rw [hd.out]
      exact ⟨rfl, rfl⟩
end Go.Proofs.Ytikoahjnhdnhdaa
