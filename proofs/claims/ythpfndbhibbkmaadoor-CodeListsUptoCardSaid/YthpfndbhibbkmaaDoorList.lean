/- What List answers, as plain data; CONTRACTS of slices.Clip at instructions and at whole numbers, and of code.List. -/
import Derived.Test.YthpfndbhibbkmaaDoorBytesRef
namespace Go.Proofs.YthpfndbhibbkmaaDoor
open Go.ChangeShapes Go.WideShapes Go.ChangeAt Go.RowKit Go.Proofs.YthpfndbhibbkmaaDoorW.PrintWords
set_option linter.unusedVariables false
set_option linter.unusedSimpArgs false

/-- What List answers from a place on: instructions, places, where it stopped, error. -/
def runL (bs : List Int) : Nat → Nat → List (Int × Int) × List Int × Int × Int
  | 0, _ => ([], [], 0, 0)
  | f + 1, i => if bs.length ≤ i then ([], [], 0, 0)
    else if (takeR bs i).2.2.2 ≠ 0 then ([], [], i, (takeR bs i).2.2.2)
    else if (runL bs f (takeR bs i).2.2.1.toNat).2.2.2 ≠ 0 then ([], [], (runL bs f (takeR bs i).2.2.1.toNat).2.2.1, (runL bs f (takeR bs i).2.2.1.toNat).2.2.2)
    else (((takeR bs i).1, (takeR bs i).2.1) :: (runL bs f (takeR bs i).2.2.1.toNat).1, (i : Int) :: (runL bs f (takeR bs i).2.2.1.toNat).2.1, 0, 0)
def listR (bs : List Int) : List (Int × Int) × List Int × Int × Int := runL bs (bs.length + 1) 0
/-- What was read ahead, and then r. -/
def preL (ps : List (Int × Int)) (pl : List Int) (r : List (Int × Int) × List Int × Int × Int) : List (Int × Int) × List Int × Int × Int :=
  if r.2.2.2 ≠ 0 then ([], [], r.2.2.1, r.2.2.2) else (ps ++ r.1, pl ++ r.2.1, r.2.2.1, 0)

theorem preL_nil (bs : List Int) (f i : Nat) : preL [] [] (runL bs f i) = runL bs f i := by
  unfold preL
  cases f with
  | zero => simp [runL]
  | succ f =>
    simp only [runL]
    split
    · simp
    · split
      · simp [*]
      · split
        · simp [*]
        · simp
/-- One more instruction read. -/
theorem preL_step (bs : List Int) (ps : List (Int × Int)) (pl : List Int) (f i : Nat) (hi : i < bs.length) (he : (takeR bs i).2.2.2 = 0) :
    preL ps pl (runL bs (f + 1) i) = preL (ps ++ [((takeR bs i).1, (takeR bs i).2.1)]) (pl ++ [(i : Int)]) (runL bs f (takeR bs i).2.2.1.toNat) := by
  rw [runL, if_neg (by omega), if_neg (by simp [he])]
  generalize hr : runL bs f (takeR bs i).2.2.1.toNat = r
  unfold preL
  by_cases h : r.2.2.2 = 0
  · have h0 : r.2.2.1 = 0 := by
      cases f with
      | zero => rw [← hr]; rfl
      | succ f =>
        rw [← hr] at h ⊢
        simp only [runL] at h ⊢
        split
        · rfl
        · rename_i h1
          rw [if_neg h1] at h
          split
          · rename_i h2
            rw [if_pos h2] at h
            exact absurd h h2
          · rename_i h2
            rw [if_neg h2] at h
            split
            · rename_i h3
              rw [if_pos h3] at h
              exact absurd h h3
            · rfl
    simp [h, h0]
  · simp [h]
theorem preL_end (bs : List Int) (ps : List (Int × Int)) (pl : List Int) (f i : Nat) (hi : bs.length ≤ i) : preL ps pl (runL bs (f + 1) i) = (ps, pl, 0, 0) := by
  rw [runL, if_pos hi]
  simp [preL]
theorem preL_err (bs : List Int) (ps : List (Int × Int)) (pl : List Int) (f i : Nat) (hi : i < bs.length) (he : (takeR bs i).2.2.2 ≠ 0) : preL ps pl (runL bs (f + 1) i) = ([], [], (i : Int), (takeR bs i).2.2.2) := by
  rw [runL, if_neg (by omega), if_pos he]
  simp [preL, he]
/-- A read that answers goes on, and not beyond the end. -/
theorem take_next (bs : List Int) (i : Nat) (hi : i < bs.length) (he : (takeR bs i).2.2.2 = 0) : ∃ j : Nat, (takeR bs i).2.2.1 = j ∧ i < j ∧ j ≤ bs.length ∧ j ≤ i + 3 := by
  unfold takeR at he ⊢
  rw [if_neg (by omega)] at he ⊢
  split at he
  · cases he
  rename_i h1
  rw [if_neg h1]
  split at he
  · cases he
  rename_i h2
  rw [if_neg h2]
  split at he
  · cases he
  rename_i h3
  rw [if_neg h3]
  simp only
  rcases width_012 (numT (bs.getD (i : Int).toNat 0).toNat 0) with e | e | e
  · rw [e] at h2 ⊢
    exact ⟨i + 1, by omega, by omega, by omega, by omega⟩
  · rw [e] at h2 ⊢
    exact ⟨i + 2, by omega, by omega, by omega, by omega⟩
  · rw [e] at h2 ⊢
    exact ⟨i + 3, by omega, by omega, by omega, by omega⟩
theorem take_err (bs : List Int) (i : Int) : (takeR bs i).2.2.2 = 0 ∨ (takeR bs i).2.2.2 = 80 ∨ (takeR bs i).2.2.2 = 81 ∨ (takeR bs i).2.2.2 = 82 := by
  unfold takeR
  repeat (first | (split) | (simp))

theorem clipI_any (a : Option Addr) (n c : Nat) (w : World) (hc : n ≤ c) : Calls Tryd.prog 37 #[.slice a n c] w fun e w' => e = .returned (.slice a n n) ∧ w = w' := by
  go_enter Tryd.func37, Tryd.ntmps37
  go_wp2
  go_ret
  exact ⟨rfl, rfl⟩
theorem clipN_any (a : Option Addr) (n c : Nat) (w : World) (hc : n ≤ c) : Calls Tryd.prog 38 #[.slice a n c] w fun e w' => e = .returned (.slice a n n) ∧ w = w' := by
  go_enter Tryd.func38, Tryd.ntmps38
  go_wp2
  go_ret
  exact ⟨rfl, rfl⟩
end Go.Proofs.YthpfndbhibbkmaaDoor
