/- THE PLAIN LAW OF A HASH THAT GOES ON: eight words and a rest stand for the bytes that were taken; no program in sight. -/
namespace Go.Proofs.YtikoahjnhdnhdaaDoor

/-- The words after k blocks. -/
def runB (F : List Int → List Int → List Int) (H L : List Int) : Nat → List Int
  | 0 => H
  | k + 1 => F (runB F H L k) ((L.drop (64 * k)).take 64)

theorem runB_append (F : List Int → List Int → List Int) (H L M : List Int) : ∀ k, 64 * k ≤ L.length → runB F H (L ++ M) k = runB F H L k := by
  intro k
  induction k with
  | zero => intro _; rfl
  | succ k ih =>
    intro h
    unfold runB
    rw [ih (by omega), List.drop_append_of_le_length (by omega), List.take_append_of_le_length (by rw [List.length_drop]; omega)]

/-- Words h and rest stand for the bytes m. -/
structure Held (F : List Int → List Int → List Int) (H h rest m : List Int) : Prop where
  words : h = runB F H m (m.length / 64)
  size : rest.length = 64
  rest_ : rest.take (m.length % 64) = m.drop (64 * (m.length / 64))

theorem Held.nil (F : List Int → List Int → List Int) (H rest : List Int) (h : rest.length = 64) : Held F H H rest [] := ⟨rfl, h, rfl⟩

/-- The rest with c laid into it. -/
def laidIn (rest c : List Int) (at_ : Nat) : List Int := rest.take at_ ++ c ++ rest.drop (at_ + c.length)
theorem laidIn_length {rest c : List Int} {at_ : Nat} (h : rest.length = 64) (hc : at_ + c.length ≤ 64) : (laidIn rest c at_).length = 64 := by
  unfold laidIn
  simp only [List.length_append, List.length_take, List.length_drop]
  omega
theorem Held.step {F : List Int → List Int → List Int} {H h rest m c : List Int} (S : Held F H h rest m) (hc : m.length % 64 + c.length ≤ 64) (hp : 0 < c.length) :
    Held F H (if (m.length + c.length) % 64 = 0 then F h (laidIn rest c (m.length % 64)) else h) (laidIn rest c (m.length % 64)) (m ++ c) := by
  have hr := S.size
  have hdm := Nat.div_add_mod m.length 64
  have hpre : (laidIn rest c (m.length % 64)).take (m.length % 64 + c.length) = (m ++ c).drop (64 * (m.length / 64)) := by
    unfold laidIn
    rw [List.take_append_of_le_length (by simp only [List.length_append, List.length_take]; omega), List.drop_append_of_le_length (by omega), S.rest_]
    exact List.take_of_length_le (by simp only [List.length_append, List.length_drop]; omega)
  by_cases h0 : (m.length + c.length) % 64 = 0
  · have hq : (m ++ c).length / 64 = m.length / 64 + 1 := by rw [List.length_append]; omega
    have hm : m.length % 64 + c.length = 64 := by omega
    rw [if_pos h0]
    refine ⟨?_, laidIn_length hr hc, ?_⟩
    · rw [hq]
      unfold runB
      rw [runB_append F H m c _ (by omega), ← S.words]
      congr 1
      rw [← hpre, hm, List.take_take]
      exact (List.take_of_length_le (by rw [laidIn_length hr hc]; omega)).symm
    · rw [hq, List.length_append, h0, List.take_zero, List.drop_of_length_le (by rw [List.length_append]; omega)]
  · have hq : (m ++ c).length / 64 = m.length / 64 := by rw [List.length_append]; omega
    have hm : (m ++ c).length % 64 = m.length % 64 + c.length := by rw [List.length_append]; omega
    rw [if_neg h0]
    refine ⟨?_, laidIn_length hr hc, ?_⟩
    · rw [hq, runB_append F H m c _ (by omega)]
      exact S.words
    · rw [hq, hm]
      exact hpre

/-- What is laid behind a message of n bytes: 128, zeros, and eight bytes of the number of bits. -/
def zerosOf (n : Nat) : Nat := (119 - n % 64) % 64
end Go.Proofs.YtikoahjnhdnhdaaDoor
