/- WHAT IS LAID BEHIND A MESSAGE, and a digest's bytes out of its words: plain lists. -/
import Derived.Test.YtikoahjnhdnhdaaDoorLaw
namespace Go.Proofs.YtikoahjnhdnhdaaDoor

/-- A byte of the number of bits. -/
def byteN (n : Nat) (k : Nat) : Int := (8 * (n : Int)) / 2 ^ (56 - 8 * k) % 256
def lenB (n k : Nat) : List Int := (List.range k).map (byteN n)
theorem lenB_length (n k : Nat) : (lenB n k).length = k := by simp [lenB]
theorem lenB_succ (n k : Nat) : lenB n (k + 1) = lenB n k ++ [byteN n k] := by simp [lenB, List.range_succ]
/-- 128, then zeros: l bytes in all. -/
def tailZ (l : Nat) : List Int := 128 :: List.replicate (l - 1) 0
theorem tailZ_length (l : Nat) (h : 1 ≤ l) : (tailZ l).length = l := by simp [tailZ]; omega
theorem tailZ_succ (l : Nat) (h : 1 ≤ l) : tailZ (l + 1) = tailZ l ++ [0] := by
  unfold tailZ
  rw [show l + 1 - 1 = (l - 1) + 1 by omega, List.replicate_succ', List.cons_append]
def tailL (n : Nat) : List Int := tailZ (1 + zerosOf n) ++ lenB n 8
def padL (m : List Int) : List Int := m ++ tailL m.length
theorem zeros_lt (n : Nat) : zerosOf n < 64 := by unfold zerosOf; omega
theorem zeros_end (n : Nat) : (n + (1 + zerosOf n)) % 64 = 56 := by unfold zerosOf; omega
theorem zeros_more (n l : Nat) (h1 : 1 ≤ l) (h : l < 1 + zerosOf n) : (n + l) % 64 ≠ 56 := by unfold zerosOf at h; omega
theorem tailL_length (n : Nat) : (tailL n).length = 9 + zerosOf n := by
  unfold tailL
  rw [List.length_append, tailZ_length _ (by omega), lenB_length]
  omega
theorem padL_length (m : List Int) : (padL m).length = m.length + 9 + zerosOf m.length := by
  unfold padL
  rw [List.length_append, tailL_length]
  omega
theorem padL_whole (m : List Int) : (padL m).length % 64 = 0 := by
  rw [padL_length]
  have := zeros_end m.length
  omega

/-- A byte of a digest out of the words. -/
def dig (us : List Int) (i : Nat) : Int := us.getD (i / 4) 0 / 2 ^ (24 - 8 * (i % 4)) % 256
def digL (us : List Int) : List Int := (List.range 32).map (dig us)
theorem digL_length (us : List Int) : (digL us).length = 32 := by simp [digL]
/-- The first k bytes, then zeros. -/
def digZ (us : List Int) (k : Nat) : List Int := (List.range k).map (dig us) ++ List.replicate (32 - k) 0
theorem digZ_length (us : List Int) (k : Nat) (h : k ≤ 32) : (digZ us k).length = 32 := by simp [digZ]; omega
theorem digZ_step (us : List Int) (k : Nat) (h : k < 32) : (digZ us k).set k (dig us k) = digZ us (k + 1) := by
  unfold digZ
  rw [List.set_append_right _ _ (by simp), List.length_map, List.length_range, Nat.sub_self, show 32 - k = (32 - (k + 1)) + 1 by omega, List.replicate_succ, List.set_cons_zero, List.range_succ, List.map_append]
  simp
theorem digZ_zero (us : List Int) : digZ us 0 = List.replicate 32 0 := by simp [digZ]
theorem digZ_full (us : List Int) : digZ us 32 = digL us := by simp [digZ, digL]

theorem dig_0 (us : List Int) (k : Nat) : dig us (4 * k) = us.getD k 0 / 16777216 % 256 := by
  unfold dig
  rw [show 4 * k / 4 = k by omega, show 4 * k % 4 = 0 by omega]
  rfl
theorem dig_1 (us : List Int) (k : Nat) : dig us (4 * k + 1) = us.getD k 0 / 65536 % 256 := by
  unfold dig
  rw [show (4 * k + 1) / 4 = k by omega, show (4 * k + 1) % 4 = 1 by omega]
  rfl
theorem dig_2 (us : List Int) (k : Nat) : dig us (4 * k + 2) = us.getD k 0 / 256 % 256 := by
  unfold dig
  rw [show (4 * k + 2) / 4 = k by omega, show (4 * k + 2) % 4 = 2 by omega]
  rfl
theorem dig_3 (us : List Int) (k : Nat) : dig us (4 * k + 3) = us.getD k 0 % 256 := by
  unfold dig
  rw [show (4 * k + 3) / 4 = k by omega, show (4 * k + 3) % 4 = 3 by omega]
  simp
theorem digZ_four (us : List Int) (k : Nat) (h : k < 8) (x : Int) (hx : us.getD k 0 = x) : ((((digZ us (4 * k)).set (4 * k) (x / 16777216 % 256)).set (4 * k + 1) (x / 65536 % 256)).set (4 * k + 2) (x / 256 % 256)).set (4 * k + 3) (x % 256) = digZ us (4 * (k + 1)) := by
  subst hx
  rw [← dig_0, ← dig_1, ← dig_2, ← dig_3, digZ_step us (4 * k) (by omega), digZ_step us (4 * k + 1) (by omega), digZ_step us (4 * k + 2) (by omega), digZ_step us (4 * k + 3) (by omega)]
  rfl

/-- The digest of a message, the block's function being F, the words at the beginning H. -/
def sumW (F : List Int → List Int → List Int) (H m : List Int) : List Int := runB F H (padL m) ((padL m).length / 64)
theorem Held.all {F : List Int → List Int → List Int} {H us rest m : List Int} (h : Held F H us rest (padL m)) : us = sumW F H m := h.words
end Go.Proofs.YtikoahjnhdnhdaaDoor
