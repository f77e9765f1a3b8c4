/- ONE BLOCK, as a function of whole numbers: the words of a block, the rounds, what is added at the end. -/
import Derived.Test.YtikoahjnhdnhdaaDoorTurn
import Derived.Test.YtikoahjnhdnhdaaDoorLaw
namespace Go.Proofs.YtikoahjnhdnhdaaDoor
open Go.ChangeShapes Go.WideShapes Go.ChangeAt Go.RowKit Go.Proofs.YtikoahjnhdnhdaaDoorW.PrintWords

/-- Four bytes, a word. -/
def load4 (x0 x1 x2 x3 : Int) : Int := bits .or .u32 (bits .or .u32 (bits .or .u32 (x0 % 4294967296 * 16777216 % 4294967296) (x1 % 4294967296 * 65536 % 4294967296)) (x2 % 4294967296 * 256 % 4294967296)) (x3 % 4294967296)
/-- A word out of four earlier ones. -/
def extW (y16 y7 y15 y2 : Int) : Int := (((y16 + y7) % 4294967296 + bits .xor .u32 (bits .xor .u32 (rotr y15 7) (rotr y15 18)) (y15 / 8)) % 4294967296 + bits .xor .u32 (bits .xor .u32 (rotr y2 17) (rotr y2 19)) (y2 / 1024)) % 4294967296
def nextW (b l : List Int) (k : Nat) : Int := if k < 16 then load4 (b.getD (4 * k) 0) (b.getD (4 * k + 1) 0) (b.getD (4 * k + 2) 0) (b.getD (4 * k + 3) 0) else extW (l.getD (k - 16) 0) (l.getD (k - 7) 0) (l.getD (k - 15) 0) (l.getD (k - 2) 0)
/-- The first k words. -/
def wl (b : List Int) : Nat → List Int
  | 0 => []
  | k + 1 => wl b k ++ [nextW b (wl b k) k]
theorem wl_length (b : List Int) (k : Nat) : (wl b k).length = k := by
  induction k with
  | zero => rfl
  | succ k ih => simp [wl, ih]
/-- The first k words, then zeros. -/
def wz (b : List Int) (k : Nat) : List Int := wl b k ++ List.replicate (64 - k) 0
theorem wz_length (b : List Int) (k : Nat) (hk : k ≤ 64) : (wz b k).length = 64 := by simp [wz, wl_length]; omega
theorem wz_step (b : List Int) (k : Nat) (hk : k < 64) : (wz b k).set k (nextW b (wl b k) k) = wz b (k + 1) := by
  unfold wz
  rw [List.set_append_right _ _ (by rw [wl_length]; omega), wl_length, Nat.sub_self, show 64 - k = (64 - (k + 1)) + 1 by omega, List.replicate_succ, List.set_cons_zero, wl]
  simp
theorem wz_at (b : List Int) (k i : Nat) (hi : i < k) : (wz b k).getD i 0 = (wl b k).getD i 0 := by
  unfold wz
  simp [List.getD_eq_getElem?_getD, List.getElem?_append_left (show i < (wl b k).length by rw [wl_length]; exact hi)]
theorem wz_here (b : List Int) (k : Nat) : (wz b k).getD k 0 = 0 := by
  unfold wz
  rw [List.getD_eq_getElem?_getD, List.getElem?_append_right (by rw [wl_length]; omega), wl_length, Nat.sub_self]
  simp [List.getElem?_replicate]
  split <;> rfl
theorem wz_full (b : List Int) : wz b 64 = wl b 64 := by simp [wz]
theorem wz_zero (b : List Int) : wz b 0 = List.replicate 64 0 := by simp [wz, wl]
/-! ### The rounds -/
def oneW (x4 x5 x6 x7 k w : Int) : Int := x7 + bits .xor .u32 (bits .xor .u32 (rotr x4 6) (rotr x4 11)) (rotr x4 25) + bits .xor .u32 (bits .and .u32 x4 x5) (bits .and .u32 (bits .xor .u32 IntKind.u32.max x4) x6) + k + w
def twoW (x0 x1 x2 : Int) : Int := bits .xor .u32 (bits .xor .u32 (rotr x0 2) (rotr x0 13)) (rotr x0 22) + bits .xor .u32 (bits .xor .u32 (bits .and .u32 x0 x1) (bits .and .u32 x0 x2)) (bits .and .u32 x1 x2)
def rnd (v : List Int) (k w : Int) : List Int := [(oneW (v.getD 4 0) (v.getD 5 0) (v.getD 6 0) (v.getD 7 0) k w + twoW (v.getD 0 0) (v.getD 1 0) (v.getD 2 0)) % 4294967296, v.getD 0 0, v.getD 1 0, v.getD 2 0, (v.getD 3 0 + oneW (v.getD 4 0) (v.getD 5 0) (v.getD 6 0) (v.getD 7 0) k w) % 4294967296, v.getD 4 0, v.getD 5 0, v.getD 6 0]
/-- The eight words after k rounds. -/
def vl (K W H : List Int) : Nat → List Int
  | 0 => H
  | k + 1 => rnd (vl K W H k) (K.getD k 0) (W.getD k 0)
theorem vl_length (K W : List Int) {H : List Int} (h : H.length = 8) (k : Nat) : (vl K W H k).length = 8 := by
  cases k with
  | zero => exact h
  | succ k => simp [vl, rnd]
/-! ### What is added at the end -/
def fl (V H : List Int) : Nat → List Int
  | 0 => H
  | k + 1 => (fl V H k).set k (((fl V H k).getD k 0 + V.getD k 0) % 4294967296)
theorem fl_length (V H : List Int) (k : Nat) : (fl V H k).length = H.length := by
  induction k with
  | zero => rfl
  | succ k ih => simp [fl, ih]
/-- A block taken into eight words. -/
def blkF (K H b : List Int) : List Int := fl (vl K (wl b 64) H 64) H 8
theorem blkF_length (K b : List Int) {H : List Int} (h : H.length = 8) : (blkF K H b).length = 8 := by unfold blkF; rw [fl_length, h]
end Go.Proofs.YtikoahjnhdnhdaaDoor
