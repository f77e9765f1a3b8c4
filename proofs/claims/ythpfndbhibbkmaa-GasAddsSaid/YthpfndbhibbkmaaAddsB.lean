/- THE WALK of 'scruplelaw11.GasAdds': it returns true for every limit and every list; the list takes at most 2^47 - 4096 bytes (the form's own reach). -/
import Derived.Test.YthpfndbhibbkmaaAddsA
namespace Go.Proofs.Ythpfndbhibbkmaa.gasAdds
open Go.ChangeShapes Go.WideShapes Go.ChangeAt Go.RowKit

def IsRow (k : IntKind) (w : World) (a : Option Addr) (len cap : Nat) (zs : List Int) : Prop :=
  (a = none ∧ len = 0 ∧ cap = 0 ∧ zs = []) ∨
  ∃ x, a = some x ∧ len ≤ cap ∧ cap ≤ maxLen ∧ zs.length = cap ∧ (∀ i, i < zs.length → w.cell? (x.add i) = some (.int k (zs.getD i 0))) ∧ ∀ n ∈ zs, (Lit.int k n).wf = true

theorem ne_off {b i j : Nat} (h : i ≠ j) : (⟨b, i, none⟩ : Addr) ≠ ⟨b, j, none⟩ := fun e => h (by injection e)
theorem after_fits {w wr : World} {B : Nat} {lim left v : Int} (c0 : wr.cell? ⟨B, 0, none⟩ = some (.int .i64 lim)) (c1 : wr.cell? ⟨B, 1, none⟩ = some (.int .i64 left)) (c2 : wr.cell? ⟨B, 2, none⟩ = some (.bool false))
    (f1 : wr.frozen? ⟨B, 1, none⟩ = false) (f2 : wr.frozen? ⟨B, 2, none⟩ = false) (hnx : Below B w wr) {w1 : World} (h : wr.setCell ⟨B, 1, none⟩ (.int .i64 v) = w1) :
    w1.cell? ⟨B, 0, none⟩ = some (.int .i64 lim) ∧ w1.cell? ⟨B, 1, none⟩ = some (.int .i64 v) ∧ w1.cell? ⟨B, 2, none⟩ = some (.bool false) ∧ w1.frozen? ⟨B, 1, none⟩ = false ∧ w1.frozen? ⟨B, 2, none⟩ = false ∧ Below B w w1 := by
  subst h
  refine ⟨?_, World.cell?_setCell_same _ _ _ c1, ?_, ?_, ?_, hnx.setCell (Nat.le_refl _) _⟩
  · rw [World.cell?_setCell_other _ _ _ _ (ne_off (by decide))]; exact c0
  · rw [World.cell?_setCell_other _ _ _ _ (ne_off (by decide))]; exact c2
  · rw [World.frozen?_setCell]; exact f1
  · rw [World.frozen?_setCell]; exact f2
theorem after_over {w wr : World} {B : Nat} {lim left : Int} (c0 : wr.cell? ⟨B, 0, none⟩ = some (.int .i64 lim)) (c1 : wr.cell? ⟨B, 1, none⟩ = some (.int .i64 left)) (c2 : wr.cell? ⟨B, 2, none⟩ = some (.bool false))
    (hnx : Below B w wr) {w1 : World} (h : (wr.setCell ⟨B, 1, none⟩ (.int .i64 0)).setCell ⟨B, 2, none⟩ (.bool true) = w1) :
    w1.cell? ⟨B, 0, none⟩ = some (.int .i64 lim) ∧ w1.cell? ⟨B, 1, none⟩ = some (.int .i64 0) ∧ w1.cell? ⟨B, 2, none⟩ = some (.bool true) ∧ Below B w w1 := by
  subst h
  refine ⟨?_, ?_, ?_, (hnx.setCell (Nat.le_refl _) _).setCell (Nat.le_refl _) _⟩
  · rw [World.cell?_setCell_other _ _ _ _ (ne_off (by decide)), World.cell?_setCell_other _ _ _ _ (ne_off (by decide))]; exact c0
  · rw [World.cell?_setCell_other _ _ _ _ (ne_off (by decide))]; exact World.cell?_setCell_same _ _ _ c1
  · exact World.cell?_setCell_same (u := .bool false) _ _ _ (by rw [World.cell?_setCell_other _ _ _ _ (ne_off (by decide))]; exact c2)

variable {w : World}
theorem bad_low (a0 : Int) (v : Value) (w : World) (h : a0 < 0) :
    Calls Try.prog 3 #[.int .i64 a0, v] w fun e w' => e = .returned (.bool true) ∧ Below w.heap.size w w' := by
  go_enter Try.func3, Try.ntmps3
  go_wp2
  go_ret
  exact ⟨rfl, (Below.refl _ _).alloc (Nat.le_refl _) _⟩

theorem bad_high (a0 : Int) (v : Value) (w : World) (h : 1000000 < a0) :
    Calls Try.prog 3 #[.int .i64 a0, v] w fun e w' => e = .returned (.bool true) ∧ Below w.heap.size w w' := by
  go_enter Try.func3, Try.ntmps3
  go_wp2
  go_ret
  exact ⟨rfl, (Below.refl _ _).alloc (Nat.le_refl _) _⟩

set_option maxRecDepth 100000 in
set_option maxHeartbeats 1000000 in
theorem good (lim : Int) (a : Option Addr) (len cap : Nat) (b off : Nat) (zs : List Int) (w : World) (h0 : 0 ≤ lim) (h1 : lim ≤ 1000000) (hm : len ≤ 140737488351232)
    (ha : 0 < len → a = some ⟨b, off, none⟩) (hb : 0 < len → b < w.heap.size) (hz : ∀ i, i < len → w.cell? ⟨b, off + i, none⟩ = some (.int .i64 (zs.getD i 0))) :
    Calls Try.prog 3 #[.int .i64 lim, .slice a len cap] w fun e w' => e = .returned (.bool true) ∧ Below w.heap.size w w' := by
  have HB : Hid (0 < len → b < w.heap.size) := hb
  have HA : Hid (0 < len → a = some ⟨b, off, none⟩) := ha
  clear hb ha
  go_enter Try.func3, Try.ntmps3
  go_wp2
  go_loopw [9, 10] (fun u i wr => ∃ (k : Nat) (n : Int), k ≤ len ∧ i = .int .i64 k ∧ u = .int .i64 n ∧ 0 ≤ n ∧ n ≤ lim ∧ wr.cell? ⟨w.heap.size, 0, none⟩ = some (.int .i64 lim) ∧ wr.cell? ⟨w.heap.size, 1, none⟩ = some (.int .i64 (lim - n)) ∧ wr.cell? ⟨w.heap.size, 2, none⟩ = some (.bool false) ∧ wr.frozen? ⟨w.heap.size, 1, none⟩ = false ∧ wr.frozen? ⟨w.heap.size, 2, none⟩ = false ∧ Below w.heap.size w wr)
    (fun _ i _ => len - (intOf i).toNat)
  case atStart => exact ⟨0, 0, Nat.zero_le _, rfl, rfl, Int.le_refl _, h0, by go_simp, by go_simp, by go_simp, by go_simp, by go_simp, (Below.refl _ _).alloc (Nat.le_refl _) _⟩
  case round =>
    obtain ⟨k, n, hk, rfl, rfl, hn0, hn1, c0, c1, c2, f1, f2, hnx⟩ := hrel
    by_cases hlt : k < len
    · have hbw := HB.out (by omega)
      have hc : wr.cell? ⟨b, off + k, none⟩ = some (.int .i64 (zs.getD k 0)) := (hnx.cell hbw).trans (hz k hlt)
      obtain rfl := HA.out (by omega)
      clear hz HB HA
      generalize zs.getD k 0 = z at hc
      by_cases hneg : z < 0
      · go_wp2
        go_roundw
        case rel => exact ⟨k + 1, n, by omega, by go_num, rfl, hn0, hn1, c0, c1, c2, f1, f2, hnx⟩
        case measure => simp [intOf]; omega
      · by_cases hfit : z ≤ lim - n
        · go_wp2_with fail
          refine (charge_fits _ _ (lim - n) _ (by omega) hfit (by omega) c1 c2 f1).mono ?_
          rintro e w1 ⟨rfl, hw1⟩
          obtain ⟨d0, d1, d2, g1, g2, hnx1⟩ := after_fits c0 c1 c2 f1 f2 hnx hw1
          have dc : w1.cell? ⟨b, off + k, none⟩ = some (.int .i64 z) := by rw [← hc]; rw [hnx1.cell hbw, hnx.cell hbw]
          clear hw1 c0 c1 c2 f1 f2 hc hnx
          go_wp2_with (first | (go_at_call 9; refine (left_any _ _ _ d1).mono ?_; rintro e w' ⟨rfl, rfl⟩) | (go_at_call 10; refine (used_any _ lim (lim - n - z) _ (by omega) (by omega) (by omega) d0 d1).mono ?_; rintro e w' ⟨rfl, rfl⟩))
          go_roundw
          case rel =>
            have hr : lim - n - z = lim - (n + z) := by omega
            rw [hr] at d1
            clear hr
            first
              | exact ⟨k + 1, n + z, by omega, by go_num, by go_num, by omega, by omega, d0, d1, d2, g1, g2, hnx1.drew⟩
              | ((repeat apply Exists.intro); exact ⟨⟨k + 1, n + z, by omega, by go_num, by go_num, by omega, by omega, d0, d1, d2, g1, g2, hnx1.drew⟩, rfl⟩)
          case measure => simp [intOf]; omega
        · go_wp2_with fail
          refine (charge_over _ _ (lim - n) _ (by omega) (by omega) c1 c2 f1 f2).mono ?_
          rintro e w1 ⟨rfl, hw1⟩
          obtain ⟨d0, d1, d2, hnx1⟩ := after_over c0 c1 c2 hnx hw1
          have dc : w1.cell? ⟨b, off + k, none⟩ = some (.int .i64 z) := by rw [← hc]; rw [hnx1.cell hbw, hnx.cell hbw]
          clear hw1 c0 c1 c2 f1 f2 hc hnx
          go_wp2_with (first | (go_at_call 7; refine (charge_spent _ _ _ (by omega) d2).mono ?_; rintro e w' ⟨rfl, rfl⟩) | (go_at_call 8; refine (spent_any _ _ _ d2).mono ?_; rintro e w' ⟨rfl, rfl⟩) | (go_at_call 9; refine (left_any _ _ _ d1).mono ?_; rintro e w' ⟨rfl, rfl⟩) | (go_at_call 10; refine (used_any _ lim 0 _ (by omega) (by omega) (by omega) d0 d1).mono ?_; rintro e w' ⟨rfl, rfl⟩))
          go_ret
          exact ⟨by first | rfl | (simp; omega), hnx1.drew⟩
    · go_wp2_with (go_at_call 10; refine (used_any _ lim (lim - n) _ (by omega) (by omega) (by omega) c0 c1).mono ?_; rintro e w' ⟨rfl, rfl⟩)
      go_ret
      exact ⟨by first | rfl | (simp; omega), hnx.drew⟩
theorem walk (a0 : Int) (_w0 : (Lit.int .i64 a0).wf = true) (a : Option Addr) (len cap : Nat) (zs : List Int) (h : IsRow .i64 w a len cap zs) (hy : len * 8 ≤ 140737488351232) :
    Calls Try.prog 3 #[.int .i64 a0, .slice a len cap] w fun e w' => e = .returned (.bool true) ∧ Below w.heap.size w w' := by
  by_cases h0 : a0 < 0
  · exact bad_low a0 _ w h0
  by_cases h1 : 1000000 < a0
  · exact bad_high a0 _ w h1
  rcases h with ⟨rfl, rfl, rfl, rfl⟩ | ⟨x, rfl, hl, hm, hz, hc, _⟩
  · exact good a0 none 0 0 0 0 [] w (by omega) (by omega) (by omega) (fun h => absurd h (by omega)) (fun h => absurd h (by omega)) (fun i hi => absurd hi (by omega))
  · by_cases hp : 0 < len
    · obtain ⟨b, off, rfl, hcell⟩ := ints_at hc (by omega)
      exact good a0 _ len cap b off zs w (by omega) (by omega) (by omega) (fun _ => rfl) (fun _ => World.block_lt_of_cell? w _ (hcell 0 (by omega))) (fun i hi => hcell i (by omega))
    · obtain rfl : len = 0 := by omega
      exact good a0 _ 0 cap 0 0 zs w (by omega) (by omega) (by omega) (fun h => absurd h (by omega)) (fun h => absurd h (by omega)) (fun i hi => absurd hi (by omega))
end Go.Proofs.Ythpfndbhibbkmaa.gasAdds
