/- CONTRACT of code.Take: it answers takeR. It asks that the bytes read, each from 0 to 255, and that the world hold the operations' table. -/
import Derived.Test.YthpfndbhibbkmaaDoorTake
namespace Go.Proofs.YthpfndbhibbkmaaDoor
open Go.ChangeShapes Go.WideShapes Go.ChangeAt Go.RowKit Go.Proofs.YthpfndbhibbkmaaDoorW.PrintWords
set_option linter.unusedVariables false
set_option linter.unusedSimpArgs false

set_option maxHeartbeats 1000000 in
theorem take_noop (k : Int) (b o n c : Nat) (i : Nat) (w : World) (h : k < 1 ∨ 41 < k) (hi : i < n) (hn : n ≤ 140737488354000) (hk : 0 ≤ k ∧ k ≤ 255)
    (hcell : w.cell? ⟨b, o + i, none⟩ = some (.int .u8 k)) (hb : b < w.heap.size) :
    Calls Tryd.prog 23 #[.slice (some ⟨b, o, none⟩) n c, .int .i64 i] w fun e w' => e = .returned (takeV (0, 0, (i : Int), 80)) ∧ Below w.heap.size w w' := by
  have hA0 : Below w.heap.size w (w.alloc (.cells #[.int .i64 0, .int .i64 0] 41)) := (Below.refl _ _).alloc (Nat.le_refl _) _
  have hi' := info_no' k (w.alloc (.cells #[.int .i64 0, .int .i64 0] 41)) h
  have hcell0 := (hA0.cell (p := ⟨b, o + i, none⟩) hb).trans hcell
  go_enter Tryd.func23, Tryd.ntmps23
  go_wp2_with fail
  refine hi'.mono ?_
  rintro e w1 ⟨rfl, hb1⟩
  clear hi'
  have hs0 : w.heap.size < w1.heap.size := by have := hb1.size; simp at this; omega
  obtain ⟨gc, gf⟩ := bcell hb1
  have z0 : w1.cell? ⟨w.heap.size, 0, none⟩ = some (.int .i64 0) := by rw [gc _ _ (by simp)]; go_simp
  have z1 : w1.cell? ⟨w.heap.size, 1, none⟩ = some (.int .i64 0) := by rw [gc _ _ (by simp)]; go_simp
  have z2 : w1.frozen? ⟨w.heap.size, 0, none⟩ = false := by rw [gf _ _ (by simp)]; go_simp
  have z3 : w1.frozen? ⟨w.heap.size, 1, none⟩ = false := by rw [gf _ _ (by simp)]; go_simp
  clear gc gf
  have hbw : Below w.heap.size w w1 := hA0.trans (hb1.mono (by simp))
  go_wp2_with fail
  exact bodyPost_ret (res_ins Tryd.results23 rfl rfl rfl (by go_cell) (by go_cell)) rfl ⟨rfl, by go_grown⟩

set_option maxHeartbeats 1000000 in
theorem take_short (k : Nat) (b o n c : Nat) (i : Nat) (s : Int) (w : World) (T : Tabs w) (h1 : 1 ≤ k) (h2 : k ≤ 41) (hi : i < n) (hn : n ≤ 140737488354000) (hs : numT k 0 = s) (hroom : (n : Int) - i ≤ widthT s)
    (hcell : w.cell? ⟨b, o + i, none⟩ = some (.int .u8 k)) (hb : b < w.heap.size) :
    Calls Tryd.prog 23 #[.slice (some ⟨b, o, none⟩) n c, .int .i64 i] w fun e w' => e = .returned (takeV (0, 0, (i : Int), 82)) ∧ Below w.heap.size w w' := by
  have hA0 : Below w.heap.size w (w.alloc (.cells #[.int .i64 0, .int .i64 0] 41)) := (Below.refl _ _).alloc (Nat.le_refl _) _
  have hi' := info_yes' k (w.alloc (.cells #[.int .i64 0, .int .i64 0] 41)) (T.below hA0) h1 h2
  rw [hs] at hi'
  have hbd := sort_le k (by omega)
  rw [hs] at hbd
  have hcell0 := (hA0.cell (p := ⟨b, o + i, none⟩) hb).trans hcell
  go_enter Tryd.func23, Tryd.ntmps23
  go_wp2_with fail
  refine hi'.mono ?_
  rintro e w1 ⟨rfl, hb1⟩
  clear hi'
  have hs0 : w.heap.size < w1.heap.size := by have := hb1.size; simp at this; omega
  obtain ⟨gc, gf⟩ := bcell hb1
  have z0 : w1.cell? ⟨w.heap.size, 0, none⟩ = some (.int .i64 0) := by rw [gc _ _ (by simp)]; go_simp
  have z1 : w1.cell? ⟨w.heap.size, 1, none⟩ = some (.int .i64 0) := by rw [gc _ _ (by simp)]; go_simp
  have z2 : w1.frozen? ⟨w.heap.size, 0, none⟩ = false := by rw [gf _ _ (by simp)]; go_simp
  have z3 : w1.frozen? ⟨w.heap.size, 1, none⟩ = false := by rw [gf _ _ (by simp)]; go_simp
  clear gc gf
  have hbw : Below w.heap.size w w1 := hA0.trans (hb1.mono (by simp))
  go_wp2_with fail
  refine (bound_any s _ hbd.1 hbd.2).mono ?_
  rintro e w' ⟨rfl, rfl⟩
  go_wp2_with fail
  exact bodyPost_ret (res_ins Tryd.results23 rfl rfl rfl (by go_cell) (by go_cell)) rfl ⟨rfl, by go_grown⟩

theorem width_012 (s : Int) : widthT s = 0 ∨ widthT s = 1 ∨ widthT s = 2 := by unfold widthT; repeat (first | omega | split)
theorem most_zero (s : Int) : 0 ≤ mostT s := by unfold mostT; repeat (first | omega | split)

/-- ████ code.Take ████ -/
theorem take_any (a : Option Addr) (n c : Nat) (i : Int) (bs : List Int) (w : World) (T : Tabs w) (B : BytesIn w a n c bs) :
    Calls Tryd.prog 23 #[.slice a n c, .int .i64 i] w fun e w' => e = .returned (takeV (takeR bs i)) ∧ Below w.heap.size w w' := by
  have hl := B.len
  have hm := B.max
  have hc := B.cap
  unfold takeR
  by_cases h0 : i < 0 ∨ (bs.length : Int) ≤ i
  · rw [if_pos h0]
    exact take_end a n c i w hm (by rw [hl] at h0; exact h0)
  rw [if_neg h0]
  obtain ⟨j, rfl⟩ : ∃ j : Nat, i = j := ⟨i.toNat, by omega⟩
  have hj : j < n := by omega
  obtain ⟨b, o, rfl, hb, hcell⟩ := B.place (by omega)
  have hcj := hcell j hj
  have hby := B.byte j
  rw [Int.toNat_natCast]
  by_cases h1 : bs.getD j 0 < 1 ∨ 41 < bs.getD j 0
  · rw [if_pos h1]
    exact take_noop _ b o n c j w h1 hj hm hby hcj hb
  rw [if_neg h1]
  obtain ⟨k, hk⟩ : ∃ k : Nat, bs.getD j 0 = k := ⟨(bs.getD j 0).toNat, by omega⟩
  rw [hk] at h1 hcj hby ⊢
  rw [Int.toNat_natCast]
  have k1 : 1 ≤ k := by omega
  have k2 : k ≤ 41 := by omega
  by_cases h2 : (bs.length : Int) - j ≤ widthT (numT k 0)
  · rw [if_pos h2]
    exact take_short k b o n c j _ w T k1 k2 hj hm rfl (by rw [hl] at h2; exact h2) hcj hb
  rw [if_neg h2]
  rcases width_012 (numT k 0) with e | e | e
  · rw [e] at h2 ⊢
    have hA : argB bs j 0 = 0 := rfl
    rw [hA, if_neg (by have := most_zero (numT k 0); omega)]
    exact take_zero k b o n c j _ w T k1 k2 hj hm hc rfl e (by omega) (most_zero _) hcj hb
  · rw [e] at h2 ⊢
    have hA : argB bs j 1 = bs.getD (j + 1) 0 := rfl
    rw [hA]
    by_cases h3 : mostT (numT k 0) < bs.getD (j + 1) 0
    · rw [if_pos h3]
      exact take_one_big k b o n c j _ _ w T k1 k2 hj hm hc rfl e (by omega) h3 hcj hb (hcell (j + 1) (by omega)) (B.byte _)
    · rw [if_neg h3]
      exact take_one k b o n c j _ _ w T k1 k2 hj hm hc rfl e (by omega) (by omega) hcj hb (hcell (j + 1) (by omega)) (B.byte _)
  · rw [e] at h2 ⊢
    have hA : argB bs j 2 = bs.getD (j + 1) 0 * 256 + bs.getD (j + 2) 0 := rfl
    rw [hA]
    by_cases h3 : mostT (numT k 0) < bs.getD (j + 1) 0 * 256 + bs.getD (j + 2) 0
    · rw [if_pos h3]
      exact take_two_big k b o n c j _ _ _ w T k1 k2 hj hm hc rfl e (by omega) h3 hcj hb (hcell (j + 1) (by omega)) (B.byte _) (hcell (j + 2) (by omega)) (B.byte _)
    · rw [if_neg h3]
      exact take_two k b o n c j _ _ _ w T k1 k2 hj hm hc rfl e (by omega) (by omega) hcj hb (hcell (j + 1) (by omega)) (B.byte _) (hcell (j + 2) (by omega)) (B.byte _)
end Go.Proofs.YthpfndbhibbkmaaDoor
