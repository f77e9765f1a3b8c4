/- CONTRACT of scrupleref08.Take: it answers takeR. It asks that the bytes read, each from 0 to 255. -/
import Derived.Test.YthpfndbhibbkmaaDoorTakeB
namespace Go.Proofs.YthpfndbhibbkmaaDoor
open Go.ChangeShapes Go.WideShapes Go.ChangeAt Go.RowKit Go.Proofs.YthpfndbhibbkmaaDoorW.PrintWords
set_option linter.unusedVariables false
set_option linter.unusedSimpArgs false

set_option maxHeartbeats 1000000 in
theorem rtake_end (a : Option Addr) (n c : Nat) (i : Int) (w : World) (hn : n ≤ 140737488354000) (h : i < 0 ∨ (n : Int) ≤ i) :
    Calls Tryd.prog 24 #[.slice a n c, .int .i64 i] w fun e w' => e = .returned (takeV (0, 0, i, 82)) ∧ Below w.heap.size w w' := by
  rcases h with h | h
  all_goals
    go_enter Tryd.func24, Tryd.ntmps24
    go_wp2
    exact bodyPost_ret (res_ins Tryd.results24 rfl rfl rfl (by go_cell) (by go_cell)) rfl ⟨rfl, by go_grown⟩

set_option maxHeartbeats 1000000 in
theorem rtake_noop (k : Int) (b o n c : Nat) (i : Nat) (w : World) (h : k < 1 ∨ 41 < k) (hi : i < n) (hn : n ≤ 140737488354000) (hk : 0 ≤ k ∧ k ≤ 255)
    (hcell : w.cell? ⟨b, o + i, none⟩ = some (.int .u8 k)) (hb : b < w.heap.size) :
    Calls Tryd.prog 24 #[.slice (some ⟨b, o, none⟩) n c, .int .i64 i] w fun e w' => e = .returned (takeV (0, 0, (i : Int), 80)) ∧ Below w.heap.size w w' := by
  have hA0 : Below w.heap.size w (w.alloc (.cells #[.int .i64 0, .int .i64 0] 41)) := (Below.refl _ _).alloc (Nat.le_refl _) _
  have hi' := rinfo_no k (w.alloc (.cells #[.int .i64 0, .int .i64 0] 41)) h
  have hcell0 := (hA0.cell (p := ⟨b, o + i, none⟩) hb).trans hcell
  go_enter Tryd.func24, Tryd.ntmps24
  go_wp2_with fail
  refine hi'.mono ?_
  rintro e w1 ⟨rfl, hb1⟩
  clear hi'
  have hs0 : w.heap.size < w1.heap.size := by have := hb1.size; simp at this; omega
  obtain ⟨gc, gf⟩ := bcell hb1
  have z0 : w1.cell? ⟨w.heap.size, 0, none⟩ = some (.int .i64 0) := by rw [gc _ _ (by simp)]; go_simp
  have z1 : w1.cell? ⟨w.heap.size, 1, none⟩ = some (.int .i64 0) := by rw [gc _ _ (by simp)]; go_simp
  have z2 : w1.frozen? ⟨w.heap.size, 0, none⟩ = false := by rw [gf _ _ (by simp)]; go_simp
  have z3 : w1.frozen? ⟨w.heap.size, 1, none⟩ = false := by rw [gf _ _ (by simp)]; go_simp
  clear gc gf
  have hbw : Below w.heap.size w w1 := hA0.trans (hb1.mono (by simp))
  go_wp2_with fail
  exact bodyPost_ret (res_ins Tryd.results24 rfl rfl rfl (by go_cell) (by go_cell)) rfl ⟨rfl, by go_grown⟩

set_option maxHeartbeats 1000000 in
theorem rtake_short (k : Nat) (b o n c : Nat) (i : Nat) (s : Int) (w : World) (h1 : 1 ≤ k) (h2 : k ≤ 41) (hi : i < n) (hn : n ≤ 140737488354000) (hs : numT k 0 = s) (hroom : (n : Int) - i ≤ widthT s)
    (hcell : w.cell? ⟨b, o + i, none⟩ = some (.int .u8 k)) (hb : b < w.heap.size) :
    Calls Tryd.prog 24 #[.slice (some ⟨b, o, none⟩) n c, .int .i64 i] w fun e w' => e = .returned (takeV (0, 0, (i : Int), 82)) ∧ Below w.heap.size w w' := by
  have hA0 : Below w.heap.size w (w.alloc (.cells #[.int .i64 0, .int .i64 0] 41)) := (Below.refl _ _).alloc (Nat.le_refl _) _
  have hi' := rinfo_yes k (w.alloc (.cells #[.int .i64 0, .int .i64 0] 41)) h1 h2
  rw [hs] at hi'
  have hbd := sort_le k (by omega)
  rw [hs] at hbd
  have hcell0 := (hA0.cell (p := ⟨b, o + i, none⟩) hb).trans hcell
  generalize numT k 1 = n1 at *
  generalize numT k 2 = n2 at *
  generalize numT k 3 = n3 at *
  generalize numT k 4 = n4 at *
  generalize nmT k = nm at *
  go_enter Tryd.func24, Tryd.ntmps24
  go_wp2_with fail
  refine hi'.mono ?_
  rintro e w1 ⟨rfl, hb1⟩
  clear hi'
  have hs0 : w.heap.size < w1.heap.size := by have := hb1.size; simp at this; omega
  have hbw1 : b < w1.heap.size := by omega
  have hcell1 := (hb1.cell (p := ⟨b, o + i, none⟩) (by simp; omega)).trans hcell0
  obtain ⟨gc, gf⟩ := bcell hb1
  have z0 : w1.cell? ⟨w.heap.size, 0, none⟩ = some (.int .i64 0) := by rw [gc _ _ (by simp)]; go_simp
  have z1 : w1.cell? ⟨w.heap.size, 1, none⟩ = some (.int .i64 0) := by rw [gc _ _ (by simp)]; go_simp
  have z2 : w1.frozen? ⟨w.heap.size, 0, none⟩ = false := by rw [gf _ _ (by simp)]; go_simp
  have z3 : w1.frozen? ⟨w.heap.size, 1, none⟩ = false := by rw [gf _ _ (by simp)]; go_simp
  clear gc gf
  have hbw : Below w.heap.size w w1 := hA0.trans (hb1.mono (by simp))
  go_wp2_with fail
  refine (width_any s _ hbd.1 hbd.2).mono ?_
  rintro e w2 ⟨rfl, hb2⟩
  have hs2 : w1.heap.size < w2.heap.size := by have := hb2.size; simp at this; omega
  have hs3 : w.heap.size < w2.heap.size := by omega
  have hbw2 : b < w2.heap.size := by omega
  obtain ⟨gc, gf⟩ := bcell hb2
  have y0 : w2.cell? ⟨w.heap.size, 0, none⟩ = some (.int .i64 0) := by rw [gc _ _ (by simp; omega)]; go_cell
  have y1 : w2.cell? ⟨w.heap.size, 1, none⟩ = some (.int .i64 0) := by rw [gc _ _ (by simp; omega)]; go_cell
  have y2 : w2.frozen? ⟨w.heap.size, 0, none⟩ = false := by rw [gf _ _ (by simp; omega)]; simp [hs0, z2, go_sem]
  have y3 : w2.frozen? ⟨w.heap.size, 1, none⟩ = false := by rw [gf _ _ (by simp; omega)]; simp [hs0, z3, go_sem]
  have y4 : w2.cell? ⟨w1.heap.size, 1, none⟩ = some (.int .i64 s) := by rw [gc _ _ (by simp)]; go_simp
  have hcell2 : w2.cell? ⟨b, o + i, none⟩ = some (.int .u8 k) := by rw [gc _ _ (by simp; omega)]; go_cell
  have hroom1 : (n : Int) - i - 1 < widthT s := by omega
  have hbx : Below w.heap.size w w2 := (hbw.alloc (by omega) _).trans (hb2.mono (by simp; omega))
  clear gc gf
  go_wp2_with fail
  exact bodyPost_ret (res_ins Tryd.results24 rfl rfl rfl (by go_cell) (by go_cell)) rfl ⟨rfl, by go_grown⟩

set_option maxHeartbeats 1000000 in
theorem rtake_zero (k : Nat) (b o n c : Nat) (i : Nat) (s : Int) (w : World) (h1 : 1 ≤ k) (h2 : k ≤ 41) (hi : i < n) (hn : n ≤ 140737488354000) (hs : numT k 0 = s) (hw : widthT s = 0) (hroom : i + 0 < n) (hmost : 0 ≤ mostT s)
    (hcell : w.cell? ⟨b, o + i, none⟩ = some (.int .u8 k)) (hb : b < w.heap.size) :
    Calls Tryd.prog 24 #[.slice (some ⟨b, o, none⟩) n c, .int .i64 i] w fun e w' => e = .returned (takeV ((k : Int), 0, (i : Int) + 1 + 0, 0)) ∧ Below w.heap.size w w' := by
  have hA0 : Below w.heap.size w (w.alloc (.cells #[.int .i64 0, .int .i64 0] 41)) := (Below.refl _ _).alloc (Nat.le_refl _) _
  have hi' := rinfo_yes k (w.alloc (.cells #[.int .i64 0, .int .i64 0] 41)) h1 h2
  rw [hs] at hi'
  have hbd := sort_le k (by omega)
  rw [hs] at hbd
  have hcell0 := (hA0.cell (p := ⟨b, o + i, none⟩) hb).trans hcell
  generalize numT k 1 = n1 at *
  generalize numT k 2 = n2 at *
  generalize numT k 3 = n3 at *
  generalize numT k 4 = n4 at *
  generalize nmT k = nm at *
  go_enter Tryd.func24, Tryd.ntmps24
  go_wp2_with fail
  refine hi'.mono ?_
  rintro e w1 ⟨rfl, hb1⟩
  clear hi'
  have hs0 : w.heap.size < w1.heap.size := by have := hb1.size; simp at this; omega
  have hbw1 : b < w1.heap.size := by omega
  have hcell1 := (hb1.cell (p := ⟨b, o + i, none⟩) (by simp; omega)).trans hcell0
  obtain ⟨gc, gf⟩ := bcell hb1
  have z0 : w1.cell? ⟨w.heap.size, 0, none⟩ = some (.int .i64 0) := by rw [gc _ _ (by simp)]; go_simp
  have z1 : w1.cell? ⟨w.heap.size, 1, none⟩ = some (.int .i64 0) := by rw [gc _ _ (by simp)]; go_simp
  have z2 : w1.frozen? ⟨w.heap.size, 0, none⟩ = false := by rw [gf _ _ (by simp)]; go_simp
  have z3 : w1.frozen? ⟨w.heap.size, 1, none⟩ = false := by rw [gf _ _ (by simp)]; go_simp
  clear gc gf
  have hbw : Below w.heap.size w w1 := hA0.trans (hb1.mono (by simp))
  go_wp2_with fail
  refine (width_any s _ hbd.1 hbd.2).mono ?_
  rintro e w2 ⟨rfl, hb2⟩
  have hs2 : w1.heap.size < w2.heap.size := by have := hb2.size; simp at this; omega
  have hs3 : w.heap.size < w2.heap.size := by omega
  have hbw2 : b < w2.heap.size := by omega
  obtain ⟨gc, gf⟩ := bcell hb2
  have y0 : w2.cell? ⟨w.heap.size, 0, none⟩ = some (.int .i64 0) := by rw [gc _ _ (by simp; omega)]; go_cell
  have y1 : w2.cell? ⟨w.heap.size, 1, none⟩ = some (.int .i64 0) := by rw [gc _ _ (by simp; omega)]; go_cell
  have y2 : w2.frozen? ⟨w.heap.size, 0, none⟩ = false := by rw [gf _ _ (by simp; omega)]; simp [hs0, z2, go_sem]
  have y3 : w2.frozen? ⟨w.heap.size, 1, none⟩ = false := by rw [gf _ _ (by simp; omega)]; simp [hs0, z3, go_sem]
  have y4 : w2.cell? ⟨w1.heap.size, 1, none⟩ = some (.int .i64 s) := by rw [gc _ _ (by simp)]; go_simp
  have hcell2 : w2.cell? ⟨b, o + i, none⟩ = some (.int .u8 k) := by rw [gc _ _ (by simp; omega)]; go_cell
  have hbx : Below w.heap.size w w2 := (hbw.alloc (by omega) _).trans (hb2.mono (by simp; omega))
  clear gc gf
  rw [hw]
  go_wp2_with fail
  all_goals
    (refine wp_loop_rounds 3 ?_; repeat any_goals (rw [rounds_succ]; go_wp2_with (go_at_call 32; refine (most_any s _ hbd.1 hbd.2).mono ?_; rintro e w3 ⟨rfl, hb3⟩; have hs4 := Nat.lt_of_lt_of_le hs3 hb3.size; have v0 := (hb3.cell (p := ⟨w.heap.size, 0, none⟩) hs3).trans y0; have v1 := (hb3.cell (p := ⟨w.heap.size, 1, none⟩) hs3).trans y1; have v2 := (hb3.frozen (p := ⟨w.heap.size, 0, none⟩) hs3).trans y2; have v3 := (hb3.frozen (p := ⟨w.heap.size, 1, none⟩) hs3).trans y3; have hcell3 := (hb3.cell (p := ⟨b, o + i, none⟩) hbw2).trans hcell2; have hbw3 := Nat.lt_of_lt_of_le hbw2 hb3.size; have hby := hbx.trans (hb3.mono (Nat.le_of_lt hs3)); clear hb3)))
    exact bodyPost_ret (res_ins Tryd.results24 rfl rfl rfl (by go_cell) (by go_cell)) rfl ⟨rfl, by go_grown⟩

set_option maxHeartbeats 1000000 in
theorem rtake_one (k : Nat) (b o n c : Nat) (i : Nat) (x s : Int) (w : World) (h1 : 1 ≤ k) (h2 : k ≤ 41) (hi : i < n) (hn : n ≤ 140737488354000) (hs : numT k 0 = s) (hw : widthT s = 1) (hroom : i + 1 < n) (hmost : x ≤ mostT s)
    (hcell : w.cell? ⟨b, o + i, none⟩ = some (.int .u8 k)) (hb : b < w.heap.size)
    (hx1 : w.cell? ⟨b, o + (i + 1), none⟩ = some (.int .u8 x)) (hr1 : 0 ≤ x ∧ x ≤ 255) :
    Calls Tryd.prog 24 #[.slice (some ⟨b, o, none⟩) n c, .int .i64 i] w fun e w' => e = .returned (takeV ((k : Int), x, (i : Int) + 1 + 1, 0)) ∧ Below w.heap.size w w' := by
  have hA0 : Below w.heap.size w (w.alloc (.cells #[.int .i64 0, .int .i64 0] 41)) := (Below.refl _ _).alloc (Nat.le_refl _) _
  have hi' := rinfo_yes k (w.alloc (.cells #[.int .i64 0, .int .i64 0] 41)) h1 h2
  rw [hs] at hi'
  have hbd := sort_le k (by omega)
  rw [hs] at hbd
  have hcell0 := (hA0.cell (p := ⟨b, o + i, none⟩) hb).trans hcell
  have cx1 := (hA0.cell (p := ⟨b, o + (i + 1), none⟩) hb).trans hx1
  generalize numT k 1 = n1 at *
  generalize numT k 2 = n2 at *
  generalize numT k 3 = n3 at *
  generalize numT k 4 = n4 at *
  generalize nmT k = nm at *
  go_enter Tryd.func24, Tryd.ntmps24
  go_wp2_with fail
  refine hi'.mono ?_
  rintro e w1 ⟨rfl, hb1⟩
  clear hi'
  have hs0 : w.heap.size < w1.heap.size := by have := hb1.size; simp at this; omega
  have hbw1 : b < w1.heap.size := by omega
  have hcell1 := (hb1.cell (p := ⟨b, o + i, none⟩) (by simp; omega)).trans hcell0
  obtain ⟨gc, gf⟩ := bcell hb1
  have z0 : w1.cell? ⟨w.heap.size, 0, none⟩ = some (.int .i64 0) := by rw [gc _ _ (by simp)]; go_simp
  have z1 : w1.cell? ⟨w.heap.size, 1, none⟩ = some (.int .i64 0) := by rw [gc _ _ (by simp)]; go_simp
  have z2 : w1.frozen? ⟨w.heap.size, 0, none⟩ = false := by rw [gf _ _ (by simp)]; go_simp
  have z3 : w1.frozen? ⟨w.heap.size, 1, none⟩ = false := by rw [gf _ _ (by simp)]; go_simp
  clear gc gf
  have hbw : Below w.heap.size w w1 := hA0.trans (hb1.mono (by simp))
  have dx1 := (hb1.cell (p := ⟨b, o + (i + 1), none⟩) (by simp; omega)).trans cx1
  go_wp2_with fail
  refine (width_any s _ hbd.1 hbd.2).mono ?_
  rintro e w2 ⟨rfl, hb2⟩
  have hs2 : w1.heap.size < w2.heap.size := by have := hb2.size; simp at this; omega
  have hs3 : w.heap.size < w2.heap.size := by omega
  have hbw2 : b < w2.heap.size := by omega
  obtain ⟨gc, gf⟩ := bcell hb2
  have y0 : w2.cell? ⟨w.heap.size, 0, none⟩ = some (.int .i64 0) := by rw [gc _ _ (by simp; omega)]; go_cell
  have y1 : w2.cell? ⟨w.heap.size, 1, none⟩ = some (.int .i64 0) := by rw [gc _ _ (by simp; omega)]; go_cell
  have y2 : w2.frozen? ⟨w.heap.size, 0, none⟩ = false := by rw [gf _ _ (by simp; omega)]; simp [hs0, z2, go_sem]
  have y3 : w2.frozen? ⟨w.heap.size, 1, none⟩ = false := by rw [gf _ _ (by simp; omega)]; simp [hs0, z3, go_sem]
  have y4 : w2.cell? ⟨w1.heap.size, 1, none⟩ = some (.int .i64 s) := by rw [gc _ _ (by simp)]; go_simp
  have hcell2 : w2.cell? ⟨b, o + i, none⟩ = some (.int .u8 k) := by rw [gc _ _ (by simp; omega)]; go_cell
  have ex1 : w2.cell? ⟨b, o + (i + 1), none⟩ = some (.int .u8 x) := by rw [gc _ _ (by simp; omega)]; go_cell
  have hbx : Below w.heap.size w w2 := (hbw.alloc (by omega) _).trans (hb2.mono (by simp; omega))
  clear gc gf
  rw [hw]
  go_wp2_with fail
  all_goals
    (refine wp_loop_rounds 3 ?_; repeat any_goals (rw [rounds_succ]; go_wp2_with (go_at_call 32; refine (most_any s _ hbd.1 hbd.2).mono ?_; rintro e w3 ⟨rfl, hb3⟩; have hs4 := Nat.lt_of_lt_of_le hs3 hb3.size; have v0 := (hb3.cell (p := ⟨w.heap.size, 0, none⟩) hs3).trans y0; have v1 := (hb3.cell (p := ⟨w.heap.size, 1, none⟩) hs3).trans y1; have v2 := (hb3.frozen (p := ⟨w.heap.size, 0, none⟩) hs3).trans y2; have v3 := (hb3.frozen (p := ⟨w.heap.size, 1, none⟩) hs3).trans y3; have hcell3 := (hb3.cell (p := ⟨b, o + i, none⟩) hbw2).trans hcell2; have hbw3 := Nat.lt_of_lt_of_le hbw2 hb3.size; have hby := hbx.trans (hb3.mono (Nat.le_of_lt hs3)); clear hb3)))
    exact bodyPost_ret (res_ins Tryd.results24 rfl rfl rfl (by go_cell) (by go_cell)) rfl ⟨rfl, by go_grown⟩

set_option maxHeartbeats 1000000 in
theorem rtake_two (k : Nat) (b o n c : Nat) (i : Nat) (x y s : Int) (w : World) (h1 : 1 ≤ k) (h2 : k ≤ 41) (hi : i < n) (hn : n ≤ 140737488354000) (hs : numT k 0 = s) (hw : widthT s = 2) (hroom : i + 2 < n) (hmost : 256 * x + y ≤ mostT s)
    (hcell : w.cell? ⟨b, o + i, none⟩ = some (.int .u8 k)) (hb : b < w.heap.size)
    (hx1 : w.cell? ⟨b, o + (i + 1), none⟩ = some (.int .u8 x)) (hr1 : 0 ≤ x ∧ x ≤ 255)
    (hx2 : w.cell? ⟨b, o + (i + 2), none⟩ = some (.int .u8 y)) (hr2 : 0 ≤ y ∧ y ≤ 255) :
    Calls Tryd.prog 24 #[.slice (some ⟨b, o, none⟩) n c, .int .i64 i] w fun e w' => e = .returned (takeV ((k : Int), 256 * x + y, (i : Int) + 1 + 2, 0)) ∧ Below w.heap.size w w' := by
  have hA0 : Below w.heap.size w (w.alloc (.cells #[.int .i64 0, .int .i64 0] 41)) := (Below.refl _ _).alloc (Nat.le_refl _) _
  have hi' := rinfo_yes k (w.alloc (.cells #[.int .i64 0, .int .i64 0] 41)) h1 h2
  rw [hs] at hi'
  have hbd := sort_le k (by omega)
  rw [hs] at hbd
  have hcell0 := (hA0.cell (p := ⟨b, o + i, none⟩) hb).trans hcell
  have cx1 := (hA0.cell (p := ⟨b, o + (i + 1), none⟩) hb).trans hx1
  have cx2 := (hA0.cell (p := ⟨b, o + (i + 2), none⟩) hb).trans hx2
  generalize numT k 1 = n1 at *
  generalize numT k 2 = n2 at *
  generalize numT k 3 = n3 at *
  generalize numT k 4 = n4 at *
  generalize nmT k = nm at *
  go_enter Tryd.func24, Tryd.ntmps24
  go_wp2_with fail
  refine hi'.mono ?_
  rintro e w1 ⟨rfl, hb1⟩
  clear hi'
  have hs0 : w.heap.size < w1.heap.size := by have := hb1.size; simp at this; omega
  have hbw1 : b < w1.heap.size := by omega
  have hcell1 := (hb1.cell (p := ⟨b, o + i, none⟩) (by simp; omega)).trans hcell0
  obtain ⟨gc, gf⟩ := bcell hb1
  have z0 : w1.cell? ⟨w.heap.size, 0, none⟩ = some (.int .i64 0) := by rw [gc _ _ (by simp)]; go_simp
  have z1 : w1.cell? ⟨w.heap.size, 1, none⟩ = some (.int .i64 0) := by rw [gc _ _ (by simp)]; go_simp
  have z2 : w1.frozen? ⟨w.heap.size, 0, none⟩ = false := by rw [gf _ _ (by simp)]; go_simp
  have z3 : w1.frozen? ⟨w.heap.size, 1, none⟩ = false := by rw [gf _ _ (by simp)]; go_simp
  clear gc gf
  have hbw : Below w.heap.size w w1 := hA0.trans (hb1.mono (by simp))
  have dx1 := (hb1.cell (p := ⟨b, o + (i + 1), none⟩) (by simp; omega)).trans cx1
  have dx2 := (hb1.cell (p := ⟨b, o + (i + 2), none⟩) (by simp; omega)).trans cx2
  go_wp2_with fail
  refine (width_any s _ hbd.1 hbd.2).mono ?_
  rintro e w2 ⟨rfl, hb2⟩
  have hs2 : w1.heap.size < w2.heap.size := by have := hb2.size; simp at this; omega
  have hs3 : w.heap.size < w2.heap.size := by omega
  have hbw2 : b < w2.heap.size := by omega
  obtain ⟨gc, gf⟩ := bcell hb2
  have y0 : w2.cell? ⟨w.heap.size, 0, none⟩ = some (.int .i64 0) := by rw [gc _ _ (by simp; omega)]; go_cell
  have y1 : w2.cell? ⟨w.heap.size, 1, none⟩ = some (.int .i64 0) := by rw [gc _ _ (by simp; omega)]; go_cell
  have y2 : w2.frozen? ⟨w.heap.size, 0, none⟩ = false := by rw [gf _ _ (by simp; omega)]; simp [hs0, z2, go_sem]
  have y3 : w2.frozen? ⟨w.heap.size, 1, none⟩ = false := by rw [gf _ _ (by simp; omega)]; simp [hs0, z3, go_sem]
  have y4 : w2.cell? ⟨w1.heap.size, 1, none⟩ = some (.int .i64 s) := by rw [gc _ _ (by simp)]; go_simp
  have hcell2 : w2.cell? ⟨b, o + i, none⟩ = some (.int .u8 k) := by rw [gc _ _ (by simp; omega)]; go_cell
  have ex1 : w2.cell? ⟨b, o + (i + 1), none⟩ = some (.int .u8 x) := by rw [gc _ _ (by simp; omega)]; go_cell
  have ex2 : w2.cell? ⟨b, o + (i + 2), none⟩ = some (.int .u8 y) := by rw [gc _ _ (by simp; omega)]; go_cell
  have hbx : Below w.heap.size w w2 := (hbw.alloc (by omega) _).trans (hb2.mono (by simp; omega))
  clear gc gf
  rw [hw]
  go_wp2_with fail
  all_goals
    (refine wp_loop_rounds 3 ?_; repeat any_goals (rw [rounds_succ]; go_wp2_with (go_at_call 32; refine (most_any s _ hbd.1 hbd.2).mono ?_; rintro e w3 ⟨rfl, hb3⟩; have hs4 := Nat.lt_of_lt_of_le hs3 hb3.size; have v0 := (hb3.cell (p := ⟨w.heap.size, 0, none⟩) hs3).trans y0; have v1 := (hb3.cell (p := ⟨w.heap.size, 1, none⟩) hs3).trans y1; have v2 := (hb3.frozen (p := ⟨w.heap.size, 0, none⟩) hs3).trans y2; have v3 := (hb3.frozen (p := ⟨w.heap.size, 1, none⟩) hs3).trans y3; have hcell3 := (hb3.cell (p := ⟨b, o + i, none⟩) hbw2).trans hcell2; have hbw3 := Nat.lt_of_lt_of_le hbw2 hb3.size; have hby := hbx.trans (hb3.mono (Nat.le_of_lt hs3)); clear hb3)))
    exact bodyPost_ret (res_ins Tryd.results24 rfl rfl rfl (by go_cell) (by go_cell)) rfl ⟨rfl, by go_grown⟩

set_option maxHeartbeats 1000000 in
theorem rtake_one_big (k : Nat) (b o n c : Nat) (i : Nat) (x s : Int) (w : World) (h1 : 1 ≤ k) (h2 : k ≤ 41) (hi : i < n) (hn : n ≤ 140737488354000) (hs : numT k 0 = s) (hw : widthT s = 1) (hroom : i + 1 < n) (hmost : mostT s < x)
    (hcell : w.cell? ⟨b, o + i, none⟩ = some (.int .u8 k)) (hb : b < w.heap.size)
    (hx1 : w.cell? ⟨b, o + (i + 1), none⟩ = some (.int .u8 x)) (hr1 : 0 ≤ x ∧ x ≤ 255) :
    Calls Tryd.prog 24 #[.slice (some ⟨b, o, none⟩) n c, .int .i64 i] w fun e w' => e = .returned (takeV (0, 0, (i : Int), 81)) ∧ Below w.heap.size w w' := by
  have hA0 : Below w.heap.size w (w.alloc (.cells #[.int .i64 0, .int .i64 0] 41)) := (Below.refl _ _).alloc (Nat.le_refl _) _
  have hi' := rinfo_yes k (w.alloc (.cells #[.int .i64 0, .int .i64 0] 41)) h1 h2
  rw [hs] at hi'
  have hbd := sort_le k (by omega)
  rw [hs] at hbd
  have hcell0 := (hA0.cell (p := ⟨b, o + i, none⟩) hb).trans hcell
  have cx1 := (hA0.cell (p := ⟨b, o + (i + 1), none⟩) hb).trans hx1
  generalize numT k 1 = n1 at *
  generalize numT k 2 = n2 at *
  generalize numT k 3 = n3 at *
  generalize numT k 4 = n4 at *
  generalize nmT k = nm at *
  go_enter Tryd.func24, Tryd.ntmps24
  go_wp2_with fail
  refine hi'.mono ?_
  rintro e w1 ⟨rfl, hb1⟩
  clear hi'
  have hs0 : w.heap.size < w1.heap.size := by have := hb1.size; simp at this; omega
  have hbw1 : b < w1.heap.size := by omega
  have hcell1 := (hb1.cell (p := ⟨b, o + i, none⟩) (by simp; omega)).trans hcell0
  obtain ⟨gc, gf⟩ := bcell hb1
  have z0 : w1.cell? ⟨w.heap.size, 0, none⟩ = some (.int .i64 0) := by rw [gc _ _ (by simp)]; go_simp
  have z1 : w1.cell? ⟨w.heap.size, 1, none⟩ = some (.int .i64 0) := by rw [gc _ _ (by simp)]; go_simp
  have z2 : w1.frozen? ⟨w.heap.size, 0, none⟩ = false := by rw [gf _ _ (by simp)]; go_simp
  have z3 : w1.frozen? ⟨w.heap.size, 1, none⟩ = false := by rw [gf _ _ (by simp)]; go_simp
  clear gc gf
  have hbw : Below w.heap.size w w1 := hA0.trans (hb1.mono (by simp))
  have dx1 := (hb1.cell (p := ⟨b, o + (i + 1), none⟩) (by simp; omega)).trans cx1
  go_wp2_with fail
  refine (width_any s _ hbd.1 hbd.2).mono ?_
  rintro e w2 ⟨rfl, hb2⟩
  have hs2 : w1.heap.size < w2.heap.size := by have := hb2.size; simp at this; omega
  have hs3 : w.heap.size < w2.heap.size := by omega
  have hbw2 : b < w2.heap.size := by omega
  obtain ⟨gc, gf⟩ := bcell hb2
  have y0 : w2.cell? ⟨w.heap.size, 0, none⟩ = some (.int .i64 0) := by rw [gc _ _ (by simp; omega)]; go_cell
  have y1 : w2.cell? ⟨w.heap.size, 1, none⟩ = some (.int .i64 0) := by rw [gc _ _ (by simp; omega)]; go_cell
  have y2 : w2.frozen? ⟨w.heap.size, 0, none⟩ = false := by rw [gf _ _ (by simp; omega)]; simp [hs0, z2, go_sem]
  have y3 : w2.frozen? ⟨w.heap.size, 1, none⟩ = false := by rw [gf _ _ (by simp; omega)]; simp [hs0, z3, go_sem]
  have y4 : w2.cell? ⟨w1.heap.size, 1, none⟩ = some (.int .i64 s) := by rw [gc _ _ (by simp)]; go_simp
  have hcell2 : w2.cell? ⟨b, o + i, none⟩ = some (.int .u8 k) := by rw [gc _ _ (by simp; omega)]; go_cell
  have ex1 : w2.cell? ⟨b, o + (i + 1), none⟩ = some (.int .u8 x) := by rw [gc _ _ (by simp; omega)]; go_cell
  have hbx : Below w.heap.size w w2 := (hbw.alloc (by omega) _).trans (hb2.mono (by simp; omega))
  clear gc gf
  rw [hw]
  go_wp2_with fail
  all_goals
    (refine wp_loop_rounds 3 ?_; repeat any_goals (rw [rounds_succ]; go_wp2_with (go_at_call 32; refine (most_any s _ hbd.1 hbd.2).mono ?_; rintro e w3 ⟨rfl, hb3⟩; have hs4 := Nat.lt_of_lt_of_le hs3 hb3.size; have v0 := (hb3.cell (p := ⟨w.heap.size, 0, none⟩) hs3).trans y0; have v1 := (hb3.cell (p := ⟨w.heap.size, 1, none⟩) hs3).trans y1; have v2 := (hb3.frozen (p := ⟨w.heap.size, 0, none⟩) hs3).trans y2; have v3 := (hb3.frozen (p := ⟨w.heap.size, 1, none⟩) hs3).trans y3; have hcell3 := (hb3.cell (p := ⟨b, o + i, none⟩) hbw2).trans hcell2; have hbw3 := Nat.lt_of_lt_of_le hbw2 hb3.size; have hby := hbx.trans (hb3.mono (Nat.le_of_lt hs3)); clear hb3)))
    exact bodyPost_ret (res_ins Tryd.results24 rfl rfl rfl (by go_cell) (by go_cell)) rfl ⟨rfl, by go_grown⟩

set_option maxHeartbeats 1000000 in
theorem rtake_two_big (k : Nat) (b o n c : Nat) (i : Nat) (x y s : Int) (w : World) (h1 : 1 ≤ k) (h2 : k ≤ 41) (hi : i < n) (hn : n ≤ 140737488354000) (hs : numT k 0 = s) (hw : widthT s = 2) (hroom : i + 2 < n) (hmost : mostT s < 256 * x + y)
    (hcell : w.cell? ⟨b, o + i, none⟩ = some (.int .u8 k)) (hb : b < w.heap.size)
    (hx1 : w.cell? ⟨b, o + (i + 1), none⟩ = some (.int .u8 x)) (hr1 : 0 ≤ x ∧ x ≤ 255)
    (hx2 : w.cell? ⟨b, o + (i + 2), none⟩ = some (.int .u8 y)) (hr2 : 0 ≤ y ∧ y ≤ 255) :
    Calls Tryd.prog 24 #[.slice (some ⟨b, o, none⟩) n c, .int .i64 i] w fun e w' => e = .returned (takeV (0, 0, (i : Int), 81)) ∧ Below w.heap.size w w' := by
  have hA0 : Below w.heap.size w (w.alloc (.cells #[.int .i64 0, .int .i64 0] 41)) := (Below.refl _ _).alloc (Nat.le_refl _) _
  have hi' := rinfo_yes k (w.alloc (.cells #[.int .i64 0, .int .i64 0] 41)) h1 h2
  rw [hs] at hi'
  have hbd := sort_le k (by omega)
  rw [hs] at hbd
  have hcell0 := (hA0.cell (p := ⟨b, o + i, none⟩) hb).trans hcell
  have cx1 := (hA0.cell (p := ⟨b, o + (i + 1), none⟩) hb).trans hx1
  have cx2 := (hA0.cell (p := ⟨b, o + (i + 2), none⟩) hb).trans hx2
  generalize numT k 1 = n1 at *
  generalize numT k 2 = n2 at *
  generalize numT k 3 = n3 at *
  generalize numT k 4 = n4 at *
  generalize nmT k = nm at *
  go_enter Tryd.func24, Tryd.ntmps24
  go_wp2_with fail
  refine hi'.mono ?_
  rintro e w1 ⟨rfl, hb1⟩
  clear hi'
  have hs0 : w.heap.size < w1.heap.size := by have := hb1.size; simp at this; omega
  have hbw1 : b < w1.heap.size := by omega
  have hcell1 := (hb1.cell (p := ⟨b, o + i, none⟩) (by simp; omega)).trans hcell0
  obtain ⟨gc, gf⟩ := bcell hb1
  have z0 : w1.cell? ⟨w.heap.size, 0, none⟩ = some (.int .i64 0) := by rw [gc _ _ (by simp)]; go_simp
  have z1 : w1.cell? ⟨w.heap.size, 1, none⟩ = some (.int .i64 0) := by rw [gc _ _ (by simp)]; go_simp
  have z2 : w1.frozen? ⟨w.heap.size, 0, none⟩ = false := by rw [gf _ _ (by simp)]; go_simp
  have z3 : w1.frozen? ⟨w.heap.size, 1, none⟩ = false := by rw [gf _ _ (by simp)]; go_simp
  clear gc gf
  have hbw : Below w.heap.size w w1 := hA0.trans (hb1.mono (by simp))
  have dx1 := (hb1.cell (p := ⟨b, o + (i + 1), none⟩) (by simp; omega)).trans cx1
  have dx2 := (hb1.cell (p := ⟨b, o + (i + 2), none⟩) (by simp; omega)).trans cx2
  go_wp2_with fail
  refine (width_any s _ hbd.1 hbd.2).mono ?_
  rintro e w2 ⟨rfl, hb2⟩
  have hs2 : w1.heap.size < w2.heap.size := by have := hb2.size; simp at this; omega
  have hs3 : w.heap.size < w2.heap.size := by omega
  have hbw2 : b < w2.heap.size := by omega
  obtain ⟨gc, gf⟩ := bcell hb2
  have y0 : w2.cell? ⟨w.heap.size, 0, none⟩ = some (.int .i64 0) := by rw [gc _ _ (by simp; omega)]; go_cell
  have y1 : w2.cell? ⟨w.heap.size, 1, none⟩ = some (.int .i64 0) := by rw [gc _ _ (by simp; omega)]; go_cell
  have y2 : w2.frozen? ⟨w.heap.size, 0, none⟩ = false := by rw [gf _ _ (by simp; omega)]; simp [hs0, z2, go_sem]
  have y3 : w2.frozen? ⟨w.heap.size, 1, none⟩ = false := by rw [gf _ _ (by simp; omega)]; simp [hs0, z3, go_sem]
  have y4 : w2.cell? ⟨w1.heap.size, 1, none⟩ = some (.int .i64 s) := by rw [gc _ _ (by simp)]; go_simp
  have hcell2 : w2.cell? ⟨b, o + i, none⟩ = some (.int .u8 k) := by rw [gc _ _ (by simp; omega)]; go_cell
  have ex1 : w2.cell? ⟨b, o + (i + 1), none⟩ = some (.int .u8 x) := by rw [gc _ _ (by simp; omega)]; go_cell
  have ex2 : w2.cell? ⟨b, o + (i + 2), none⟩ = some (.int .u8 y) := by rw [gc _ _ (by simp; omega)]; go_cell
  have hbx : Below w.heap.size w w2 := (hbw.alloc (by omega) _).trans (hb2.mono (by simp; omega))
  clear gc gf
  rw [hw]
  go_wp2_with fail
  all_goals
    (refine wp_loop_rounds 3 ?_; repeat any_goals (rw [rounds_succ]; go_wp2_with (go_at_call 32; refine (most_any s _ hbd.1 hbd.2).mono ?_; rintro e w3 ⟨rfl, hb3⟩; have hs4 := Nat.lt_of_lt_of_le hs3 hb3.size; have v0 := (hb3.cell (p := ⟨w.heap.size, 0, none⟩) hs3).trans y0; have v1 := (hb3.cell (p := ⟨w.heap.size, 1, none⟩) hs3).trans y1; have v2 := (hb3.frozen (p := ⟨w.heap.size, 0, none⟩) hs3).trans y2; have v3 := (hb3.frozen (p := ⟨w.heap.size, 1, none⟩) hs3).trans y3; have hcell3 := (hb3.cell (p := ⟨b, o + i, none⟩) hbw2).trans hcell2; have hbw3 := Nat.lt_of_lt_of_le hbw2 hb3.size; have hby := hbx.trans (hb3.mono (Nat.le_of_lt hs3)); clear hb3)))
    exact bodyPost_ret (res_ins Tryd.results24 rfl rfl rfl (by go_cell) (by go_cell)) rfl ⟨rfl, by go_grown⟩

/-- ████ scrupleref08.Take ████ -/
theorem rtake_any (a : Option Addr) (n c : Nat) (i : Int) (bs : List Int) (w : World) (B : BytesIn w a n c bs) :
    Calls Tryd.prog 24 #[.slice a n c, .int .i64 i] w fun e w' => e = .returned (takeV (takeR bs i)) ∧ Below w.heap.size w w' := by
  have hl := B.len
  have hm := B.max
  unfold takeR
  by_cases h0 : i < 0 ∨ (bs.length : Int) ≤ i
  · rw [if_pos h0]
    exact rtake_end a n c i w hm (by rw [hl] at h0; exact h0)
  rw [if_neg h0]
  obtain ⟨j, rfl⟩ : ∃ j : Nat, i = j := ⟨i.toNat, by omega⟩
  have hj : j < n := by omega
  obtain ⟨b, o, rfl, hb, hcell⟩ := B.place (by omega)
  have hcj := hcell j hj
  have hby := B.byte j
  rw [Int.toNat_natCast]
  by_cases h1 : bs.getD j 0 < 1 ∨ 41 < bs.getD j 0
  · rw [if_pos h1]
    exact rtake_noop _ b o n c j w h1 hj hm hby hcj hb
  rw [if_neg h1]
  obtain ⟨k, hk⟩ : ∃ k : Nat, bs.getD j 0 = k := ⟨(bs.getD j 0).toNat, by omega⟩
  rw [hk] at h1 hcj hby ⊢
  rw [Int.toNat_natCast]
  have k1 : 1 ≤ k := by omega
  have k2 : k ≤ 41 := by omega
  by_cases h2 : (bs.length : Int) - j ≤ widthT (numT k 0)
  · rw [if_pos h2]
    exact rtake_short k b o n c j _ w k1 k2 hj hm rfl (by rw [hl] at h2; exact h2) hcj hb
  rw [if_neg h2]
  rcases width_012 (numT k 0) with e | e | e
  · rw [e] at h2 ⊢
    have hA : argB bs j 0 = 0 := rfl
    rw [hA, if_neg (by have := most_zero (numT k 0); omega)]
    exact rtake_zero k b o n c j _ w k1 k2 hj hm rfl e (by omega) (most_zero _) hcj hb
  · rw [e] at h2 ⊢
    have hA : argB bs j 1 = bs.getD (j + 1) 0 := rfl
    rw [hA]
    by_cases h3 : mostT (numT k 0) < bs.getD (j + 1) 0
    · rw [if_pos h3]
      exact rtake_one_big k b o n c j _ _ w k1 k2 hj hm rfl e (by omega) h3 hcj hb (hcell (j + 1) (by omega)) (B.byte _)
    · rw [if_neg h3]
      exact rtake_one k b o n c j _ _ w k1 k2 hj hm rfl e (by omega) (by omega) hcj hb (hcell (j + 1) (by omega)) (B.byte _)
  · rw [e] at h2 ⊢
    have hA : argB bs j 2 = 256 * bs.getD (j + 1) 0 + bs.getD (j + 2) 0 := by
      show bs.getD (j + 1) 0 * 256 + bs.getD (j + 2) 0 = _
      omega
    rw [hA]
    by_cases h3 : mostT (numT k 0) < 256 * bs.getD (j + 1) 0 + bs.getD (j + 2) 0
    · rw [if_pos h3]
      exact rtake_two_big k b o n c j _ _ _ w k1 k2 hj hm rfl e (by omega) h3 hcj hb (hcell (j + 1) (by omega)) (B.byte _) (hcell (j + 2) (by omega)) (B.byte _)
    · rw [if_neg h3]
      exact rtake_two k b o n c j _ _ _ w k1 k2 hj hm rfl e (by omega) (by omega) hcj hb (hcell (j + 1) (by omega)) (B.byte _) (hcell (j + 2) (by omega)) (B.byte _)
end Go.Proofs.YthpfndbhibbkmaaDoor
