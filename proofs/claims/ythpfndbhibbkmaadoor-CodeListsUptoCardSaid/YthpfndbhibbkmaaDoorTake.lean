/- CONTRACTS of code.Take and scrupleref08.Take: both answer takeR. They ask that the bytes read, each from 0 to 255; code.Take that the world hold the operations' table. -/
import Derived.Test.YthpfndbhibbkmaaDoorLent
import Derived.Test.YthpfndbhibbkmaaDoorBaseD
import Derived.Handy
namespace Go.Proofs.YthpfndbhibbkmaaDoor
open Go.ChangeShapes Go.WideShapes Go.ChangeAt Go.RowKit Go.Proofs.YthpfndbhibbkmaaDoorW.PrintWords
set_option linter.unusedVariables false
set_option linter.unusedSimpArgs false

/-- The operand's bytes behind place i, read. -/
def argB (bs : List Int) (i : Nat) (wd : Int) : Int := if wd = 0 then 0 else if wd = 1 then bs.getD (i + 1) 0 else bs.getD (i + 1) 0 * 256 + bs.getD (i + 2) 0
/-- What Take answers: operation, operand, next place, error. -/
def takeR (bs : List Int) (i : Int) : Int × Int × Int × Int :=
  if i < 0 ∨ (bs.length : Int) ≤ i then (0, 0, i, 82)
  else if bs.getD i.toNat 0 < 1 ∨ 41 < bs.getD i.toNat 0 then (0, 0, i, 80)
  else if (bs.length : Int) - i ≤ widthT (numT (bs.getD i.toNat 0).toNat 0) then (0, 0, i, 82)
  else if mostT (numT (bs.getD i.toNat 0).toNat 0) < argB bs i.toNat (widthT (numT (bs.getD i.toNat 0).toNat 0)) then (0, 0, i, 81)
  else (bs.getD i.toNat 0, argB bs i.toNat (widthT (numT (bs.getD i.toNat 0).toNat 0)), i + 1 + widthT (numT (bs.getD i.toNat 0).toNat 0), 0)
def takeV (r : Int × Int × Int × Int) : Value := .tuple #[.agg #[.int .i64 r.1, .int .i64 r.2.1], .int .i64 r.2.2.1, .int .i64 r.2.2.2]
/-- A slice of bytes that reads as bs, each from 0 to 255. -/
structure BytesIn (w : World) (a : Option Addr) (n c : Nat) (bs : List Int) : Prop extends BytesArg w a n c bs where
  byte : ∀ i, 0 ≤ bs.getD i 0 ∧ bs.getD i 0 ≤ 255
theorem BytesIn.under {w w1 : World} {a : Option Addr} {n c : Nat} {bs : List Int} (h : BytesIn w a n c bs) (hb : Below w.heap.size w w1) : BytesIn w1 a n c bs := ⟨h.toBytesArg.below hb, h.byte⟩
theorem BytesIn.place {w : World} {a : Option Addr} {n c : Nat} {bs : List Int} (h : BytesIn w a n c bs) (hn : 0 < n) : ∃ b o, a = some ⟨b, o, none⟩ ∧ b < w.heap.size ∧ ∀ j, j < n → w.cell? ⟨b, o + j, none⟩ = some (.int .u8 (bs.getD j 0)) := by
  obtain ⟨ad, rfl, hc⟩ := h.reads.2.2 hn
  obtain ⟨b, o, sp⟩ := ad
  have := World.cell?_spot (hc 0 hn)
  have hs : sp = none := by simpa [Addr.add] using this
  subst hs
  have hc' : ∀ j, j < n → w.cell? ⟨b, o + j, none⟩ = some (.int .u8 (bs.getD j 0)) := fun j hj => by
    have := hc j hj
    rwa [Go.WideShapes.add_plain] at this
  exact ⟨b, o, rfl, World.block_lt_of_cell? w _ (hc' 0 hn), hc'⟩

/-- The results: an instruction in its cells, two numbers. -/
theorem res_ins {fn : Func} (hr : fn.results = #[.cell 4 41, .tmp 5, .tmp 6]) {tmps : Array Value} {w : World} {g : Nat} {k A x y : Int} (h4 : tmps.getD 4 undef = .pointer (some ⟨g, 0, none⟩)) (h5 : tmps.getD 5 undef = .int .i64 x) (h6 : tmps.getD 6 undef = .int .i64 y)
    (hg0 : w.cell? ⟨g, 0, none⟩ = some (.int .i64 k)) (hg1 : w.cell? ⟨g, 1, none⟩ = some (.int .i64 A)) : (results fn tmps).run Tryd.prog w = .ok (.tuple #[.agg #[.int .i64 k, .int .i64 A], .int .i64 x, .int .i64 y]) w := by
  simp only [results, hr]
  have hlv : (loadVar 41 ⟨g, 0, none⟩).run Tryd.prog w = .ok (.agg #[.int .i64 k, .int .i64 A]) w := by
    go_simp
  rw [Array.getD_eq_getD_getElem?] at h4 h5 h6
  simp [Sem.run_bind, Result.andThen, h4, h5, h6, asAddr, hlv]

set_option maxHeartbeats 1000000 in
theorem take_end (a : Option Addr) (n c : Nat) (i : Int) (w : World) (hn : n ≤ 140737488354000) (h : i < 0 ∨ (n : Int) ≤ i) :
    Calls Tryd.prog 23 #[.slice a n c, .int .i64 i] w fun e w' => e = .returned (takeV (0, 0, i, 82)) ∧ Below w.heap.size w w' := by
  rcases h with h | h
  all_goals
    go_enter Tryd.func23, Tryd.ntmps23
    go_wp2
    exact bodyPost_ret (res_ins Tryd.results23 rfl rfl rfl (by go_cell) (by go_cell)) rfl ⟨rfl, (Below.refl _ _).alloc (Nat.le_refl _) _⟩

theorem wraps_i64 (n : Int) (h₀ : 0 ≤ n) (h₁ : n < 2 ^ 63) : IntKind.i64.wrap n = n := by rw [IntKind.wrap_i64]; omega
theorem or0 (x : Int) (h0 : 0 ≤ x) (h1 : x ≤ 255) : bits .or .i64 0 x = x := by
  have := bits_join .i64 63 (by decide) wraps_i64 8 0 x (by decide) (by decide) (by decide) h0 (by omega) (by omega)
  simpa using this
theorem or256 (x y : Int) (h0 : 0 ≤ x) (h1 : x ≤ 255) (h2 : 0 ≤ y) (h3 : y ≤ 255) : bits .or .i64 (x * 256) y = x * 256 + y :=
  bits_join .i64 63 (by decide) wraps_i64 8 (x * 256) y (by omega) (by omega) (by omega) h2 (by omega) (by omega)

set_option maxHeartbeats 1000000 in
theorem take_zero (k : Nat) (b o n c : Nat) (i : Nat) (s : Int) (w : World) (T : Tabs w) (h1 : 1 ≤ k) (h2 : k ≤ 41) (hi : i < n) (hn : n ≤ 140737488354000) (hc : n ≤ c) (hs : numT k 0 = s) (hw : widthT s = 0) (hroom : i + 0 < n) (hmost : 0 ≤ mostT s)
    (hcell : w.cell? ⟨b, o + i, none⟩ = some (.int .u8 k)) (hb : b < w.heap.size) :
    Calls Tryd.prog 23 #[.slice (some ⟨b, o, none⟩) n c, .int .i64 i] w fun e w' => e = .returned (takeV ((k : Int), 0, (i : Int) + 1 + 0, 0)) ∧ Below w.heap.size w w' := by
  have hA0 : Below w.heap.size w (w.alloc (.cells #[.int .i64 0, .int .i64 0] 41)) := (Below.refl _ _).alloc (Nat.le_refl _) _
  have hi' := info_yes' k (w.alloc (.cells #[.int .i64 0, .int .i64 0] 41)) (T.below hA0) h1 h2
  rw [hs] at hi'
  have hbd := sort_le k (by omega)
  rw [hs] at hbd
  have hcell0 := (hA0.cell (p := ⟨b, o + i, none⟩) hb).trans hcell
  go_enter Tryd.func23, Tryd.ntmps23
  go_wp2_with fail
  refine hi'.mono ?_
  rintro e w1 ⟨rfl, hb1⟩
  clear hi'
  have hs0 : w.heap.size < w1.heap.size := by have := hb1.size; simp at this; omega
  have hbw1 : b < w1.heap.size := by omega
  have hcell1 := (hb1.cell (p := ⟨b, o + i, none⟩) (by simp; omega)).trans hcell0
  obtain ⟨gc, gf⟩ := bcell hb1
  have z0 : w1.cell? ⟨w.heap.size, 0, none⟩ = some (.int .i64 0) := by rw [gc _ _ (by simp)]; go_simp
  have z1 : w1.cell? ⟨w.heap.size, 1, none⟩ = some (.int .i64 0) := by rw [gc _ _ (by simp)]; go_simp
  have z2 : w1.frozen? ⟨w.heap.size, 0, none⟩ = false := by rw [gf _ _ (by simp)]; go_simp
  have z3 : w1.frozen? ⟨w.heap.size, 1, none⟩ = false := by rw [gf _ _ (by simp)]; go_simp
  clear gc gf
  have hbw : Below w.heap.size w w1 := hA0.trans (hb1.mono (by simp))
  go_wp2_with fail
  refine (bound_any s _ hbd.1 hbd.2).mono ?_
  rintro e w' ⟨rfl, rfl⟩
  rw [hw]
  go_wp2_with fail
  all_goals
    go_rounds 3
    exact bodyPost_ret (res_ins Tryd.results23 rfl rfl rfl (by go_cell) (by go_cell)) rfl ⟨rfl, by go_grown⟩

set_option maxHeartbeats 1000000 in
theorem take_one (k : Nat) (b o n c : Nat) (i : Nat) (x s : Int) (w : World) (T : Tabs w) (h1 : 1 ≤ k) (h2 : k ≤ 41) (hi : i < n) (hn : n ≤ 140737488354000) (hc : n ≤ c) (hs : numT k 0 = s) (hw : widthT s = 1) (hroom : i + 1 < n) (hmost : x ≤ mostT s)
    (hcell : w.cell? ⟨b, o + i, none⟩ = some (.int .u8 k)) (hb : b < w.heap.size)
    (hx1 : w.cell? ⟨b, o + (i + 1), none⟩ = some (.int .u8 x)) (hr1 : 0 ≤ x ∧ x ≤ 255) :
    Calls Tryd.prog 23 #[.slice (some ⟨b, o, none⟩) n c, .int .i64 i] w fun e w' => e = .returned (takeV ((k : Int), x, (i : Int) + 1 + 1, 0)) ∧ Below w.heap.size w w' := by
  have hA0 : Below w.heap.size w (w.alloc (.cells #[.int .i64 0, .int .i64 0] 41)) := (Below.refl _ _).alloc (Nat.le_refl _) _
  have hi' := info_yes' k (w.alloc (.cells #[.int .i64 0, .int .i64 0] 41)) (T.below hA0) h1 h2
  rw [hs] at hi'
  have hbd := sort_le k (by omega)
  rw [hs] at hbd
  have hcell0 := (hA0.cell (p := ⟨b, o + i, none⟩) hb).trans hcell
  have cx1 := (hA0.cell (p := ⟨b, o + (i + 1), none⟩) hb).trans hx1
  go_enter Tryd.func23, Tryd.ntmps23
  go_wp2_with fail
  refine hi'.mono ?_
  rintro e w1 ⟨rfl, hb1⟩
  clear hi'
  have hs0 : w.heap.size < w1.heap.size := by have := hb1.size; simp at this; omega
  have hbw1 : b < w1.heap.size := by omega
  have hcell1 := (hb1.cell (p := ⟨b, o + i, none⟩) (by simp; omega)).trans hcell0
  obtain ⟨gc, gf⟩ := bcell hb1
  have z0 : w1.cell? ⟨w.heap.size, 0, none⟩ = some (.int .i64 0) := by rw [gc _ _ (by simp)]; go_simp
  have z1 : w1.cell? ⟨w.heap.size, 1, none⟩ = some (.int .i64 0) := by rw [gc _ _ (by simp)]; go_simp
  have z2 : w1.frozen? ⟨w.heap.size, 0, none⟩ = false := by rw [gf _ _ (by simp)]; go_simp
  have z3 : w1.frozen? ⟨w.heap.size, 1, none⟩ = false := by rw [gf _ _ (by simp)]; go_simp
  clear gc gf
  have hbw : Below w.heap.size w w1 := hA0.trans (hb1.mono (by simp))
  have dx1 := (hb1.cell (p := ⟨b, o + (i + 1), none⟩) (by simp; omega)).trans cx1
  have o1 := or0 x hr1.1 hr1.2
  go_wp2_with fail
  refine (bound_any s _ hbd.1 hbd.2).mono ?_
  rintro e w' ⟨rfl, rfl⟩
  rw [hw]
  go_wp2_with fail
  all_goals
    go_rounds 3
    exact bodyPost_ret (res_ins Tryd.results23 rfl rfl rfl (by go_cell) (by go_cell)) rfl ⟨rfl, by go_grown⟩

set_option maxHeartbeats 1000000 in
theorem take_two (k : Nat) (b o n c : Nat) (i : Nat) (x y s : Int) (w : World) (T : Tabs w) (h1 : 1 ≤ k) (h2 : k ≤ 41) (hi : i < n) (hn : n ≤ 140737488354000) (hc : n ≤ c) (hs : numT k 0 = s) (hw : widthT s = 2) (hroom : i + 2 < n) (hmost : x * 256 + y ≤ mostT s)
    (hcell : w.cell? ⟨b, o + i, none⟩ = some (.int .u8 k)) (hb : b < w.heap.size)
    (hx1 : w.cell? ⟨b, o + (i + 1), none⟩ = some (.int .u8 x)) (hr1 : 0 ≤ x ∧ x ≤ 255)
    (hx2 : w.cell? ⟨b, o + (i + 2), none⟩ = some (.int .u8 y)) (hr2 : 0 ≤ y ∧ y ≤ 255) :
    Calls Tryd.prog 23 #[.slice (some ⟨b, o, none⟩) n c, .int .i64 i] w fun e w' => e = .returned (takeV ((k : Int), x * 256 + y, (i : Int) + 1 + 2, 0)) ∧ Below w.heap.size w w' := by
  have hA0 : Below w.heap.size w (w.alloc (.cells #[.int .i64 0, .int .i64 0] 41)) := (Below.refl _ _).alloc (Nat.le_refl _) _
  have hi' := info_yes' k (w.alloc (.cells #[.int .i64 0, .int .i64 0] 41)) (T.below hA0) h1 h2
  rw [hs] at hi'
  have hbd := sort_le k (by omega)
  rw [hs] at hbd
  have hcell0 := (hA0.cell (p := ⟨b, o + i, none⟩) hb).trans hcell
  have cx1 := (hA0.cell (p := ⟨b, o + (i + 1), none⟩) hb).trans hx1
  have cx2 := (hA0.cell (p := ⟨b, o + (i + 2), none⟩) hb).trans hx2
  go_enter Tryd.func23, Tryd.ntmps23
  go_wp2_with fail
  refine hi'.mono ?_
  rintro e w1 ⟨rfl, hb1⟩
  clear hi'
  have hs0 : w.heap.size < w1.heap.size := by have := hb1.size; simp at this; omega
  have hbw1 : b < w1.heap.size := by omega
  have hcell1 := (hb1.cell (p := ⟨b, o + i, none⟩) (by simp; omega)).trans hcell0
  obtain ⟨gc, gf⟩ := bcell hb1
  have z0 : w1.cell? ⟨w.heap.size, 0, none⟩ = some (.int .i64 0) := by rw [gc _ _ (by simp)]; go_simp
  have z1 : w1.cell? ⟨w.heap.size, 1, none⟩ = some (.int .i64 0) := by rw [gc _ _ (by simp)]; go_simp
  have z2 : w1.frozen? ⟨w.heap.size, 0, none⟩ = false := by rw [gf _ _ (by simp)]; go_simp
  have z3 : w1.frozen? ⟨w.heap.size, 1, none⟩ = false := by rw [gf _ _ (by simp)]; go_simp
  clear gc gf
  have hbw : Below w.heap.size w w1 := hA0.trans (hb1.mono (by simp))
  have dx1 := (hb1.cell (p := ⟨b, o + (i + 1), none⟩) (by simp; omega)).trans cx1
  have dx2 := (hb1.cell (p := ⟨b, o + (i + 2), none⟩) (by simp; omega)).trans cx2
  have o1 := or0 x hr1.1 hr1.2
  rw [show o + (i + 2) = o + (i + 1) + 1 by omega] at dx2
  have o2 := or256 x y hr1.1 hr1.2 hr2.1 hr2.2
  go_wp2_with fail
  refine (bound_any s _ hbd.1 hbd.2).mono ?_
  rintro e w' ⟨rfl, rfl⟩
  rw [hw]
  go_wp2_with fail
  all_goals
    go_rounds 3
    exact bodyPost_ret (res_ins Tryd.results23 rfl rfl rfl (by go_cell) (by go_cell)) rfl ⟨rfl, by go_grown⟩

set_option maxHeartbeats 1000000 in
theorem take_one_big (k : Nat) (b o n c : Nat) (i : Nat) (x s : Int) (w : World) (T : Tabs w) (h1 : 1 ≤ k) (h2 : k ≤ 41) (hi : i < n) (hn : n ≤ 140737488354000) (hc : n ≤ c) (hs : numT k 0 = s) (hw : widthT s = 1) (hroom : i + 1 < n) (hmost : mostT s < x)
    (hcell : w.cell? ⟨b, o + i, none⟩ = some (.int .u8 k)) (hb : b < w.heap.size)
    (hx1 : w.cell? ⟨b, o + (i + 1), none⟩ = some (.int .u8 x)) (hr1 : 0 ≤ x ∧ x ≤ 255) :
    Calls Tryd.prog 23 #[.slice (some ⟨b, o, none⟩) n c, .int .i64 i] w fun e w' => e = .returned (takeV (0, 0, (i : Int), 81)) ∧ Below w.heap.size w w' := by
  have hA0 : Below w.heap.size w (w.alloc (.cells #[.int .i64 0, .int .i64 0] 41)) := (Below.refl _ _).alloc (Nat.le_refl _) _
  have hi' := info_yes' k (w.alloc (.cells #[.int .i64 0, .int .i64 0] 41)) (T.below hA0) h1 h2
  rw [hs] at hi'
  have hbd := sort_le k (by omega)
  rw [hs] at hbd
  have hcell0 := (hA0.cell (p := ⟨b, o + i, none⟩) hb).trans hcell
  have cx1 := (hA0.cell (p := ⟨b, o + (i + 1), none⟩) hb).trans hx1
  go_enter Tryd.func23, Tryd.ntmps23
  go_wp2_with fail
  refine hi'.mono ?_
  rintro e w1 ⟨rfl, hb1⟩
  clear hi'
  have hs0 : w.heap.size < w1.heap.size := by have := hb1.size; simp at this; omega
  have hbw1 : b < w1.heap.size := by omega
  have hcell1 := (hb1.cell (p := ⟨b, o + i, none⟩) (by simp; omega)).trans hcell0
  obtain ⟨gc, gf⟩ := bcell hb1
  have z0 : w1.cell? ⟨w.heap.size, 0, none⟩ = some (.int .i64 0) := by rw [gc _ _ (by simp)]; go_simp
  have z1 : w1.cell? ⟨w.heap.size, 1, none⟩ = some (.int .i64 0) := by rw [gc _ _ (by simp)]; go_simp
  have z2 : w1.frozen? ⟨w.heap.size, 0, none⟩ = false := by rw [gf _ _ (by simp)]; go_simp
  have z3 : w1.frozen? ⟨w.heap.size, 1, none⟩ = false := by rw [gf _ _ (by simp)]; go_simp
  clear gc gf
  have hbw : Below w.heap.size w w1 := hA0.trans (hb1.mono (by simp))
  have dx1 := (hb1.cell (p := ⟨b, o + (i + 1), none⟩) (by simp; omega)).trans cx1
  have o1 := or0 x hr1.1 hr1.2
  go_wp2_with fail
  refine (bound_any s _ hbd.1 hbd.2).mono ?_
  rintro e w' ⟨rfl, rfl⟩
  rw [hw]
  go_wp2_with fail
  all_goals
    go_rounds 3
    exact bodyPost_ret (res_ins Tryd.results23 rfl rfl rfl (by go_cell) (by go_cell)) rfl ⟨rfl, by go_grown⟩

set_option maxHeartbeats 1000000 in
theorem take_two_big (k : Nat) (b o n c : Nat) (i : Nat) (x y s : Int) (w : World) (T : Tabs w) (h1 : 1 ≤ k) (h2 : k ≤ 41) (hi : i < n) (hn : n ≤ 140737488354000) (hc : n ≤ c) (hs : numT k 0 = s) (hw : widthT s = 2) (hroom : i + 2 < n) (hmost : mostT s < x * 256 + y)
    (hcell : w.cell? ⟨b, o + i, none⟩ = some (.int .u8 k)) (hb : b < w.heap.size)
    (hx1 : w.cell? ⟨b, o + (i + 1), none⟩ = some (.int .u8 x)) (hr1 : 0 ≤ x ∧ x ≤ 255)
    (hx2 : w.cell? ⟨b, o + (i + 2), none⟩ = some (.int .u8 y)) (hr2 : 0 ≤ y ∧ y ≤ 255) :
    Calls Tryd.prog 23 #[.slice (some ⟨b, o, none⟩) n c, .int .i64 i] w fun e w' => e = .returned (takeV (0, 0, (i : Int), 81)) ∧ Below w.heap.size w w' := by
  have hA0 : Below w.heap.size w (w.alloc (.cells #[.int .i64 0, .int .i64 0] 41)) := (Below.refl _ _).alloc (Nat.le_refl _) _
  have hi' := info_yes' k (w.alloc (.cells #[.int .i64 0, .int .i64 0] 41)) (T.below hA0) h1 h2
  rw [hs] at hi'
  have hbd := sort_le k (by omega)
  rw [hs] at hbd
  have hcell0 := (hA0.cell (p := ⟨b, o + i, none⟩) hb).trans hcell
  have cx1 := (hA0.cell (p := ⟨b, o + (i + 1), none⟩) hb).trans hx1
  have cx2 := (hA0.cell (p := ⟨b, o + (i + 2), none⟩) hb).trans hx2
  go_enter Tryd.func23, Tryd.ntmps23
  go_wp2_with fail
  refine hi'.mono ?_
  rintro e w1 ⟨rfl, hb1⟩
  clear hi'
  have hs0 : w.heap.size < w1.heap.size := by have := hb1.size; simp at this; omega
  have hbw1 : b < w1.heap.size := by omega
  have hcell1 := (hb1.cell (p := ⟨b, o + i, none⟩) (by simp; omega)).trans hcell0
  obtain ⟨gc, gf⟩ := bcell hb1
  have z0 : w1.cell? ⟨w.heap.size, 0, none⟩ = some (.int .i64 0) := by rw [gc _ _ (by simp)]; go_simp
  have z1 : w1.cell? ⟨w.heap.size, 1, none⟩ = some (.int .i64 0) := by rw [gc _ _ (by simp)]; go_simp
  have z2 : w1.frozen? ⟨w.heap.size, 0, none⟩ = false := by rw [gf _ _ (by simp)]; go_simp
  have z3 : w1.frozen? ⟨w.heap.size, 1, none⟩ = false := by rw [gf _ _ (by simp)]; go_simp
  clear gc gf
  have hbw : Below w.heap.size w w1 := hA0.trans (hb1.mono (by simp))
  have dx1 := (hb1.cell (p := ⟨b, o + (i + 1), none⟩) (by simp; omega)).trans cx1
  have dx2 := (hb1.cell (p := ⟨b, o + (i + 2), none⟩) (by simp; omega)).trans cx2
  have o1 := or0 x hr1.1 hr1.2
  rw [show o + (i + 2) = o + (i + 1) + 1 by omega] at dx2
  have o2 := or256 x y hr1.1 hr1.2 hr2.1 hr2.2
  go_wp2_with fail
  refine (bound_any s _ hbd.1 hbd.2).mono ?_
  rintro e w' ⟨rfl, rfl⟩
  rw [hw]
  go_wp2_with fail
  all_goals
    go_rounds 3
    exact bodyPost_ret (res_ins Tryd.results23 rfl rfl rfl (by go_cell) (by go_cell)) rfl ⟨rfl, by go_grown⟩
/-! TAIL -/
end Go.Proofs.YthpfndbhibbkmaaDoor
