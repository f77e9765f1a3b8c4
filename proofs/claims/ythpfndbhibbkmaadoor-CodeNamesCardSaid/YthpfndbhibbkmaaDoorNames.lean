/- THE WALK of 'scruplelaw08.CodeNames': it returns true for every number, over a world that holds the operations' table. -/
import Derived.Test.YthpfndbhibbkmaaDoorNamed
namespace Go.Proofs.YthpfndbhibbkmaaDoor.codeNames
open Go.ChangeShapes Go.WideShapes Go.ChangeAt Go.RowKit

theorem op_nm : ∀ k, k < 42 → opOf (nmT k) = k := by decide +kernel
theorem nm_ne : ∀ i, i < 42 → ∀ k, k < 42 → i ≠ k → nmT i ≠ nmT k := by decide +kernel
theorem base_pos : ∀ k, k < 41 → 1 ≤ numT (k + 1) 3 ∧ 0 ≤ numT (k + 1) 4 ∧ 0 ≤ numT (k + 1) 2 ∧ numT (k + 1) 2 ≤ 1 := by decide +kernel

theorem bcell {W w1 : World} (hb : Below W.heap.size W w1) : (∀ b o, b < W.heap.size → w1.cell? ⟨b, o, none⟩ = W.cell? ⟨b, o, none⟩) ∧ (∀ b o, b < W.heap.size → w1.frozen? ⟨b, o, none⟩ = W.frozen? ⟨b, o, none⟩) :=
  ⟨fun b o h => hb.cell (p := ⟨b, o, none⟩) h, fun b o h => hb.frozen (p := ⟨b, o, none⟩) h⟩

theorem below_three {w wr w1 w2 w3 : World} {A B C : Obj} (h : Below w.heap.size w wr) (h1 : Below wr.heap.size wr w1) (h2 : Below (w1.alloc A).heap.size (w1.alloc A) w2) (h3 : Below (w2.alloc B).heap.size (w2.alloc B) w3) :
    Below w.heap.size w (w3.alloc C) := by
  have s0 := h.size
  have s1 := h1.size
  have s2 := h2.size
  have s3 := h3.size
  simp at s2 s3
  exact ((((((h.trans (h1.mono s0)).alloc (by omega) _).trans (h2.mono (by simp; omega))).alloc (by omega) _).trans (h3.mono (by simp; omega))).alloc (by omega) _)

set_option maxRecDepth 100000 in
set_option maxHeartbeats 1000000 in
theorem walk (a0 : Int) (w0 : (Lit.int .i64 a0).wf = true) {w : World} (T : Tabs w) :
    Calls Tryd.prog 3 #[.int .i64 a0] w fun e w' => e = .returned (.bool true) ∧ Below w.heap.size w w' := by
  have ⟨b0, b1⟩ := bounds_i64 w0
  clear w0
  obtain ⟨k', hk0, hk1, hpick⟩ := pick_any a0 41 w b0 b1 (by omega) (by omega)
  obtain ⟨k, rfl⟩ : ∃ k : Nat, k' = k := ⟨k'.toNat, by omega⟩
  have hpick' := Hid.out (p := Calls Tryd.prog 11 #[.int .i64 a0, .int .i64 41] w fun e w' => e = .returned (.int .i64 (k : Int)) ∧ w = w') hpick
  have HP : Hid (Calls Tryd.prog 11 #[.int .i64 a0, .int .i64 41] w fun e w' => e = .returned (.int .i64 (k : Int)) ∧ w = w') := hpick'
  clear hpick hpick'
  go_enter Tryd.func3, Tryd.ntmps3
  go_wp2_with fail
  refine HP.out.mono ?_
  rintro e w' ⟨rfl, rfl⟩
  clear HP
  go_wp2_with fail
  go_loopw [4] (fun i wr => ∃ n : Nat, n ≤ 41 ∧ i = .int .i64 ((n : Int) + 1) ∧ Below w.heap.size w wr) (fun i _ => 42 - (intOf i).toNat)
  case atStart => exact ⟨0, by omega, rfl, Below.refl _ _⟩
  case round =>
    obtain ⟨n, hn, rfl, hb⟩ := hrel
    have TR := T.below hb
    have e1 : ((n + 1 : Nat) : Int) = (n : Int) + 1 := by omega
    by_cases hlt : n < 41
    · have hi := info_yes' (n + 1) wr TR (by omega) (by omega)
      rw [e1] at hi
      go_wp2_with fail
      refine hi.mono ?_
      rintro e w1 ⟨rfl, hb1⟩
      clear hi
      have T1 := TR.below hb1
      have hk := info_yes' (k + 1) (w1.alloc (.cells #[.string (nmT (n + 1)), .int .i64 (numT (n + 1) 0), .int .i64 (numT (n + 1) 1), .int .i64 (numT (n + 1) 2), .int .i64 (numT (n + 1) 3), .int .i64 (numT (n + 1) 4)] 24)) (T1.below ((Below.refl _ _).alloc (Nat.le_refl _) _)) (by omega) (by omega)
      rw [show ((k + 1 : Nat) : Int) = (k : Int) + 1 from by omega] at hk
      have hbase := base_pos n hlt
      have hx : Hid (opOf (nmT (n + 1)) = n + 1) := op_nm (n + 1) (by omega)
      have hnames : Hid (n ≠ k → nmT (n + 1) ≠ nmT (k + 1)) := fun h => nm_ne (n + 1) (by omega) (k + 1) (by omega) (by omega)
      clear TR
      go_wp2_with fail
      refine hk.mono ?_
      rintro e w2 ⟨rfl, hb2⟩
      clear hk
      have T2 : Tabs w2 := (T1.below ((Below.refl _ _).alloc (Nat.le_refl _) _)).below hb2
      have hs1 : w1.heap.size < w2.heap.size := by have := hb2.size; simp at this; omega
      obtain ⟨hc2, hf2⟩ := bcell hb2
      have x0 : w2.cell? ⟨w1.heap.size, 0, none⟩ = some (.string (nmT (n + 1))) := by rw [hc2 _ _ (by simp)]; go_simp
      have x3 : w2.cell? ⟨w1.heap.size, 3, none⟩ = some (.int .i64 (numT (n + 1) 2)) := by rw [hc2 _ _ (by simp)]; go_simp
      have x4 : w2.cell? ⟨w1.heap.size, 4, none⟩ = some (.int .i64 (numT (n + 1) 3)) := by rw [hc2 _ _ (by simp)]; go_simp
      have x5 : w2.cell? ⟨w1.heap.size, 5, none⟩ = some (.int .i64 (numT (n + 1) 4)) := by rw [hc2 _ _ (by simp)]; go_simp
      have hbw : Below w.heap.size w w2 := (hb.trans ((hb1.mono hb.size).alloc (Nat.le_trans hb.size hb1.size) _)).trans (hb2.mono (by simp; have := hb.size; have := hb1.size; omega))
      clear hc2 hf2
      have hn9 := named_any (nmT (n + 1)) (w2.alloc (.cells #[.string (nmT (k + 1)), .int .i64 (numT (k + 1) 0), .int .i64 (numT (k + 1) 1), .int .i64 (numT (k + 1) 2), .int .i64 (numT (k + 1) 3), .int .i64 (numT (k + 1) 4)] 24)) (T2.below ((Below.refl _ _).alloc (Nat.le_refl _) _))
      rw [hx.out] at hn9
      clear hx
      go_wp2_with fail
      refine hn9.mono ?_
      rintro e w3 ⟨rfl, rfl⟩
      clear hn9
      generalize numT (n + 1) 2 = g2 at *
      generalize numT (n + 1) 3 = g3 at *
      generalize numT (n + 1) 4 = g4 at *
      obtain ⟨q1, q2, q3, q4⟩ := hbase
      by_cases hnk : n = k
      · subst hnk
        clear hnames
        go_wp2_with fail
        go_roundw
        case rel => exact ⟨n + 1, by omega, by go_num, hbw.alloc hbw.size _⟩
        case measure => simp [intOf]; omega
      · have hq := list_ne (hnames.out hnk)
        have hq1 : ((n : Int) + 1 == (k : Int) + 1) = false := by rw [beq_eq_false_iff_ne]; omega
        go_wp2_with fail
        go_roundw
        case rel => exact ⟨n + 1, by omega, by go_num, hbw.alloc hbw.size _⟩
        case measure => simp [intOf]; omega
    · have h42 : (42 : Int) < 1 ∨ 41 < (42 : Int) := by omega
      have h00 : (0 : Int) < 1 ∨ 41 < (0 : Int) := by omega
      by_cases hop : a0 < 1 ∨ 41 < a0
      · rcases hop with hop | hop
        all_goals
          go_wp2_with fail
          refine (info_no' a0 _ (by omega)).mono ?_
          rintro e w1 ⟨rfl, hb1⟩
          go_wp2_with fail
          refine (info_no' 0 _ h00).mono ?_
          rintro e w2 ⟨rfl, hb2⟩
          go_wp2_with fail
          refine (info_no' 42 _ h42).mono ?_
          rintro e w3 ⟨rfl, hb3⟩
          go_wp2_with fail
          go_ret
          exact ⟨by first | rfl | (simp; done) | (simp; omega), below_three hb hb1 hb2 hb3⟩
      · obtain ⟨m, rfl⟩ : ∃ m : Nat, a0 = m := ⟨a0.toNat, by omega⟩
        go_wp2_with fail
        refine (info_yes' m _ TR (by omega) (by omega)).mono ?_
        rintro e w1 ⟨rfl, hb1⟩
        go_wp2_with fail
        refine (info_no' 0 _ h00).mono ?_
        rintro e w2 ⟨rfl, hb2⟩
        go_wp2_with fail
        refine (info_no' 42 _ h42).mono ?_
        rintro e w3 ⟨rfl, hb3⟩
        have hm1 : (1 : Int) ≤ (m : Int) := by omega
        have hm2 : (m : Int) ≤ 41 := by omega
        go_wp2_with fail
        go_ret
        exact ⟨by first | rfl | (simp; omega), below_three hb hb1 hb2 hb3⟩
end Go.Proofs.YthpfndbhibbkmaaDoor.codeNames
