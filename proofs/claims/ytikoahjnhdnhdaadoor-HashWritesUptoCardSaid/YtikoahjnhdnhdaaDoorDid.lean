/- CONTRACT of scruplelaw02.did: one deed with one of the books. -/
import Derived.Test.YtikoahjnhdnhdaaDoorNone
import Derived.Test.YtikoahjnhdnhdaaDoorRSum
import Derived.BigRegion
import Derived.Deep.RegionHeld3
import Derived.Deep.QuietTactic
import Derived.BigQuiet
namespace Go.Proofs.YtikoahjnhdnhdaaDoor
open Go.ChangeShapes Go.WideShapes Go.ChangeAt Go.RowKit Go.Proofs.YtikoahjnhdnhdaaDoorW.PrintWords Go.Deep
set_option linter.unusedVariables false
set_option linter.unusedSimpArgs false

/-- What did leaves: the books, at most one more. -/
structure Did (base N M : Nat) (e : Ending) (w w' : World) : Prop where
  out : ∃ gr' N' c' L', e = .returned (.tuple #[.slice (some ⟨gr', 0, none⟩) N' c', .bool true]) ∧ N' ≤ N + 1 ∧ Books w' base gr' N' c' M L'
  below : Below base w w'

theorem Books.base_le {w : World} {base gr N c M : Nat} {L : Nat → Nat × ByteArray} (B : Books w base gr N c M L) : base ≤ w.heap.size := by
  obtain ⟨cur, hg, hb, _⟩ := B.blk
  have := (Array.getElem?_eq_some_iff.1 hg).1
  omega

/-- The book that append lays behind the others. -/
theorem Books.append {w w1 : World} {base gr N c M : Nat} {L : Nat → Nat × ByteArray} (B : Books w base gr N c M L) {g : Nat} {s : ByteArray} {v1 : Value} (hs : Hs w g (bytesOf s)) (hnew : ∀ i, i < N → (L i).1 < g) (hge : base ≤ g) (hne : gr < g) (hsz : s.size ≤ M)
    (hO : w1.ownsRow base 41 2 v1 (N + 1) (bookCs L N ++ [.pointer (some ⟨g, 0, none⟩), .string s])) (hG : w.grownBy w1 (some gr)) : ∃ gr' c' L', v1 = .slice (some ⟨gr', 0, none⟩) (N + 1) c' ∧ Books w1 base gr' (N + 1) c' M L' := by
  obtain ⟨gr', c', rfl, _⟩ := hO.form (by omega)
  exact ⟨gr', c', _, rfl, B.snoc hO hG hs (fun i hi => Nat.ne_of_lt (hnew i hi)) hge (Nat.ne_of_gt hne) hsz⟩
theorem bytes_joined (a b : ByteArray) : bytesOf (a ++ b) = bytesOf a ++ bytesOf b := by
  unfold bytesOf
  rw [ByteArray.data_append, Array.toList_append, List.map_append]
theorem Books.other {w w1 : World} {base gr N c M b : Nat} {L : Nat → Nat × ByteArray} (B : Books w base gr N c M L) (hg : w.grownBy w1 (some b)) (hb : gr ≠ b) (hL : ∀ i, i < N → (L i).1 ≠ b) : Books w1 base gr N c M L :=
  ⟨B.pos, own_other B.row hg (.inr (fun e => hb (by simpa [Value.ownBlock] using e))), fun i hi => (B.st i hi).other hg (hL i hi), B.apart, B.ge, B.size⟩
theorem Books.row_ge {w : World} {base gr N c M : Nat} {L : Nat → Nat × ByteArray} (B : Books w base gr N c M L) : base ≤ gr := by
  obtain ⟨cur, hg, hb, _⟩ := B.blk
  exact hb
theorem upd_fst (L : Nat → Nat × ByteArray) (i j : Nat) (s : ByteArray) : (upd L i ((L i).1, s) j).1 = (L j).1 := by
  by_cases h : j = i
  · subst h; rw [upd_here]
  · rw [upd_far _ _ _ _ h]
theorem Books.lt {w : World} {base gr N c M : Nat} {L : Nat → Nat × ByteArray} (B : Books w base gr N c M L) : gr < w.heap.size := by
  obtain ⟨cur, hg, hb, _⟩ := B.blk
  exact (Array.getElem?_eq_some_iff.1 hg).1

set_option maxRecDepth 100000 in
set_option maxHeartbeats 2000000 in
theorem did_any (k h : Int) (s : ByteArray) (w : World) (base gr N c M : Nat) (L : Nat → Nat × ByteArray) (T : Tabs w) (B : Books w base gr N c M L) (hb : 0 < base)
    (hk : -9223372036854775808 ≤ k ∧ k ≤ 9223372036854775807) (hh : -9223372036854775808 ≤ h ∧ h ≤ 9223372036854775807) (hs : s.size ≤ 1048576) (hM : M ≤ 70368744177664) (hN : N ≤ 2097152) :
    Calls Tryd.prog 17 #[.slice (some ⟨gr, 0, none⟩) N c, .agg #[.int .i64 k, .int .i64 h, .string s]] w fun e w' => Did base N (M + s.size) e w w' := by
  have hN1 := B.pos
  have q1 : Below w.heap.size w (w.alloc (.cells #[.int .i64 k, .int .i64 h, .string s] 46)) := (Below.refl _ _).alloc (Nat.le_refl _) _
  obtain ⟨kk, hk0, hkn, H13⟩ := pick_any h (N : Int) (w.alloc (.cells #[.int .i64 k, .int .i64 h, .string s] 46)) hh.1 hh.2 (by omega) (by omega)
  obtain ⟨i, rfl⟩ := Int.eq_ofNat_of_zero_le hk0
  obtain ⟨q, hq0, hqn, H13b⟩ := pick_any k 4 (w.alloc (.cells #[.int .i64 k, .int .i64 h, .string s] 46)) hk.1 hk.2 (by omega) (by omega)
  have hi : i < N := by omega
  have T1 := Lib.hid (T.below q1)
  have B1 := Lib.hid (B.below q1)
  have x0 : (w.alloc (.cells #[.int .i64 k, .int .i64 h, .string s] 46)).cell? ⟨w.heap.size, 0, none⟩ = some (.int .i64 k) := by simp [cell_of_row _ _ _ _ _ _ (heap_alloc_new w _)]
  have x1 : (w.alloc (.cells #[.int .i64 k, .int .i64 h, .string s] 46)).cell? ⟨w.heap.size, 1, none⟩ = some (.int .i64 h) := by simp [cell_of_row _ _ _ _ _ _ (heap_alloc_new w _)]
  have x2 : (w.alloc (.cells #[.int .i64 k, .int .i64 h, .string s] 46)).cell? ⟨w.heap.size, 2, none⟩ = some (.string s) := by simp [cell_of_row _ _ _ _ _ _ (heap_alloc_new w _)]
  have hx : w.heap.size < (w.alloc (.cells #[.int .i64 k, .int .i64 h, .string s] 46)).heap.size := by simp
  have hwb := B.base_le
  have hlt0 : ∀ j, j < N → (L j).1 < w.heap.size := fun j hj => (B.st j hj).lt
  have hgr := B.lt
  have H13 := Lib.hid H13
  have H13b := Lib.hid H13b
  clear T B
  go_enter Tryd.func17, Tryd.ntmps17
  generalize hW : w.alloc (.cells #[.int .i64 k, .int .i64 h, .string s] 46) = W at *
  go_wp2_with fail
  refine H13.out.mono ?_
  rintro e _ ⟨rfl, rfl⟩
  go_wp2_with fail
  refine H13b.out.mono ?_
  rintro e _ ⟨rfl, rfl⟩
  clear H13 H13b
  obtain rfl | rfl | rfl | rfl : q = 0 ∨ q = 1 ∨ q = 2 ∨ q = 3 := by omega
  · clear x0 x1 x2 T1
    have hB := B1.out
    have hlt : ∀ j, j < N → (L j).1 < W.heap.size := fun j hj => (hB.st j hj).lt
    have hgW : gr < W.heap.size := hB.lt
    have hWb : base ≤ W.heap.size := hB.base_le
    clear hB
    go_wp2_with fail
    refine (new_any W).mono ?_
    rintro e w2 ⟨rfl, S2, b2, hs2⟩
    have B2 := (B1.out).below b2
    have row2 := B2.row
    have q2 : Below base w w2 := (q1.mono hwb).trans (b2.mono hWb)
    have h2b : base ≤ w2.heap.size := by omega
    have HS2 := Lib.hid S2
    have HB2 := Lib.hid B2
    clear S2 B2 b2 hs2
    go_wp2_with (at_builtin; refine print_append_cells (w0 := w) base rfl _ _ 42 41 (.agg #[.pointer none, .string ⟨#[]⟩]) 2 24 rfl Tryd.underlying42 info41 rfl (by decide) (by decide) (.slice (some ⟨gr, 0, none⟩) N c) N (bookCs L N) [.pointer (some ⟨W.heap.size, 0, none⟩), .string ⟨#[]⟩] rfl rfl rfl (by simp [Value.oneCell']) row2 q2 h2b (by omega) ?_; intro v1 w3 HO HB3 hg3 hp3)
    go_ret2
    obtain ⟨gr', c', L', rfl, B'⟩ := HB2.out.append (s := ⟨#[]⟩) HS2.out hlt hWb hgW (Nat.zero_le _) HO hg3
    exact ⟨⟨gr', N + 1, c', L', rfl, Nat.le_refl _, B'.more (Nat.le_add_right _ _)⟩, HB3⟩
  · have hB := B1.out
    have hlt : ∀ j, j < N → (L j).1 < w.heap.size := hlt0
    have hi0 := hlt0 i hi
    have hsL := hB.size i hi
    have hgp : 0 < (L i).1 := Nat.lt_of_lt_of_le hb (hB.ge i hi)
    have hbl := bytesOf_length (L i).2
    have hbs := bytesOf_length s
    have hiN : (i : Int) < (N : Int) := by omega
    have HX : Hid (Bk 46 W w.heap.size #[.int .i64 k, .int .i64 h, .string s]) := by subst hW; exact Bk.new 46 w _
    have HWB := Lib.hid hB.base_le
    have hneg : gr ≠ (L i).1 := fun e => hB.ne i hi e.symm
    have H9 := Lib.hid (lent_any s W (by omega))
    have HWR : Hid (∀ w2 g, Tabs w2 → Hs w2 (L i).1 (bytesOf (L i).2) → In w2 (some ⟨g, 0, none⟩) s.size (s.size + 70) (bytesOf s) → (L i).1 ≠ g → Calls Tryd.prog 14 #[.pointer (some ⟨(L i).1, 0, none⟩), .slice (some ⟨g, 0, none⟩) s.size (s.size + 70)] w2 fun e w' => e = .returned (.int .i64 (((L i).2 ++ s).size : Int)) ∧ Hs w' (L i).1 (bytesOf ((L i).2 ++ s)) ∧ w2.grownBy w' (some (L i).1)) := fun w2 g T' S' hin hne => by
      have h1 := write_any (bytesOf (L i).2) (bytesOf s) (L i).1 (some ⟨g, 0, none⟩) s.size (s.size + 70) w2 T' S' hgp (hin.src (fun ad he => by injection he with he; subst he; exact fun e => hne e.symm)) hin.cap (by omega)
      rw [← bytes_joined, hbl, ← ByteArray.size_append] at h1
      exact h1
    have hadd := fun W : World => run_string_add_sum (P := Tryd.prog) W (L i).2 s (by omega)
    have hts : ((L i).2 ++ s).size ≤ M + s.size := by rw [ByteArray.size_append]; omega
    have HTS := Lib.hid hts
    have htm : ((L i).2 ++ s).size ≤ 9223372036854775807 := by omega
    clear x0 x1 hB hbl hts
    generalize (L i).2 ++ s = ts at *
    go_wp2_with fail
    refine H9.out.mono ?_
    rintro e w2 ⟨g, rfl, R2, hg2, b2⟩
    have HR2 := Lib.hid R2
    have HB2 := Lib.hid (B1.out.below b2)
    have HX2 := Lib.hid (HX.out.below b2)
    have q2 : Hid (Below base w w2) := (q1.mono hwb).trans (b2.mono HWB.out)
    have lp := HB2.out.ptr i hi
    have hgne : (L i).1 ≠ g := by omega
    have HIN := Lib.hid (R2.lent (by rw [hbs]; omega))
    have HT2 := Lib.hid (T1.out.below b2)
    have H14 := Lib.hid (HWR.out w2 g HT2.out (HB2.out.st i hi) (by have := HIN.out; rw [hbs] at this; exact this) hgne)
    clear x2 R2 b2 hbs H9 HX
    go_wp2_with fail
    refine H14.out.mono ?_
    rintro e w3 ⟨rfl, S3, G3⟩
    have hgrg : gr ≠ g := by have := HB2.out.lt; have := (B1.out).lt; omega
    have HGN : Hid (∀ j, j < N → (L j).1 ≠ g) := fun j hj => by have := hlt0 j hj; omega
    have HGB : Hid (base ≤ g) := by show base ≤ g; have := HWB.out; omega
    have HLL : Hid ((lentL (bytesOf s)).length = s.size + 70) := by show (lentL (bytesOf s)).length = s.size + 70; rw [lentL_length, bytesOf_length]
    have BX3 : Bk 46 w3 w.heap.size #[.int .i64 k, .int .i64 h, .string s] := HX2.out.other G3 (by omega)
    have x2 : w3.cell? ⟨w.heap.size, 2, none⟩ = some (.string s) := by rw [BX3.cell]; rfl
    have tx : w3.cell? ⟨gr, i * 2 + 1, none⟩ = some (.string (L i).2) := G3.cell (HB2.out.txt i hi) (fun e => hneg (by injection e))
    have fz : w3.frozen? ⟨gr, i * 2 + 1, none⟩ = false := (G3.frozen_far ⟨gr, i * 2 + 1, none⟩ HB2.out.lt (fun e => hneg (by injection e))).trans (HB2.out.frozen _)
    have R3 : Row5 w3 g (lentL (bytesOf s)) := HR2.out.other G3 (fun e => hgne e.symm)
    have HB4 : Hid (Books ((w3.setCell ⟨gr, i * 2 + 1, none⟩ (.string ts)).drew) base gr N c (M + s.size) (upd L i ((L i).1, ts))) := (HB2.out.write i hi ts G3 S3 (Nat.le_add_right _ _) HTS.out).below (keep_drew1 _)
    have HX4 : Hid (Bk 46 ((w3.setCell ⟨gr, i * 2 + 1, none⟩ (.string ts)).drew) w.heap.size #[.int .i64 k, .int .i64 h, .string s]) := (BX3.far (by show w.heap.size ≠ gr; omega) _).drew
    have HR4 : Hid (Row5 ((w3.setCell ⟨gr, i * 2 + 1, none⟩ (.string ts)).drew) g (lentL (bytesOf s))) := Bk.drew (Bk.far R3 (fun e => hgrg e.symm) _)
    have q3 : Below base w w3 := q2.out.trans (below_of_grown G3 (HB2.out.ge i hi) (HB2.out.base_le))
    have q4 : Hid (Below base w ((w3.setCell ⟨gr, i * 2 + 1, none⟩ (.string ts)).drew)) := (q3.setCell (by have := (B1.out).row_ge; exact this) _).drew
    clear lp HR2 HX2 HT2 H14 S3 G3 BX3 R3 q3 HIN
    go_wp2_with fail
    go_region
    generalize (w3.setCell ⟨gr, i * 2 + 1, none⟩ (.string ts)).drew = w4 at *
    have x2 : w4.cell? ⟨w.heap.size, 2, none⟩ = some (.string s) := by rw [HX4.out.cell]; rfl
    clear tx fz hadd
    go_wp2_with fail
    refine (still_any s g w4 (by omega) HR4.out).mono ?_
    rintro e _ ⟨rfl, rfl⟩
    clear x2
    go_wp2_with fail
    refine (over_any g (s.size + 70) _ w4 HR4.out HLL.out (by omega)).mono ?_
    rintro e w5 ⟨rfl, G5, hs5⟩
    have HB5 : Hid (Books w5 base gr N c (M + s.size) (upd L i ((L i).1, ts))) := HB4.out.other G5 hgrg (fun j hj => by rw [upd_fst]; exact HGN.out j hj)
    have q5 : Hid (Below base w w5) := q4.out.trans (below_of_grown G5 HGB.out HB4.out.base_le)
    have tx : w5.cell? ⟨gr, i * 2 + 1, none⟩ = some (.string ts) := by
      have := HB5.out.txt i hi
      rw [upd_here] at this
      exact this
    clear hs5 G5 HB4 HX4 HR4 q4
    go_wp2_with fail
    go_quiet (fail)
    clear tx
    go_wp2
    go_ret2
    exact ⟨⟨gr, N, c, _, by first | rfl | simp, Nat.le_succ _, HB5.out.below (keep_drew w5 nq)⟩, q5.out.trans ((keep_drew w5 nq).mono HB5.out.base_le)⟩
  · clear x0 x1 x2
    have kb := fun (t : ByteArray) (W : World) => print_bytes (P := Tryd.prog) 9 25 5 Tryd.underlying9 Tryd.underlying25 Tryd.underlying5 t W
    have hiN : (i : Int) < (N : Int) := by omega
    have hsL := (B1.out).size i hi
    have hgp : 0 < (L i).1 := Nat.lt_of_lt_of_le hb ((B1.out).ge i hi)
    have hbl := bytesOf_length (L i).2
    have HQS : Hid (∀ W', Below W.heap.size W W' → Calls Tryd.prog 15 #[.pointer (some ⟨(L i).1, 0, none⟩)] W' fun e w' => e = .returned (.agg (nums .u8 (shaF (bytesOf (L i).2))).toArray) ∧ Below W'.heap.size W' w') := fun W' hb' => sum_any _ _ W' (T1.out.below hb') ((B1.out.below hb').st i hi) hgp (by omega)
    have HQR : Hid (∀ W' A c', In W' A (L i).2.size c' (bytesOf (L i).2) → Calls Tryd.prog 8 #[.slice A (L i).2.size c'] W' fun e w' => e = .returned (.agg (nums .u8 (shaF (bytesOf (L i).2))).toArray) ∧ Below W'.heap.size W' w') := fun W' A c' hin => rsum_any _ A _ c' W' hin (by omega)
    have HEQ := Lib.hid (fun W => eq23 (shaF (bytesOf (L i).2)) (shaF_length _) W)
    have heq := HEQ.out
    have HBI := Lib.hid (fun W => bytes_in W (L i).2 (by omega))
    have HWB := Lib.hid (B1.out.base_le)
    generalize (nums .u8 (shaF (bytesOf (L i).2))).toArray = GA at *
    clear hbl
    go_wp2_with fail
    refine wp_region_held_drew (S := fun w' => Books w' base gr N c M L) (by kernel_rfl) ?_ (fun hHeld => ?_)
    · exact B1.out.below (keep_drew1 W)
    refine wpAnyH_take (i := 0) (v := .slice (some ⟨gr, 0, none⟩) N c) rfl (by kernel_rfl) (by kernel_rfl) (by kernel_rfl) (fun _ _ _ h => h) (Or.inl ⟨by kernel_rfl, fun W2 hSw => by go_simp⟩) (by assumption) ?_
    simp only [Act.put, List.getElem_toArray, List.getElem_cons_succ, List.getElem_cons_zero, List.setIfInBounds_toArray, List.set_cons_zero, List.set_cons_succ]
    refine wpAnyH_take (i := 1) (v := .slice (some ⟨gr, 0, none⟩) N c) rfl (by kernel_rfl) (by kernel_rfl) (by kernel_rfl) (fun _ _ _ h => h) (Or.inl ⟨by kernel_rfl, fun W2 hSw => by go_simp⟩) (by assumption) ?_
    simp only [Act.put, List.getElem_toArray, List.getElem_cons_succ, List.getElem_cons_zero, List.setIfInBounds_toArray, List.set_cons_zero, List.set_cons_succ]
    refine wpAnyH_take (i := 2) (v := .int .i64 (i : Int)) rfl (by kernel_rfl) (by kernel_rfl) (by kernel_rfl) (fun _ _ _ h => h) (Or.inl ⟨by kernel_rfl, fun W2 hSw => by go_simp⟩) (by assumption) ?_
    simp only [Act.put, List.getElem_toArray, List.getElem_cons_succ, List.getElem_cons_zero, List.setIfInBounds_toArray, List.set_cons_zero, List.set_cons_succ]
    refine wpAnyH_take (i := 3) (v := .pointer (some ⟨gr, i * 2, none⟩)) rfl (by kernel_rfl) (by kernel_rfl) (by kernel_rfl) (fun _ _ _ h => h) (Or.inl ⟨by kernel_rfl, fun W2 hSw => by go_simp⟩) (by assumption) ?_
    simp only [Act.put, List.getElem_toArray, List.getElem_cons_succ, List.getElem_cons_zero, List.setIfInBounds_toArray, List.set_cons_zero, List.set_cons_succ]
    refine wpAnyH_take (i := 4) (v := .pointer (some ⟨gr, i * 2, none⟩)) rfl (by kernel_rfl) (by kernel_rfl) (by kernel_rfl) (fun _ _ _ h => h) (Or.inl ⟨by kernel_rfl, fun W2 hSw => by go_simp⟩) (by assumption) ?_
    simp only [Act.put, List.getElem_toArray, List.getElem_cons_succ, List.getElem_cons_zero, List.setIfInBounds_toArray, List.set_cons_zero, List.set_cons_succ]
    refine wpAnyH_take (i := 5) (v := .pointer (some ⟨(L i).1, 0, none⟩)) rfl (by kernel_rfl) (by kernel_rfl) (by kernel_rfl) (fun _ _ _ h => h) (Or.inl ⟨by kernel_rfl, fun W2 hSw => by have hl := hSw.ptr i hi; go_simp⟩) (by assumption) ?_
    simp only [Act.put, List.getElem_toArray, List.getElem_cons_succ, List.getElem_cons_zero, List.setIfInBounds_toArray, List.set_cons_zero, List.set_cons_succ]
    refine wpAnyH_take (i := 7) (v := .slice (some ⟨gr, 0, none⟩) N c) rfl (by kernel_rfl) (by kernel_rfl) (by kernel_rfl) (fun _ _ _ h => h) (Or.inl ⟨by kernel_rfl, fun W2 hSw => by go_simp⟩) (by assumption) ?_
    simp only [Act.put, List.getElem_toArray, List.getElem_cons_succ, List.getElem_cons_zero, List.setIfInBounds_toArray, List.set_cons_zero, List.set_cons_succ]
    refine wpAnyH_take (i := 8) (v := .int .i64 (i : Int)) rfl (by kernel_rfl) (by kernel_rfl) (by kernel_rfl) (fun _ _ _ h => h) (Or.inl ⟨by kernel_rfl, fun W2 hSw => by go_simp⟩) (by assumption) ?_
    simp only [Act.put, List.getElem_toArray, List.getElem_cons_succ, List.getElem_cons_zero, List.setIfInBounds_toArray, List.set_cons_zero, List.set_cons_succ]
    refine wpAnyH_take (i := 9) (v := .pointer (some ⟨gr, i * 2, none⟩)) rfl (by kernel_rfl) (by kernel_rfl) (by kernel_rfl) (fun _ _ _ h => h) (Or.inl ⟨by kernel_rfl, fun W2 hSw => by go_simp⟩) (by assumption) ?_
    simp only [Act.put, List.getElem_toArray, List.getElem_cons_succ, List.getElem_cons_zero, List.setIfInBounds_toArray, List.set_cons_zero, List.set_cons_succ]
    refine wpAnyH_take (i := 10) (v := .pointer (some ⟨gr, i * 2 + 1, none⟩)) rfl (by kernel_rfl) (by kernel_rfl) (by kernel_rfl) (fun _ _ _ h => h) (Or.inl ⟨by kernel_rfl, fun W2 hSw => by go_simp⟩) (by assumption) ?_
    simp only [Act.put, List.getElem_toArray, List.getElem_cons_succ, List.getElem_cons_zero, List.setIfInBounds_toArray, List.set_cons_zero, List.set_cons_succ]
    refine wpAnyH_take (i := 11) (v := .string (L i).2) rfl (by kernel_rfl) (by kernel_rfl) (by kernel_rfl) (fun _ _ _ h => h) (Or.inl ⟨by kernel_rfl, fun W2 hSw => by have hl := hSw.txt i hi; go_simp⟩) (by assumption) ?_
    simp only [Act.put, List.getElem_toArray, List.getElem_cons_succ, List.getElem_cons_zero, List.setIfInBounds_toArray, List.set_cons_zero, List.set_cons_succ]
    refine wpAnyH_ready (rs := [6, 12]) (by kernel_rfl) (by simp) ?_
    refine AllReadyH.cons rfl (fun K hK => ?_) (AllReadyH.cons rfl (fun K hK => ?_) AllReadyH.nil)
    · go_simp
      go_at_call 15
      refine (HQS.out _ (keep_drew1 W)).mono ?_
      rintro e ws ⟨rfl, bs⟩
      have BS : Below W.heap.size W ws := keep_call bs (keep_drew1 W)
      go_wp2_with fail
      refine hK.out _ _ ?_ (fun hHeld => ?_)
      · exact B1.out.below BS
      clear hK K
      try simp only [Act.put, List.setIfInBounds_toArray, List.set_cons_zero, List.set_cons_succ]
      refine wpAnyH_ready (rs := [12]) (by kernel_rfl) (by simp) ?_
      refine AllReadyH.cons rfl (fun K hK => ?_) AllReadyH.nil
      go_simp
      refine hK.out _ _ ?_ (fun hHeld => ?_)
      · exact B1.out.below (keep_bytes BS (L i).2)
      clear hK K
      try simp only [Act.put, List.setIfInBounds_toArray, List.set_cons_zero, List.set_cons_succ]
      refine wpAnyH_ready (rs := [13]) (by kernel_rfl) (by simp) ?_
      refine AllReadyH.cons rfl (fun K hK => ?_) AllReadyH.nil
      go_simp
      go_at_call 8
      refine (HQR.out _ _ _ (HBI.out _)).mono ?_
      rintro e wr ⟨rfl, br⟩
      have BR : Below W.heap.size W wr := keep_call br (keep_bytes BS (L i).2)
      go_wp2_with fail
      refine hK.out _ _ ?_ (fun hHeld => ?_)
      · exact B1.out.below BR
      clear hK K
      try simp only [Act.put, List.setIfInBounds_toArray, List.set_cons_zero, List.set_cons_succ]
      refine wpAnyH_take (i := 14) (v := .bool true) rfl (by kernel_rfl) (by kernel_rfl) (by kernel_rfl) (fun _ _ _ h => h) (Or.inl ⟨by kernel_rfl, fun W2 hSw => by go_simp⟩) (by assumption) ?_
      simp only [Act.put, List.getElem_toArray, List.getElem_cons_succ, List.getElem_cons_zero, List.setIfInBounds_toArray, List.set_cons_zero, List.set_cons_succ]
      refine wpAnyH_take (i := 15) (v := .slice (some ⟨gr, 0, none⟩) N c) rfl (by kernel_rfl) (by kernel_rfl) (by kernel_rfl) (fun _ _ _ h => h) (Or.inl ⟨by kernel_rfl, fun W2 hSw => by go_simp⟩) (by assumption) ?_
      simp only [Act.put, List.getElem_toArray, List.getElem_cons_succ, List.getElem_cons_zero, List.setIfInBounds_toArray, List.set_cons_zero, List.set_cons_succ]
      refine wpAnyH_take (i := 16) (v := .bool true) rfl (by kernel_rfl) (by kernel_rfl) (by kernel_rfl) (fun _ _ _ h => h) (Or.inl ⟨by kernel_rfl, fun W2 hSw => by go_simp⟩) (by assumption) ?_
      simp only [Act.put, List.getElem_toArray, List.getElem_cons_succ, List.getElem_cons_zero, List.setIfInBounds_toArray, List.set_cons_zero, List.set_cons_succ]
      refine wpAnyH_done (by kernel_rfl) ?_ _
      clear heq HQS HQR HEQ HBI kb
      go_wp2
      go_ret2
      exact ⟨⟨gr, N, c, L, by first | rfl | simp, Nat.le_succ _, (B1.out.below BR).more (Nat.le_add_right _ _)⟩, (q1.mono hwb).trans (BR.mono HWB.out)⟩
    · go_simp
      refine hK.out _ _ ?_ (fun hHeld => ?_)
      · exact B1.out.below (keep_bytes (keep_drew1 W) (L i).2)
      clear hK K
      try simp only [Act.put, List.setIfInBounds_toArray, List.set_cons_zero, List.set_cons_succ]
      refine wpAnyH_ready (rs := [6]) (by kernel_rfl) (by simp) ?_
      refine AllReadyH.cons rfl (fun K hK => ?_) AllReadyH.nil
      go_simp
      go_at_call 15
      refine (HQS.out _ (keep_bytes (keep_drew1 W) (L i).2)).mono ?_
      rintro e ws ⟨rfl, bs⟩
      have BS : Below W.heap.size W ws := keep_call bs (keep_bytes (keep_drew1 W) (L i).2)
      have HIN := (HBI.out W.drew).below bs
      go_wp2_with fail
      refine hK.out _ _ ?_ (fun hHeld => ?_)
      · exact B1.out.below BS
      clear hK K
      try simp only [Act.put, List.setIfInBounds_toArray, List.set_cons_zero, List.set_cons_succ]
      refine wpAnyH_ready (rs := [13]) (by kernel_rfl) (by simp) ?_
      refine AllReadyH.cons rfl (fun K hK => ?_) AllReadyH.nil
      go_simp
      go_at_call 8
      refine (HQR.out _ _ _ HIN).mono ?_
      rintro e wr ⟨rfl, br⟩
      have BR : Below W.heap.size W wr := keep_call br BS
      go_wp2_with fail
      refine hK.out _ _ ?_ (fun hHeld => ?_)
      · exact B1.out.below BR
      clear hK K
      try simp only [Act.put, List.setIfInBounds_toArray, List.set_cons_zero, List.set_cons_succ]
      refine wpAnyH_take (i := 14) (v := .bool true) rfl (by kernel_rfl) (by kernel_rfl) (by kernel_rfl) (fun _ _ _ h => h) (Or.inl ⟨by kernel_rfl, fun W2 hSw => by go_simp⟩) (by assumption) ?_
      simp only [Act.put, List.getElem_toArray, List.getElem_cons_succ, List.getElem_cons_zero, List.setIfInBounds_toArray, List.set_cons_zero, List.set_cons_succ]
      refine wpAnyH_take (i := 15) (v := .slice (some ⟨gr, 0, none⟩) N c) rfl (by kernel_rfl) (by kernel_rfl) (by kernel_rfl) (fun _ _ _ h => h) (Or.inl ⟨by kernel_rfl, fun W2 hSw => by go_simp⟩) (by assumption) ?_
      simp only [Act.put, List.getElem_toArray, List.getElem_cons_succ, List.getElem_cons_zero, List.setIfInBounds_toArray, List.set_cons_zero, List.set_cons_succ]
      refine wpAnyH_take (i := 16) (v := .bool true) rfl (by kernel_rfl) (by kernel_rfl) (by kernel_rfl) (fun _ _ _ h => h) (Or.inl ⟨by kernel_rfl, fun W2 hSw => by go_simp⟩) (by assumption) ?_
      simp only [Act.put, List.getElem_toArray, List.getElem_cons_succ, List.getElem_cons_zero, List.setIfInBounds_toArray, List.set_cons_zero, List.set_cons_succ]
      refine wpAnyH_done (by kernel_rfl) ?_ _
      clear heq HQS HQR HEQ HBI kb
      go_wp2
      go_ret2
      exact ⟨⟨gr, N, c, L, by first | rfl | simp, Nat.le_succ _, (B1.out.below BR).more (Nat.le_add_right _ _)⟩, (q1.mono hwb).trans (BR.mono HWB.out)⟩
  · clear x0 x1 x2 T1
    have hB := B1.out
    have lp := hB.ptr i hi
    have SP := Lib.hid (hB.st i hi)
    have hlt : ∀ j, j < N → (L j).1 < W.heap.size := fun j hj => (hB.st j hj).lt
    have hgW : gr < W.heap.size := hB.lt
    have hWb : base ≤ W.heap.size := hB.base_le
    have hsL := hB.size i hi
    have hiN : (i : Int) < (N : Int) := by omega
    clear hB
    go_wp2_with fail
    refine (copy_any (bytesOf (L i).2) (L i).1 W SP.out).mono ?_
    rintro e w2 ⟨rfl, S2, b2, hs2⟩
    have B2 := B1.out.below b2
    have row2 := B2.row
    have lt2 := B2.txt i hi
    have q2 : Below base w w2 := (q1.mono hwb).trans (b2.mono hWb)
    have h2b : base ≤ w2.heap.size := by omega
    have HS2 := Lib.hid S2
    have HB2 := Lib.hid B2
    clear S2 B2 b2 lp SP hs2
    go_wp2_with (at_builtin; refine print_append_cells (w0 := w) base rfl _ _ 42 41 (.agg #[.pointer none, .string ⟨#[]⟩]) 2 24 rfl Tryd.underlying42 info41 rfl (by decide) (by decide) (.slice (some ⟨gr, 0, none⟩) N c) N (bookCs L N) [.pointer (some ⟨W.heap.size, 0, none⟩), .string (L i).2] rfl rfl rfl (by simp [Value.oneCell']) row2 q2 h2b (by omega) ?_; intro v1 w3 HO HB3 hg3 hp3)
    go_ret2
    obtain ⟨gr', c', L', rfl, B'⟩ := HB2.out.append (s := (L i).2) HS2.out hlt hWb hgW hsL HO hg3
    exact ⟨⟨gr', N + 1, c', L', rfl, Nat.le_refl _, B'.more (Nat.le_add_right _ _)⟩, HB3⟩
end Go.Proofs.YtikoahjnhdnhdaaDoor
