/- THE WALK of 'scruplelaw08.CodeTakes': it returns true for all bytes and all places, over a world that holds the operations' table. -/
import Derived.Test.YthpfndbhibbkmaaDoorTakeRef
import Derived.Test.YthpfndbhibbkmaaDoorShown
import Derived.Test.YthpfndbhibbkmaaDoorOpenB
namespace Go.Proofs.YthpfndbhibbkmaaDoor.codeTakes
open Go.ChangeShapes Go.WideShapes Go.ChangeAt Go.RowKit Go.Proofs.YthpfndbhibbkmaaDoorW.PrintWords Go.Proofs.YthpfndbhibbkmaaDoor
set_option linter.unusedVariables false
set_option linter.unusedSimpArgs false

set_option maxRecDepth 100000 in
set_option maxHeartbeats 1000000 in
theorem good (a : Option Addr) (n c : Nat) (bs : List Int) (a2 : Option Addr) (len cap b2 o2 : Nat) (zs : List Int) (w : World) (T : Tabs w) (B : BytesIn w a n c bs) (h : At1 w a2 len b2 o2 (fun i => .int .i64 (zs.getD i 0))) (hz : ∀ n ∈ zs, (Lit.int .i64 n).wf = true) (hm : len * 8 ≤ 140737488351232) :
    Calls Tryd.prog 7 #[.slice a n c, .slice a2 len cap] w fun e w' => e = .returned (.bool true) ∧ Below w.heap.size w w' := by
  have H := Lib.hid h
  have HB := Lib.hid B
  clear h B
  go_enter Tryd.func7, Tryd.ntmps7
  go_wp2_with fail
  go_loopw [5] (fun i wr => ∃ k : Nat, k ≤ len ∧ i = .int .i64 k ∧ Below w.heap.size w wr) (fun i _ => len - (intOf i).toNat)
  case atStart => exact ⟨0, by omega, rfl, Below.refl _ _⟩
  case round =>
    obtain ⟨k, hk, rfl, hB⟩ := hrel
    by_cases hlt : k < len
    · obtain ⟨ha, hbw⟩ := H.out.1 (by omega)
      subst ha
      have hc := (hB.cell (p := ⟨b2, o2 + k, none⟩) hbw).trans (H.out.2 k hlt)
      simp only at hc
      generalize zs.getD k 0 = z at *
      have hbs := hB.size
      have BW := HB.out.under hB
      go_wp2_with fail
      refine (lent_any a n c bs wr BW.toBytesArg).mono ?_
      rintro e w1 ⟨g, rfl, L⟩
      have hb1 := L.below
      have BR : BytesIn w1 (some ⟨g, 0, none⟩) n (n + 40) bs := by
        have h1 := L.row.reads n (by rw [lentL_length, BW.len]; omega) (by have := BW.max; omega)
        have h2 : (lentL bs).take n = bs := by
          unfold lentL
          rw [List.take_append_of_le_length (by rw [BW.len]; omega), List.take_of_length_le (by rw [BW.len]; omega)]
        rw [h2] at h1
        exact ⟨⟨h1, BW.max, (fun h => by cases h), by omega⟩, BW.byte⟩
      have HL := Lib.hid L
      have HBR := Lib.hid BR
      clear L BR
      have hs1 := hb1.size
      have hc1 : w1.cell? ⟨b2, o2 + k, none⟩ = some (.int .i64 z) := (hb1.cell (p := ⟨b2, o2 + k, none⟩) (show b2 < wr.heap.size by omega)).trans hc
      have hbw1 : b2 < w1.heap.size := by omega
      go_wp2_with fail
      refine (take_any _ _ _ z bs w1 ((T.below hB).below hb1) HBR.out).mono ?_
      rintro e w2 ⟨rfl, hb2⟩
      have hs2 := hb2.size
      have hbw2 : b2 < w2.heap.size := by omega
      have hc2 : w2.cell? ⟨b2, o2 + k, none⟩ = some (.int .i64 z) := (hb2.cell (p := ⟨b2, o2 + k, none⟩) (show b2 < w1.heap.size by omega)).trans hc1
      have h24 := fun (w' : World) (B' : BytesIn w' a n c bs) => rtake_any a n c z bs w' B'
      have h23 : Hid (takeR bs z = takeR bs z) := rfl
      unfold takeV at h24 ⊢
      generalize takeR bs z = r at *
      obtain ⟨op, A, nx, er⟩ := r
      simp only at h24 ⊢
      have H24 := Lib.hid h24
      clear h24 h23
      have q2 : Below w.heap.size w w2 := (hB.trans (hb1.mono hbs)).trans (hb2.mono (by omega))
      have q2x := q2.alloc q2.size (.cells #[.int .i64 op, .int .i64 A] 41)
      go_wp2_with fail
      refine (H24.out _ (HB.out.under q2x)).mono ?_
      rintro e w3 ⟨rfl, hb3⟩
      clear H24
      have hs3 : w2.heap.size < w3.heap.size := by have := hb3.size; simp at this; omega
      have hbw3 : b2 < w3.heap.size := by omega
      obtain ⟨gc, gf⟩ := bcell hb3
      have x0 : w3.cell? ⟨w2.heap.size, 0, none⟩ = some (.int .i64 op) := by rw [gc _ _ (by simp)]; go_simp
      have x1 : w3.cell? ⟨w2.heap.size, 1, none⟩ = some (.int .i64 A) := by rw [gc _ _ (by simp)]; go_simp
      clear gc gf
      have q3 : Below w.heap.size w w3 := q2x.trans (hb3.mono (by have := q2.size; simp; omega))
      have q3x := q3.alloc q3.size (.cells #[.int .i64 op, .int .i64 A] 41)
      have R3 : Row5 (w3.alloc (.cells #[.int .i64 op, .int .i64 A] 41)) g (lentL bs) := by
        have r2 := HL.out.row.below hb2
        have r2x := r2.below ((Below.refl _ _).alloc (Nat.le_refl _) (.cells #[.int .i64 op, .int .i64 A] 41))
        have r3 := r2x.below hb3
        exact r3.below ((Below.refl _ _).alloc (Nat.le_refl _) _)
      have HR3 := Lib.hid R3
      clear R3
      go_wp2_with fail
      refine (still_any a n c g bs _ (HB.out.under q3x).toBytesArg HR3.out).mono ?_
      rintro e w4 ⟨rfl, hb4⟩
      have hs4 : w3.heap.size < w4.heap.size := by have := hb4.size; simp at this; omega
      obtain ⟨gc, gf⟩ := bcell hb4
      have y0 : w4.cell? ⟨w2.heap.size, 0, none⟩ = some (.int .i64 op) := by rw [gc _ _ (by simp; omega)]; go_cell
      have y1 : w4.cell? ⟨w2.heap.size, 1, none⟩ = some (.int .i64 A) := by rw [gc _ _ (by simp; omega)]; go_cell
      have y2 : w4.cell? ⟨w3.heap.size, 0, none⟩ = some (.int .i64 op) := by rw [gc _ _ (by simp)]; go_simp
      have y3 : w4.cell? ⟨w3.heap.size, 1, none⟩ = some (.int .i64 A) := by rw [gc _ _ (by simp)]; go_simp
      clear gc gf
      have q4 : Below w.heap.size w w4 := q3x.trans (hb4.mono (by have := q3.size; simp; omega))
      clear hc hc1 hc2 x0 x1 HR3 q3x q3 q2x q2 hb1 hb2 hb3 hb4 HL HBR
      go_wp2_with fail
      go_roundw
      case rel => exact ⟨k + 1, by omega, by go_num, q4⟩
      case measure => simp [intOf]; omega
    · clear H
      have BW := HB.out.under hB
      have TR := T.below hB
      have h23 := take_any a n c (-1) bs wr TR BW
      have e : takeR bs (-1) = (0, 0, -1, 82) := by unfold takeR; rw [if_pos (by omega)]
      rw [e] at h23
      unfold takeV at h23
      simp only at h23
      have H23 := Lib.hid h23
      clear h23 e
      go_wp2_with fail
      refine H23.out.mono ?_
      rintro e w1 ⟨rfl, hb1⟩
      have q1 := hB.trans (hb1.mono hB.size)
      have q1x := q1.alloc q1.size (.cells #[.int .i64 0, .int .i64 0] 41)
      have hp1 := shown_any (w1.alloc (.cells #[.int .i64 0, .int .i64 0] 41)) (T.below q1x)
      have HP := Lib.hid hp1
      clear hp1 H23
      go_wp2_with fail
      refine HP.out.mono ?_
      rintro e w2 ⟨rfl, hb2⟩
      have hs2 : w1.heap.size < w2.heap.size := by have := hb2.size; simp at this; omega
      obtain ⟨gc, gf⟩ := bcell hb2
      have y2 : w2.cell? ⟨w1.heap.size, 0, none⟩ = some (.int .i64 0) := by rw [gc _ _ (by simp)]; go_simp
      have y3 : w2.cell? ⟨w1.heap.size, 1, none⟩ = some (.int .i64 0) := by rw [gc _ _ (by simp)]; go_simp
      have q2 := q1x.trans (hb2.mono (by have := q1.size; simp; omega))
      clear gc gf HP hb1 hb2 q1 q1x
      go_wp2_with fail
      go_ret
      exact ⟨rfl, q2⟩

theorem walk {w : World} (a : Option Addr) (n c : Nat) (bs : List Int) (B : BytesIn w a n c bs) (a2 : Option Addr) (len cap b2 o2 : Nat) (zs : List Int) (h : At1 w a2 len b2 o2 (fun i => .int .i64 (zs.getD i 0))) (hz : ∀ n ∈ zs, (Lit.int .i64 n).wf = true) (hm : len * 8 ≤ 140737488351232) (T : Tabs w) :
    Calls Tryd.prog 7 #[.slice a n c, .slice a2 len cap] w fun e w' => e = .returned (.bool true) ∧ Below w.heap.size w w' := good a n c bs a2 len cap b2 o2 zs w T B h hz hm
end Go.Proofs.YthpfndbhibbkmaaDoor.codeTakes
