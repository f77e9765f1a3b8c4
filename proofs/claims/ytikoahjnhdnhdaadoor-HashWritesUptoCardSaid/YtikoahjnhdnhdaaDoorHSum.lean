/- CONTRACT of hash.Sum: the digest of the bytes that are read. -/
import Derived.Test.YtikoahjnhdnhdaaDoorSum
namespace Go.Proofs.YtikoahjnhdnhdaaDoor
open Go.ChangeShapes Go.WideShapes Go.ChangeAt Go.RowKit Go.Proofs.YtikoahjnhdnhdaaDoorW.PrintWords Go.Deep
set_option linter.unusedVariables false
set_option linter.unusedSimpArgs false

/-- Bytes that are read, out of a block that is there. -/
structure In (w : World) (A : Option Addr) (n c : Nat) (bs : List Int) : Prop where
  reads : ReadsInt w .u8 A n bs
  low : ∀ ad, A = some ad → ad.block < w.heap.size
  cap : n ≤ c
theorem In.below {w w1 : World} {A : Option Addr} {n c : Nat} {bs : List Int} (h : In w A n c bs) (hb : Below w.heap.size w w1) : In w1 A n c bs := ⟨h.reads.below hb, fun ad he => Nat.lt_of_lt_of_le (h.low ad he) hb.size, h.cap⟩
theorem In.src {w : World} {g : Nat} {A : Option Addr} {n c : Nat} {bs : List Int} (h : In w A n c bs) (hg : ∀ ad, A = some ad → ad.block ≠ g) : Src w g A n bs := ⟨h.reads, hg⟩
theorem In.nil (w : World) : In w none 0 0 [] := ⟨⟨rfl, by omega, fun h => absurd h (by omega)⟩, (fun ad he => by cases he), Nat.le_refl _⟩

attribute [local go_sem ↓] loadAt_23 storeAt_23 alloc_23
attribute [local go_sem] run_alloc23

set_option maxHeartbeats 2000000 in
theorem hsum_any (bs : List Int) (A : Option Addr) (n c : Nat) (w : World) (T : Tabs w) (B : In w A n c bs) (hmax : n ≤ 1152921504606846976) :
    Calls Tryd.prog 7 #[.slice A n c] w fun e w' => e = .returned (.agg (nums .u8 (shaF bs)).toArray) ∧ Below w.heap.size w w' := by
  have q1 : Below w.heap.size w (w.alloc (.cells z23 23)) := (Below.refl _ _).alloc (Nat.le_refl _) _
  have R1 : Bk 23 (w.alloc (.cells z23 23)) w.heap.size z23 := Bk.new 23 w z23
  have h12 := new_any (w.alloc (.cells z23 23))
  have HB := Lib.hid B
  have HT := Lib.hid T
  have HR := Lib.hid R1
  have H12 := Lib.hid h12
  have hbl := B.reads.1
  have HBL := Lib.hid hbl
  clear B T R1 h12 hbl
  go_enter Tryd.func7, Tryd.ntmps7
  go_wp2_with fail
  refine H12.out.mono ?_
  rintro e w2 ⟨rfl, S2, b2, hs2⟩
  have S2' : Hs w2 (w.heap.size + 1) [] := by simpa using S2
  have q2 : Below w.heap.size w w2 := q1.trans (b2.mono (by simp))
  have hz2 : w.heap.size + 1 < w2.heap.size := S2'.lt
  have h14 := write_any [] bs (w.heap.size + 1) A n c w2 (HT.out.below q2) S2' (by omega) ((HB.out.below q2).src fun ad he => by have := HB.out.low ad he; omega) HB.out.cap (by simp; omega)
  rw [List.nil_append] at h14
  have H14 := Lib.hid h14
  have HR2 := Lib.hid (HR.out.below b2)
  clear S2 S2' b2 hs2 h14 H12
  go_wp2_with fail
  refine H14.out.mono ?_
  rintro e w3 ⟨rfl, S3, G3⟩
  have q3 : Below w.heap.size w w3 := q2.grown G3 q2.size (fun j hj => by injection hj with hj; omega)
  have s3 := G3.size
  have h15 := sum_any bs (w.heap.size + 1) w3 (HT.out.below q3) S3 (by omega) (by rw [HBL.out]; exact hmax)
  have H15 := Lib.hid h15
  have HR3 := Lib.hid (HR2.out.other G3 (by omega))
  clear S3 G3 h15 H14
  go_wp2_with fail
  refine H15.out.mono ?_
  rintro e w4 ⟨rfl, b4⟩
  have q4 : Below w.heap.size w w4 := q3.trans (b4.mono q3.size)
  have R4 := HR3.out.below b4
  have s4 := b4.size
  have hl32 : (nums .u8 (shaF bs)).toArray.size = 32 := by simp [nums, shaF_length]
  obtain ⟨w7, hst7, V7, g7, hs7⟩ := R4.store_whole (ty := 23) (nums .u8 (shaF bs)).toArray (by rw [hl32, z23_size]) (by rw [hl32]; exact size23) (nums_one .u8 _)
  have hst8 : (store23 (.pointer (some ⟨w.heap.size, 0, none⟩)) (.agg (nums .u8 (shaF bs)).toArray)).run Tryd.prog w4 = .ok () w7 := hst7
  have q7 : Below w.heap.size w w7 := q4.trans (below_of_grown g7 (Nat.le_refl _) (by omega))
  have HV7 := Lib.hid V7
  have HL32 := Lib.hid hl32
  generalize hGR : (nums .u8 (shaF bs)).toArray = GR at *
  have HGR := Lib.hid hGR
  clear hst7 V7 g7 hs7 R4 hGR hl32 b4 H15
  go_wp2_with fail
  exact bodyPost_ret (v := .agg GR) (results_cell_row Tryd.results7 _ _ w.heap.size 23 GR (0, 0) _ rfl HV7.out Tryd.underlying23 rfl (by rw [HL32.out]; exact size23)) rfl ⟨by rw [HGR.out], q7⟩
end Go.Proofs.YtikoahjnhdnhdaaDoor
