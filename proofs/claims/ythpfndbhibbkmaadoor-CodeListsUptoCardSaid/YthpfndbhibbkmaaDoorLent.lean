/- CONTRACTS of scruplelaw08.lent and still. Condition: the bytes read as they are said to, and their length is no more than 2^47 or so. -/
import Derived.Test.YthpfndbhibbkmaaDoorPutB
import Derived.Laws.CopyRow
import Derived.Laws.CopyOwn
import Derived.BigRegion
import Derived.Deep.QuietTactic
import Derived.BigQuiet
namespace Go.Proofs.YthpfndbhibbkmaaDoor
open Go.ChangeShapes Go.WideShapes Go.ChangeAt Go.RowKit Go.Proofs.YthpfndbhibbkmaaDoorW.PrintWords
set_option linter.unusedVariables false
set_option linter.unusedSimpArgs false

/-- The block g holds just these bytes. -/
def Row5 (w : World) (g : Nat) (xs : List Int) : Prop := w.heap[g]? = some (.cells (nums .u8 xs).toArray 5 (0, 0))
theorem Row5.below {w w1 : World} {g : Nat} {xs : List Int} (h : Row5 w g xs) (hb : Below w.heap.size w w1) : Row5 w1 g xs := (hb.block g (Array.getElem?_eq_some_iff.1 h).1).trans h
theorem Row5.lt {w : World} {g : Nat} {xs : List Int} (h : Row5 w g xs) : g < w.heap.size := (Array.getElem?_eq_some_iff.1 h).1
theorem Row5.cell {w : World} {g : Nat} {xs : List Int} (h : Row5 w g xs) (i : Nat) (hi : i < xs.length) : w.cell? ⟨g, i, none⟩ = some (.int .u8 (xs.getD i 0)) := by
  rw [cell_of_row w g i _ _ _ h]
  simp [nums, List.getD_eq_getElem?_getD, hi]
theorem Row5.frozen {w : World} {g : Nat} {xs : List Int} (h : Row5 w g xs) (i : Nat) : w.frozen? ⟨g, i, none⟩ = false := blk_frozen h i
theorem Row5.put {w : World} {g : Nat} {xs : List Int} (h : Row5 w g xs) (i : Nat) (x : Int) : Row5 (w.setCell ⟨g, i, none⟩ (.int .u8 x)) g (xs.set i x) := by
  have := blk_set h i (.int .u8 x)
  have e : (nums .u8 xs).toArray.setIfInBounds i (.int .u8 x) = (nums .u8 (xs.set i x)).toArray := by simp [nums, List.map_set]
  rw [e] at this
  exact this
theorem Row5.reads {w : World} {g : Nat} {xs : List Int} (h : Row5 w g xs) (n : Nat) (hn : n ≤ xs.length) (hm : n ≤ 9223372036854775807) : ReadsInt w .u8 (some ⟨g, 0, none⟩) n (xs.take n) := by
  refine ⟨by rw [List.length_take]; omega, hm, fun _ => ⟨_, rfl, fun j hj => ?_⟩⟩
  rw [Go.WideShapes.add_plain, Nat.zero_add, h.cell j (by omega)]
  simp [List.getD_eq_getElem?_getD, List.getElem?_take, hj]

theorem size5 : (Tryd.prog.info? 5).map (·.size) = some 1 := by kernel_rfl

/-- copy onto a block of one's own. -/
theorem copy_any (w : World) (g : Nat) (cur : List Int) (a : Option Addr) (n c : Nat) (bs : List Int) (hr : ReadsInt w .u8 a n bs) (hg : Row5 w g cur) (hfit : n ≤ cur.length) :
    ∃ w1, (∀ ty, (Builtin.copy_ #[34, 34] ty #[.slice (some ⟨g, 0, none⟩) cur.length cur.length, .slice a n c]).run Tryd.prog w = .ok (goInt (n : Int)) w1) ∧ Row5 w1 g (bs ++ cur.drop n) ∧ (∀ B, B ≤ g → Below B w w1) ∧ w1.heap.size = w.heap.size := by
  have hl := hr.1
  rcases Nat.eq_zero_or_pos n with h0 | hp
  · subst h0
    obtain rfl : bs = [] := List.eq_nil_of_length_eq_zero hl
    refine ⟨w, fun ty => ?_, hg, fun B _ => Below.refl _ _, rfl⟩
    have := run_copy_none (P := Tryd.prog) w 34 34 ty 5 (some ⟨g, 0, none⟩) a cur.length cur.length 0 c Tryd.underlying34 size5 (by simp)
    exact this
  · obtain ⟨ad, rfl, hc⟩ := hr.2.2 hp
    refine ⟨_, fun ty => ?_, setRow_heap w g _ (nums .u8 (bs ++ cur.drop n)).toArray 5 (0, 0) hg, fun B hB => below_setRow (Below.refl _ _) hB _, size_setRow _ _ _⟩
    have := run_copy_row (P := Tryd.prog) w 34 34 ty 5 g 0 cur.length cur.length ad n c (nums .u8 cur).toArray 5 (nums .u8 bs) Tryd.underlying34 size5 hg (by rw [nums_length, hl]; show n = min n cur.length; omega)
      (fun j v hv => by
        have hj : j < bs.length := by
          have := (List.getElem?_eq_some_iff.1 hv).1
          rwa [nums_length] at this
        rw [hc j (by omega), ← hv]
        simp [nums, List.getD_eq_getElem?_getD, hj]) (by simp [nums]; omega) (by intro v hv; simp [nums] at hv; obtain ⟨x, _, rfl⟩ := hv; rfl)
    rw [this, nums_length, hl]
    have e : ((nums .u8 cur).toArray.toList.take 0 ++ nums .u8 bs ++ (nums .u8 cur).toArray.toList.drop (0 + n)).toArray = (nums .u8 (bs ++ cur.drop n)).toArray := by
      simp [nums, List.map_drop]
    rw [e]

/-- What lies behind lent bytes. -/
def fillB (n k : Nat) : List Int := (List.range k).map fun i => 100 + ((n + i : Nat) : Int) % 50
def lentL (bs : List Int) : List Int := bs ++ fillB bs.length 40
theorem lentL_length (bs : List Int) : (lentL bs).length = bs.length + 40 := by simp [lentL, fillB]
theorem fill_step (bs : List Int) (k : Nat) (hk : k < 40) : (bs ++ (fillB bs.length k ++ List.replicate (40 - k) 0)).set (bs.length + k) (100 + ((bs.length + k : Nat) : Int) % 50) = bs ++ (fillB bs.length (k + 1) ++ List.replicate (40 - (k + 1)) 0) := by
  have h1 : (fillB bs.length k).length = k := by simp [fillB]
  rw [List.set_append_right _ _ (by omega), Nat.add_sub_cancel_left, List.set_append_right _ _ (by omega), h1, Nat.sub_self]
  congr 1
  rw [show 40 - k = (40 - (k + 1)) + 1 by omega, List.replicate_succ, List.set_cons_zero]
  unfold fillB
  rw [List.range_succ, List.map_append]
  simp

/-- ████ lent ████ -/
structure Lent (w w' : World) (bs : List Int) (g : Nat) : Prop where
  row : Row5 w' g (lentL bs)
  new : w.heap.size ≤ g
  below : Below w.heap.size w w'

theorem made_row (m : Nat) : madeCells #[Value.int .u8 0] m = (nums .u8 (List.replicate m 0)).toArray := by
  apply Array.ext'
  apply List.ext_getElem
  · simp [nums, madeCells]
  · intro i h1 h2
    simp [nums, madeCells, Nat.mod_one]

set_option maxHeartbeats 1000000 in
theorem lent_any (a : Option Addr) (n c : Nat) (bs : List Int) (w : World) (B : BytesArg w a n c bs) :
    Calls Tryd.prog 16 #[.slice a n c] w fun e w' => ∃ g, e = .returned (.tuple #[.slice (some ⟨g, 0, none⟩) n (n + 40), .slice (some ⟨g, 0, none⟩) (n + 40) (n + 40)]) ∧ Lent w w' bs g := by
  have hl := B.len
  have hm := B.max
  have hmk0 := print_make (P := Tryd.prog) 34 5 .u8 1 Tryd.underlying34 info5 (by omega) (n + 40) (by omega)
  rw [made_row] at hmk0
  generalize hC : (nums .u8 (List.replicate (n + 40) 0)).toArray = C at *
  have hmk : ∀ W : World, (Instr.makeSlice 34 (.int .i64 ((n : Int) + 40)) (.int .i64 ((n : Int) + 40))).run Tryd.prog W = .ok (.slice (some ⟨W.heap.size, 0, none⟩) (n + 40) (n + 40)) (W.alloc (.cells C 5)) := hmk0
  have hg : Row5 (w.alloc (.cells C 5)) w.heap.size (List.replicate (n + 40) 0) := by
    rw [← hC]
    exact heap_alloc_new w _
  have hb0 : Below w.heap.size w (w.alloc (.cells C 5)) := (Below.refl _ _).alloc (Nat.le_refl _) _
  obtain ⟨w1, hcp, hR, hB, hs1⟩ := copy_any (w.alloc (.cells C 5)) w.heap.size _ a n c bs (B.reads.below hb0) hg (by simp)
  rw [List.length_replicate] at hcp
  have hR0 : Hid (Row5 w1 w.heap.size (bs ++ (fillB bs.length 0 ++ List.replicate (40 - 0) 0))) := by
    have e : (List.replicate (n + 40) (0 : Int)).drop n = fillB bs.length 0 ++ List.replicate (40 - 0) 0 := by
      rw [List.drop_replicate, Nat.add_sub_cancel_left]
      simp [fillB]
    rw [e] at hR
    exact hR
  have hB1 : Hid (Below w.heap.size w w1) := hb0.trans (hB _ (Nat.le_refl _))
  clear hmk0 hR hB hb0 hg B
  go_enter Tryd.func16, Tryd.ntmps16
  go_wp2
  go_loopw [5] (fun i wr => ∃ k : Nat, k ≤ 40 ∧ i = .int .i64 ((n : Int) + k) ∧ Hid (Row5 wr w.heap.size (bs ++ (fillB bs.length k ++ List.replicate (40 - k) 0))) ∧ Hid (Below w.heap.size w wr)) (fun i _ => n + 40 - (intOf i).toNat)
  case atStart => exact ⟨0, by omega, by simp, hR0, hB1⟩
  case round =>
    clear hcp hmk hR0 hB1 hs1
    obtain ⟨k, hk, rfl, HR, HB⟩ := hrel
    by_cases hlt : k < 40
    · have c1 : wr.cell? ⟨w.heap.size, n + k, none⟩ = some (.int .u8 ((bs ++ (fillB bs.length k ++ List.replicate (40 - k) 0)).getD (n + k) 0)) := HR.out.cell _ (by simp [fillB]; omega)
      have f1 := HR.out.frozen (n + k)
      generalize (bs ++ (fillB bs.length k ++ List.replicate (40 - k) 0)).getD (n + k) 0 = z at c1
      have hlt' : (n : Int) + k < n + 40 := by omega
      have HR2 : Hid (Row5 (wr.setCell ⟨w.heap.size, n + k, none⟩ (.int .u8 (100 + ((n : Int) + k) % 50))) w.heap.size (bs ++ (fillB bs.length (k + 1) ++ List.replicate (40 - (k + 1)) 0))) := by
        have := HR.out.put (bs.length + k) (100 + ((bs.length + k : Nat) : Int) % 50)
        rw [fill_step bs k hlt, hl] at this
        show Row5 _ _ _
        rw [hl]
        exact this
      have HB2 : Hid (Below w.heap.size w (wr.setCell ⟨w.heap.size, n + k, none⟩ (.int .u8 (100 + ((n : Int) + k) % 50)))) := HB.out.setCell (Nat.le_refl _) _
      go_wp2
      go_roundw
      case rel => exact ⟨k + 1, by omega, by go_num, HR2, HB2⟩
      case measure => simp [intOf]; omega
    · obtain rfl : k = 40 := by omega
      go_wp2
      go_ret2
      refine ⟨_, rfl, ?_, Nat.le_refl _, HB.out⟩
      have := HR.out
      simpa [lentL] using this

set_option maxHeartbeats 1000000 in
/-- ████ still ████ -/
theorem still_any (a : Option Addr) (n c g : Nat) (bs : List Int) (w : World) (B : BytesArg w a n c bs) (R : Row5 w g (lentL bs)) :
    Calls Tryd.prog 19 #[.slice (some ⟨g, 0, none⟩) (n + 40) (n + 40), .slice a n c] w fun e w' => e = .returned (.bool true) ∧ Below w.heap.size w w' := by
  have hl := B.len
  have hm := B.max
  have hrd := Lib.hid B
  have hR0 := Lib.hid R
  clear B R
  go_enter Tryd.func19, Tryd.ntmps19
  go_wp2
  go_loopw [5] (fun i wr => ∃ k : Nat, k ≤ n + 40 ∧ i = .int .i64 k ∧ Below w.heap.size w wr) (fun i _ => n + 40 - (intOf i).toNat)
  case atStart => exact ⟨0, by omega, by simp, Below.refl _ _⟩
  case round =>
    obtain ⟨k, hk, rfl, hB⟩ := hrel
    have hR := Lib.hid (hR0.out.below hB)
    have hrd := Lib.hid (hrd.out.below hB).reads
    by_cases hlt : k < n + 40
    · have hlt' : (k : Int) < n + 40 := by omega
      have c0 := hR.out.cell k (by rw [lentL_length]; omega)
      by_cases hn : k < n
      · have hn' : (k : Int) < n := by omega
        obtain ⟨ad, rfl, hc⟩ := hrd.out.2.2 (by omega)
        obtain ⟨b, o, rfl⟩ : ∃ b o, ad = ⟨b, o, none⟩ := by
          obtain ⟨b, o, sp⟩ := ad
          have := World.cell?_spot (hc 0 (by omega))
          have hs : sp = none := by simpa [Addr.add] using this
          subst hs
          exact ⟨b, o, rfl⟩
        have c1 := hc k hn
        rw [Go.WideShapes.add_plain] at c1
        have e : (lentL bs).getD k 0 = bs.getD k 0 := by
          unfold lentL
          simp [List.getD_eq_getElem?_getD, List.getElem?_append_left (show k < bs.length by omega)]
        rw [e] at c0
        clear hc
        generalize bs.getD k 0 = z at *
        have hd : decide ((k : Int) < (n : Int)) = true := decide_eq_true hn'
        have hd2 : decide (n ≤ k) = false := decide_eq_false (by omega)
        go_wp2
        go_quiet (fail)
        go_wp2
        go_roundw
        case rel => exact ⟨k + 1, by omega, by go_num, ⟨hB.os, hB.tape, hB.output, hB.size, hB.block⟩⟩
        case measure => simp [intOf]; omega
      · have hn' : ¬ (k : Int) < n := by omega
        have e : (lentL bs).getD k 0 = 100 + (k : Int) % 50 := by
          unfold lentL fillB
          rw [List.getD_eq_getElem?_getD, List.getElem?_append_right (by omega)]
          simp [show k - bs.length < 40 by omega]
          omega
        rw [e] at c0
        have hd : decide ((k : Int) < (n : Int)) = false := decide_eq_false hn'
        have hd2 : decide (n ≤ k) = true := decide_eq_true (by omega)
        go_wp2
        go_quiet (fail)
        go_wp2
        go_roundw
        case rel => exact ⟨k + 1, by omega, by go_num, ⟨hB.os, hB.tape, hB.output, hB.size, hB.block⟩⟩
        case measure => simp [intOf]; omega
    · go_wp2
      go_ret
      exact ⟨rfl, hB⟩
end Go.Proofs.YthpfndbhibbkmaaDoor
