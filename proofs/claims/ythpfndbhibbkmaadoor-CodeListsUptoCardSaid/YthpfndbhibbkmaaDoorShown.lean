/- CONTRACTS of scruplelaw08.shown, lent and still. shown asks that the world hold the operations' table. -/
import Derived.Test.YthpfndbhibbkmaaDoorPutB
namespace Go.Proofs.YthpfndbhibbkmaaDoor
open Go.ChangeShapes Go.WideShapes Go.ChangeAt Go.RowKit Go.Proofs.YthpfndbhibbkmaaDoorW.PrintWords
set_option linter.unusedVariables false

theorem bytesArg_own {w : World} {base n c : Nat} {a : Option Addr} {xs : List Int} (h : w.ownsRow base 5 1 (.slice a n c) n (nums .u8 xs)) (hm : n ≤ 140737488354000) : BytesArg w a n c xs := by
  obtain ⟨A, c', he, hr⟩ := own_reads h
  obtain ⟨a2, c2, he2, hc, hn⟩ := own_cap h
  injection he with e1 e2 e3
  injection he2 with f1 f2 f3
  subst e1
  subst e3
  subst f1
  subst f3
  exact ⟨hr, hm, hn, hc⟩

set_option maxHeartbeats 1000000 in
theorem shown_any (w : World) (T : Tabs w) : Calls Tryd.prog 20 #[] w fun e w' => e = .returned (.bool true) ∧ Below w.heap.size w w' := by
  have hO : (w.alloc (.cells #[.int .u8 7] 5)).ownsRow w.heap.size 5 1 (.slice (some ⟨w.heap.size, 0, none⟩) 1 1) 1 (nums .u8 [7]) := own_lit w w.heap.size 5 .u8 [7] (Nat.le_refl _) (by simp)
  have hB : Below w.heap.size w (w.alloc (.cells #[.int .u8 7] 5)) := (Below.refl _ _).alloc (Nat.le_refl _) _
  have hP : Calls Tryd.prog 17 #[.slice (some ⟨w.heap.size, 0, none⟩) 1 1, .agg #[.int .i64 1, .int .i64 3]] (w.alloc (.cells #[.int .u8 7] 5)) _ := Put_ok 1 3 _ 1 1 [7] _ (T.below hB) (bytesArg_own hO (by omega)) (by omega) (by omega) (by decide) (by decide +kernel) 3 (by decide +kernel)
  have HP := Lib.hid hP
  clear hP hO
  go_enter Tryd.func20, Tryd.ntmps20
  go_wp2_with fail
  refine HP.out.mono ?_
  rintro e w1 ⟨a1, c1, rfl, hO1⟩
  clear HP
  have hr := own_reads hO1.own
  have hs : (convert 34 9 (.slice a1 3 3)).run Tryd.prog w1 = .ok (.string ⟨#[7, 1, 3]⟩) w1 := by
    rw [show (⟨#[7, 1, 3]⟩ : ByteArray) = strOfNums [7, 1, 3] from by decide +kernel]
    obtain ⟨A, c', he, hr⟩ := hr
    injection he with e1 e2 e3
    subst e1
    exact string_of_reads (P := Tryd.prog) Tryd.underlying34 Tryd.underlying5 Tryd.underlying9 hr
  have hb1 := hB.trans (hO1.below.mono (by simp))
  clear hr hO1
  go_wp2
  go_ret
  exact ⟨rfl, hb1⟩
end Go.Proofs.YthpfndbhibbkmaaDoor
