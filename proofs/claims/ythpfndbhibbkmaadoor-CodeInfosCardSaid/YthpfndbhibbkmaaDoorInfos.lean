/- THE WALK of 'scruplelaw08.CodeInfos': it returns true for every list of numbers and of names, over a world that holds the operations' table. The lists take at most 2^47 - 4096 bytes (the form's own reach). -/
import Derived.Test.YthpfndbhibbkmaaDoorShown
import Derived.Test.YthpfndbhibbkmaaDoorOpen
namespace Go.Proofs.YthpfndbhibbkmaaDoor.codeInfos
open Go.ChangeShapes Go.WideShapes Go.ChangeAt Go.RowKit Go.Proofs.YthpfndbhibbkmaaDoorW.PrintWords
set_option linter.unusedVariables false

variable {w : World}
set_option maxRecDepth 100000 in
set_option maxHeartbeats 2000000 in
theorem good (a0 : Option Addr) (len0 cap0 b0 off0 : Nat) (zs : List Int) (a1 : Option Addr) (len1 cap1 b1 off1 : Nat) (ss : List ByteArray) (w : World) (T : Tabs w)
    (h0 : At1 w a0 len0 b0 off0 (fun i => .int .i64 (zs.getD i 0))) (h1 : At1 w a1 len1 b1 off1 (fun i => .string (ss.getD i ByteArray.empty))) (hm0 : len0 ≤ 140737488351232) (hm1 : len1 ≤ 140737488351232) :
    Calls Tryd.prog 6 #[.slice a0 len0 cap0, .slice a1 len1 cap1] w fun e w' => e = .returned (.bool true) ∧ Below w.heap.size w w' := by
  have H0 := Lib.hid h0
  have H1 := Lib.hid h1
  clear h0 h1
  go_enter Tryd.func6, Tryd.ntmps6
  go_wp2
  go_loopw [5] (fun i wr => ∃ k : Nat, k ≤ len0 ∧ i = .int .i64 k ∧ Below w.heap.size w wr) (fun i _ => len0 - (intOf i).toNat)
  case atStart => exact ⟨0, by omega, rfl, Below.refl _ _⟩
  case round =>
    obtain ⟨k, hk, rfl, hb⟩ := hrel
    have TR := T.below hb
    by_cases hlt : k < len0
    · obtain ⟨ha, hbw⟩ := H0.out.1 (by omega)
      have hc : wr.cell? ⟨b0, off0 + k, none⟩ = some (.int .i64 (zs.getD k 0)) := (hb.cell (p := ⟨b0, off0 + k, none⟩) hbw).trans (H0.out.2 k hlt)
      subst ha
      generalize zs.getD k 0 = z at hc
      clear H0
      have hbs := hb.size
      by_cases hz : z < 1 ∨ 41 < z
      · go_wp2_with fail
        refine (info_no' z _ hz).mono ?_
        rintro e w1 ⟨rfl, hb1⟩
        have hs1 := hb1.size
        have hbw1 : b0 < w1.heap.size := by omega
        have hc1 : w1.cell? ⟨b0, off0 + k, none⟩ = some (.int .i64 z) := (hb1.cell (p := ⟨b0, off0 + k, none⟩) (by show b0 < _; omega)).trans hc
        go_wp2_with fail
        refine (rinfo_no z _ hz).mono ?_
        rintro e w2 ⟨rfl, hb2⟩
        obtain ⟨hc2, hf2⟩ := bcell hb2
        have hs2 : w1.heap.size < w2.heap.size := by have := hb2.size; simp at this; omega
        clear hz hc hc1
        go_wp2_with fail
        go_roundw
        case rel => exact ⟨k + 1, by omega, by go_num, ((((hb.trans (hb1.mono hbs)).alloc (by omega) _).trans (hb2.mono (by simp; omega))).alloc (by omega) _)⟩
        case measure => simp [intOf]; omega
      · obtain ⟨m, rfl⟩ : ∃ m : Nat, z = m := ⟨z.toNat, by omega⟩
        have m1 : 1 ≤ m := by omega
        have m2 : m ≤ 41 := by omega
        go_wp2_with fail
        refine (info_yes' m _ TR m1 m2).mono ?_
        rintro e w1 ⟨rfl, hb1⟩
        have hs1 := hb1.size
        have hbw1 : b0 < w1.heap.size := by omega
        have hc1 : w1.cell? ⟨b0, off0 + k, none⟩ = some (.int .i64 m) := (hb1.cell (p := ⟨b0, off0 + k, none⟩) (by show b0 < _; omega)).trans hc
        go_wp2_with fail
        refine (rinfo_yes m _ m1 m2).mono ?_
        rintro e w2 ⟨rfl, hb2⟩
        obtain ⟨hc2, hf2⟩ := bcell hb2
        have hs2 : w1.heap.size < w2.heap.size := by have := hb2.size; simp at this; omega
        clear hz hc hc1
        go_wp2_with fail
        go_roundw
        case rel => exact ⟨k + 1, by omega, by go_num, ((((hb.trans (hb1.mono hbs)).alloc (by omega) _).trans (hb2.mono (by simp; omega))).alloc (by omega) _)⟩
        case measure => simp [intOf]; omega
    · clear H0
      go_wp2
      go_loopw [10] (fun i wr => ∃ k : Nat, k ≤ len1 ∧ i = .int .i64 k ∧ Below w.heap.size w wr) (fun i _ => len1 - (intOf i).toNat)
      case atStart => exact ⟨0, by omega, rfl, hb⟩
      case round =>
        clear hb TR
        obtain ⟨j, hj, rfl, hb⟩ := hrel
        have TR := T.below hb
        by_cases hlt1 : j < len1
        · obtain ⟨ha, hbw⟩ := H1.out.1 (by omega)
          have hc : wr.cell? ⟨b1, off1 + j, none⟩ = some (.string (ss.getD j ByteArray.empty)) := (hb.cell (p := ⟨b1, off1 + j, none⟩) hbw).trans (H1.out.2 j hlt1)
          subst ha
          generalize ss.getD j ByteArray.empty = s at hc
          clear H1
          have hbs := hb.size
          go_wp2_with fail
          refine (named_any s _ TR).mono ?_
          rintro e w1 ⟨rfl, rfl⟩
          go_wp2_with fail
          refine (rnamed_any s _).mono ?_
          rintro e w1 ⟨rfl, hb1⟩
          clear hc
          go_wp2_with fail
          go_roundw
          case rel => exact ⟨j + 1, by omega, by go_num, hb.trans (hb1.mono hbs)⟩
          case measure => simp [intOf]; omega
        · clear H1
          go_wp2_with fail
          refine (shown_any _ TR).mono ?_
          rintro e w1 ⟨rfl, hb1⟩
          have T1 := TR.below hb1
          have hret : Calls Tryd.prog 13 #[.string ⟨#[114, 101, 116]⟩] w1 fun e w' => e = .returned (.tuple #[.int .i64 9, .bool true]) ∧ w1 = w' := by
            have h := named_any ⟨#[114, 101, 116]⟩ w1 T1
            rw [show opOf ⟨#[114, 101, 116]⟩ = 9 from by decide +kernel] at h
            exact h
          go_wp2_with fail
          refine hret.mono ?_
          rintro e w2 ⟨rfl, rfl⟩
          clear hret
          go_wp2_with fail
          go_ret
          exact ⟨rfl, hb.trans (hb1.mono hb.size)⟩

theorem walk (a0 : Option Addr) (len0 cap0 b0 off0 : Nat) (zs : List Int) (h0 : At1 w a0 len0 b0 off0 (fun i => .int .i64 (zs.getD i 0))) (_ : ∀ n ∈ zs, (Lit.int .i64 n).wf = true) (y0 : len0 * 8 ≤ 140737488351232)
    (a1 : Option Addr) (len1 cap1 b1 off1 : Nat) (ss : List ByteArray) (h1 : At1 w a1 len1 b1 off1 (fun i => .string (ss.getD i ByteArray.empty))) (_ : ∀ s ∈ ss, s.size ≤ maxLen) (y1 : len1 * 16 ≤ 140737488351232) (T : Tabs w) :
    Calls Tryd.prog 6 #[.slice a0 len0 cap0, .slice a1 len1 cap1] w fun e w' => e = .returned (.bool true) ∧ Below w.heap.size w w' :=
  good a0 len0 cap0 b0 off0 zs a1 len1 cap1 b1 off1 ss w T h0 h1 (by omega) (by omega)
end Go.Proofs.YthpfndbhibbkmaaDoor.codeInfos
