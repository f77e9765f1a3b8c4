/- THE WALK of 'scruplelaw02.HashHexes': it returns true for every list of digests. The list takes at most 2^47 - 4096 bytes (the form's own reach). -/
import Derived.Test.YtikoahjnhdnhdaaDigests
namespace Go.Proofs.Ytikoahjnhdnhdaa.hashHexes
open Go.ChangeShapes Go.WideShapes Go.ChangeAt Go.RowKit Go.Proofs.YtikoahjnhdnhdaaW.PrintWords Go.Deep
set_option linter.unusedVariables false

theorem zbyte : ∀ i, 0 ≤ (List.replicate 32 (0 : Int)).getD i 0 ∧ (List.replicate 32 (0 : Int)).getD i 0 ≤ 255 := fun i => by
  rw [List.getD_eq_getElem?_getD, List.getElem?_replicate]
  split <;> simp

attribute [local go_sem ↓] loadAt_24
set_option maxHeartbeats 1000000 in
theorem good (a : Option Addr) (len cap b off : Nat) (L : Nat → List Int) (w : World) (h : At32 w a len b off L) (hm : len ≤ 140737488351232) :
    Calls Try.prog 3 #[.slice a len cap] w fun e w' => e = .returned (.bool true) ∧ Below w.heap.size w w' := by
  have H := Lib.hid h
  clear h
  go_enter Try.func3, Try.ntmps3
  go_wp2
  go_loopw [3] (fun i wr => ∃ k : Nat, k ≤ len ∧ i = .int .i64 k ∧ Below w.heap.size w wr) (fun i _ => len - (intOf i).toNat)
  case atStart => exact ⟨0, by omega, rfl, Below.refl _ _⟩
  case round =>
    obtain ⟨k, hk, rfl, hB⟩ := hrel
    by_cases hlt : k < len
    · obtain ⟨ha, hbw⟩ := H.out.place (by omega)
      subst ha
      have hbs := hB.size
      have hc : wr.rangeAt b (off + k * 32) (nums .u8 (L k)) := rangeAt_below hB (H.out.cells k hlt)
      have hl32 : (nums .u8 (L k)).length = 32 := by rw [nums_length, H.out.len32 k hlt]
      have h6 := fun w => hex_any (L k) (H.out.len32 k hlt) (H.out.byte k hlt) w
      have h7 := fun w => rhex_any (L k) (H.out.len32 k hlt) (H.out.byte k hlt) w
      unfold digestV at h6 h7
      generalize strOfNums (hexL (L k)) = sx at *
      generalize nums .u8 (L k) = cs at *
      have H6 := Lib.hid h6
      have H7 := Lib.hid h7
      clear h6 h7 H
      have ld : ∀ (w : World), w.rangeAt b (off + k * 32) cs → (load24 (.pointer (some ⟨b, off + k * 32, none⟩))).run Try.prog w = .ok (.agg cs.toArray) w := fun _ h => run_load24 _ _ _ _ hl32 h
      have LD := Lib.hid ld
      have hc0 : (load24 (.pointer (some ⟨b, off + k * 32, none⟩))).run Try.prog wr.drew = .ok (.agg cs.toArray) wr.drew := ld _ hc
      clear ld
      go_wp2
      go_region_with (first
        | (go_at_call 6; refine (H6.out _).mono ?_; rintro e w1 ⟨rfl, hb1⟩; have hc1 := LD.out _ (rangeAt_below hb1 hc))
        | (go_at_call 7; refine (H7.out _).mono ?_; rintro e w2 ⟨rfl, hb2⟩))
      all_goals
        have hB2 : Below w.heap.size w w2 := (hB.drew.trans (hb1.mono hbs)).trans (hb2.mono (by have := hb1.size; simp at this; omega))
        clear LD hc0 hc1 H6 H7 hb1 hb2 hc hl32
        go_wp2
        go_roundw
        case rel => exact ⟨k + 1, by omega, by go_num, hB2⟩
        case measure => simp [intOf]; omega
    · clear H
      have z6 := fun w => hex_any (List.replicate 32 0) (by simp) zbyte w
      have z7 := fun w => rhex_any (List.replicate 32 0) (by simp) zbyte w
      have ez : digestV (List.replicate 32 0) = .agg #[.int .u8 0, .int .u8 0, .int .u8 0, .int .u8 0, .int .u8 0, .int .u8 0, .int .u8 0, .int .u8 0, .int .u8 0, .int .u8 0, .int .u8 0, .int .u8 0, .int .u8 0, .int .u8 0, .int .u8 0, .int .u8 0, .int .u8 0, .int .u8 0, .int .u8 0, .int .u8 0, .int .u8 0, .int .u8 0, .int .u8 0, .int .u8 0, .int .u8 0, .int .u8 0, .int .u8 0, .int .u8 0, .int .u8 0, .int .u8 0, .int .u8 0, .int .u8 0] := rfl
      rw [ez] at z6 z7
      generalize strOfNums (hexL (List.replicate 32 0)) = sx at *
      clear ez
      have Z6 := Lib.hid z6
      have Z7 := Lib.hid z7
      clear z6 z7
      go_wp2_with fail
      refine (Z6.out _).mono ?_
      rintro e w1 ⟨rfl, hb1⟩
      go_wp2_with fail
      refine (Z7.out _).mono ?_
      rintro e w2 ⟨rfl, hb2⟩
      go_wp2_with fail
      go_ret
      exact ⟨by simp, (hB.trans (hb1.mono hB.size)).trans (hb2.mono (Nat.le_trans hB.size hb1.size))⟩

theorem walk {w : World} (a : Option Addr) (len cap b off : Nat) (L : Nat → List Int) (h : At32 w a len b off L) (_ : True) (y : len * 32 ≤ 140737488351232) :
    Calls Try.prog 3 #[.slice a len cap] w fun e w' => e = .returned (.bool true) ∧ Below w.heap.size w w' := good a len cap b off L w h (by omega)
end Go.Proofs.Ytikoahjnhdnhdaa.hashHexes
