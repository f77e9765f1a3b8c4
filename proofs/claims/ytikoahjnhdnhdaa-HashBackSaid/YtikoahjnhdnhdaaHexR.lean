/- CONTRACT of scrupleref02.Hex. Condition: the digest is 32 numbers from 0 to 255. -/
import Derived.Test.YtikoahjnhdnhdaaHex
namespace Go.Proofs.Ytikoahjnhdnhdaa
open Go.ChangeShapes Go.WideShapes Go.ChangeAt Go.RowKit Go.Proofs.YtikoahjnhdnhdaaW.PrintWords
set_option linter.unusedVariables false

theorem box_cell (w : World) (D : List Int) (k : Nat) (hk : k < D.length) {w1 : World} (hb : Below (w.alloc (.cells (nums .u8 D).toArray 24)).heap.size (w.alloc (.cells (nums .u8 D).toArray 24)) w1) : w1.cell? ⟨w.heap.size, k, none⟩ = some (.int .u8 (D.getD k 0)) := by
  rw [hb.cell (by simp), cell_of_row _ _ _ _ _ _ (heap_alloc_new w _)]
  simp [nums, List.getElem?_eq_getElem hk, List.getD_eq_getElem?_getD]

set_option maxHeartbeats 1000000 in
theorem rhex_any (D : List Int) (hl : D.length = 32) (hb : ∀ i, 0 ≤ D.getD i 0 ∧ D.getD i 0 ≤ 255) (w : World) :
    Calls Try.prog 7 #[digestV D] w fun e w' => e = .returned (.string (strOfNums (hexL D))) ∧ Below w.heap.size w w' := by
  have HBD := Lib.hid hb
  clear hb
  have hbox : ∀ k, k < 32 → ∀ w1, Below (w.alloc (.cells (nums .u8 D).toArray 24)).heap.size (w.alloc (.cells (nums .u8 D).toArray 24)) w1 → w1.cell? ⟨w.heap.size, k, none⟩ = some (.int .u8 (D.getD k 0)) := fun k hk w1 h => box_cell w D k (by omega) h
  have HBOX := Lib.hid hbox
  clear hbox
  have HLEN : Hid (∀ k, (hexL (D.take k)).length ≤ 1000) := fun k => by
    rw [hexL_length, List.length_take]
    omega
  unfold digestV
  generalize (nums .u8 D).toArray = cs at *
  go_enter Try.func7, Try.ntmps7
  go_wp2
  go_loopw [3, 4] (fun v i wr => ∃ k : Nat, k ≤ 32 ∧ i = .int .i64 k ∧ wr.ownsRow (w.heap.size + 1) 5 1 v (hexL (D.take k)).length (nums .u8 (hexL (D.take k))) ∧ Below (w.alloc (.cells cs 24)).heap.size (w.alloc (.cells cs 24)) wr) (fun _ i _ => 32 - (intOf i).toNat)
  case atStart => exact ⟨0, by omega, rfl, own_nil _ _ _ _, Below.refl _ _⟩
  case round =>
    obtain ⟨k, hk, rfl, HO, hB⟩ := hrel
    have HO' := Lib.hid HO
    clear HO
    by_cases hlt : k < 32
    · have hd := HBD.out k
      have hcell := HBOX.out k hlt wr hB
      generalize hc : D.getD k 0 = c at *
      have HC := Lib.hid hc
      clear hc
      have h1 := index_digits (c / 16) (by omega) (by omega)
      have h2 := index_digits (c % 16) (by omega) (by omega)
      obtain ⟨i0, hi, hz0, hz1, hz2⟩ := info_parts info5
      have hlen : (hexL (D.take k)).length ≤ 1000 := HLEN.out k
      have hsB : w.heap.size + 1 ≤ wr.heap.size := by have := hB.size; simp at this; omega
      have hq : IntKind.u8.wrap (c.tdiv 16) = c / 16 := by rw [Int.tdiv_eq_ediv_of_nonneg hd.1]; exact IntWalk.u8_in _ (by omega)
      have hr : c.tmod 16 = c % 16 := Int.tmod_eq_emod_of_nonneg hd.1
      clear HBD HBOX
      go_wp2
      go_region_law (refine step_append_lies _ rfl (.tmp 9) (.tmp 20) 32 rfl (w.heap.size + 1) 5 i0 (.int .u8 0) 1 1 Try.underlying32 hi hz0 hz1 hz2 rfl (by decide) u3 _ _ (by simp [Act.eval]) (HO'.out.drew.alloc _) ⟨wr.heap.size, 0, none⟩ 2 2 [.int .u8 (dig (c / 16)), .int .u8 (dig (c % 16))] (by simp [Act.eval]) rfl (news_two wr _ _) (one_two _ _) (by omega) (by simp only [maxLen]; omega) (by omega) (by simp; omega) _ rfl ?_; intro g cap w1 hO hG hp hgl)
      all_goals
        have hB1 : Below (w.alloc (.cells cs 24)).heap.size (w.alloc (.cells cs 24)) w1 := ((hB.alloc hB.size _).drew).grown hG (by simp; omega) (fun j hj => by have := own_base HO'.out j hj; simpa using this)
        have hO1 := hex_step (by omega) HC.out hO
        clear hO hG hp hgl hlen hi hz0 hz1 hz2 h1 h2 hd HO' hB hsB hcell hq hr
        go_wp2
        go_roundw
        case rel => exact ⟨k + 1, by omega, by go_num, hO1, hB1⟩
        case measure => simp [intOf]; omega
    · have HF : Hid (D.take k = D) := List.take_of_length_le (by omega)
      have HS := own_string (P := Try.prog) (dst := 9) Try.underlying32 Try.underlying5 Try.underlying9 HO'.out
      rw [HF.out] at HS
      have hBw : Below w.heap.size w wr := ((Below.refl _ _).alloc (Nat.le_refl _) _).trans (hB.mono (by simp))
      clear HO' HLEN HBD HBOX HF hB
      go_wp2
      go_ret
      exact ⟨rfl, hBw⟩
end Go.Proofs.Ytikoahjnhdnhdaa
