/- CONTRACTS of hash.Hex and scrupleref02.Hex. Condition: the digest is 32 numbers from 0 to 255. -/
import Derived.Test.YtikoahjnhdnhdaaRows
import Derived.Test.YtikoahjnhdnhdaaWWords
import Derived.WalkKit
import Derived.ProofKit
import Derived.OpenShut
import Derived.Outline
import Derived.BigQuiet
import Derived.RegionTactic
import Derived.WalkLawsBesides
import Derived.BigRegion
import Derived.Laws.Rows
import Derived.StillTailTactics
import Derived.Lib.Hide
import Derived.Deep.AppendLies
import Derived.Deep.RegionLaw
namespace Go.Proofs.Ytikoahjnhdnhdaa
open Go.ChangeShapes Go.WideShapes Go.ChangeAt Go.RowKit Go.Proofs.YtikoahjnhdnhdaaW.PrintWords
set_option linter.unusedVariables false

theorem info5 : (Try.prog.info? 5).map (fun i => (i.zero, i.size, i.bytes)) = some (some (.int .u8 0), 1, 1) := by kernel_rfl

def digitsS : ByteArray := ⟨#[48, 49, 50, 51, 52, 53, 54, 55, 56, 57, 97, 98, 99, 100, 101, 102]⟩
/-- The digit of a number below 16. -/
def dig (x : Int) : Int := if x < 10 then 48 + x else 87 + x
/-- The digits of a digest. -/
def hexL (D : List Int) : List Int := D.flatMap fun x => [dig (x / 16), dig (x % 16)]
def digestV (D : List Int) : Value := .agg (nums .u8 D).toArray

theorem hexL_length (D : List Int) : (hexL D).length = 2 * D.length := by
  unfold hexL
  induction D with
  | nil => rfl
  | cons x D ih => rw [List.flatMap_cons, List.length_append, ih]; simp; omega
theorem and15_all : ∀ n : Nat, n < 256 → bits .and .u8 (n : Int) 15 = (n : Int) % 16 := by decide +kernel
theorem and15 (c : Int) (h0 : 0 ≤ c) (h1 : c ≤ 255) : bits .and .u8 c 15 = c % 16 := by
  obtain ⟨n, rfl⟩ := Int.eq_ofNat_of_zero_le h0
  exact and15_all n (by omega)

theorem index_digits (x : Int) (h0 : 0 ≤ x) (h1 : x < 16) (w : World) : (Instr.index 9 (.string ⟨#[48, 49, 50, 51, 52, 53, 54, 55, 56, 57, 97, 98, 99, 100, 101, 102]⟩) (.int .u8 x)).run Try.prog w = .ok (.int .u8 (dig x)) w := by
  rcases (by omega : x = 0 ∨ x = 1 ∨ x = 2 ∨ x = 3 ∨ x = 4 ∨ x = 5 ∨ x = 6 ∨ x = 7 ∨ x = 8 ∨ x = 9 ∨ x = 10 ∨ x = 11 ∨ x = 12 ∨ x = 13 ∨ x = 14 ∨ x = 15) with rfl | rfl | rfl | rfl | rfl | rfl | rfl | rfl | rfl | rfl | rfl | rfl | rfl | rfl | rfl | rfl
  all_goals kernel_rfl

theorem cells5 : Try.prog.cellsOf 5 = 1 := by kernel_rfl
theorem size5 : (Try.prog.info? 5).map (·.size) = some 1 := by kernel_rfl
theorem size24 : (Try.prog.info? 24).map (·.size) = some 32 := by kernel_rfl
theorem run_index_digest (cs : Array Value) (i : Nat) (v : Value) (hi : i < 32) (hv : cs[i]? = some v) (w : World) :
    (Instr.index 24 (.agg cs) (.int .i64 (i : Int))).run Try.prog w = .ok v w := by
  obtain ⟨j, hj, hs⟩ := Option.map_eq_some_iff.1 size5
  have hc : ¬ 32 ≤ i := by omega
  simp [Instr.index, run_underlying Try.underlying24, asIntOf, hc, part, Sem.run_bind, sizeOf, typeInfo, hj, hs, hv]

theorem hexL_snoc (D : List Int) (k : Nat) (hk : k < D.length) : hexL (D.take (k + 1)) = hexL (D.take k) ++ [dig (D.getD k 0 / 16), dig (D.getD k 0 % 16)] := by
  unfold hexL
  rw [List.take_succ_eq_append_getElem hk, List.flatMap_append]
  simp [List.getD_eq_getElem?_getD, List.getElem?_eq_getElem hk]
theorem hex_step {D : List Int} {k : Nat} {c : Int} {w : World} {base g cap : Nat} (hk : k < D.length) (hc : D.getD k 0 = c)
    (h : w.ownsRow base 5 1 (.slice (some ⟨g, 0, none⟩) ((hexL (D.take k)).length + 2) cap) ((hexL (D.take k)).length + 2) (nums .u8 (hexL (D.take k)) ++ [.int .u8 (dig (c / 16)), .int .u8 (dig (c % 16))])) :
    w.ownsRow base 5 1 (.slice (some ⟨g, 0, none⟩) ((hexL (D.take k)).length + 2) cap) (hexL (D.take (k + 1))).length (nums .u8 (hexL (D.take (k + 1)))) := by
  rw [hexL_snoc D k hk, hc, List.length_append, nums_append]
  exact h

@[irreducible] def mk64 : Array Value := madeCells #[.int .u8 0] 64
theorem make64 (W : World) : (Instr.makeSlice 32 (.int .i64 0) (.int .i64 64)).run Try.prog W = .ok (.slice (some ⟨W.heap.size, 0, none⟩) 0 64) (W.alloc (.cells mk64 5)) := by kernel_rfl
theorem own64 (W : World) (base : Nat) (hb : base ≤ W.heap.size) : (W.alloc (.cells mk64 5)).ownsRow base 5 1 (.slice (some ⟨W.heap.size, 0, none⟩) 0 64) ([] : List Int).length (nums .u8 []) :=
  ⟨rfl, .inr ⟨W.heap.size, 64, mk64, rfl, hb, heap_alloc_new W _, by simp, by simp [maxLen], by unfold mk64; simp [size_madeCells], rfl⟩⟩
theorem news_two (w : World) (x y : Value) : ∀ (j : Nat) u, ([x, y] : List Value)[j]? = some u → (w.drew.alloc (.cells #[x, y] 5)).cell? ((⟨w.heap.size, 0, none⟩ : Addr).add j) = some u := by
  intro j u h
  rw [Go.WideShapes.add_plain, Nat.zero_add]
  show (w.drew.alloc (.cells #[x, y] 5)).cell? ⟨w.drew.heap.size, j, none⟩ = some u
  rw [cell_of_row _ _ _ _ _ _ (heap_alloc_new w.drew _)]
  simpa using h
theorem one_two (x y : Int) : ∀ u ∈ [Value.int .u8 x, Value.int .u8 y], u.oneCell' = true := by
  intro u hu
  simp only [List.mem_cons, List.not_mem_nil, or_false] at hu
  rcases hu with rfl | rfl <;> rfl
theorem heap_two (w : World) (A B : Obj) : ((w.alloc A).alloc B).heap[w.heap.size]? = some A := by
  rw [Below.heap_alloc _ _ _ (by simp)]
  exact heap_alloc_new w A

set_option maxHeartbeats 1000000 in
theorem hex_any (D : List Int) (hl : D.length = 32) (hb : ∀ i, 0 ≤ D.getD i 0 ∧ D.getD i 0 ≤ 255) (w : World) :
    Calls Try.prog 6 #[digestV D] w fun e w' => e = .returned (.string (strOfNums (hexL D))) ∧ Below w.heap.size w w' := by
  have hix := fun (i : Nat) (hi : i < 32) => run_index_digest (nums .u8 D).toArray i (.int .u8 (D.getD i 0)) hi (by simp [nums, hl, hi])
  have HX := Lib.hid hix
  have HBD := Lib.hid hb
  clear hix hb
  unfold digestV
  generalize hcs : (nums .u8 D).toArray = cs at *
  have HCS := Lib.hid hcs
  clear hcs
  have hsz : (Try.prog.info? 24).map (·.size) = some cs.size := by
    have : cs.size = 32 := by rw [← HCS.out]; simp [nums, hl]
    rw [this]
    exact size24
  have hg := heap_two w (.cells cs 24) (.cells mk64 5)
  have hmk := make64
  have HO := own64 (w.alloc (.cells cs 24)) w.heap.size (by simp)
  have HOH := Lib.hid HO
  clear HO
  have HLEN : Hid (∀ k, (hexL (D.take k)).length ≤ 1000) := fun k => by
    rw [hexL_length, List.length_take]
    omega
  go_enter Try.func6, Try.ntmps6
  go_wp2_with (refine wpList_load_row rfl 24 _ rfl w.heap.size rfl 24 _ (0, 0) _ hg Try.underlying24 rfl hsz ?_)
  clear hsz hg hmk
  go_loopw [3, 8] (fun v i wr => ∃ k : Nat, k ≤ 32 ∧ i = .int .i64 k ∧ wr.ownsRow w.heap.size 5 1 v (hexL (D.take k)).length (nums .u8 (hexL (D.take k))) ∧ Below w.heap.size w wr) (fun _ i _ => 32 - (intOf i).toNat)
  case atStart => exact ⟨0, by omega, rfl, by have := HOH.out; simp at this; simpa [hexL] using this, ((Below.refl _ _).alloc (Nat.le_refl _) _).alloc (by simp) _⟩
  case round =>
    clear HOH
    obtain ⟨k, hk, rfl, HO, hB⟩ := hrel
    have HO' := Lib.hid HO
    clear HO
    by_cases hlt : k < 32
    · have hxk := HX.out k hlt
      have hd := HBD.out k
      generalize hc : D.getD k 0 = c at *
      have HC := Lib.hid hc
      clear hc
      have h1 := index_digits (c / 16) (by omega) (by omega)
      have h2 := index_digits (c % 16) (by omega) (by omega)
      have hand := and15 c hd.1 hd.2
      clear HX HBD
      obtain ⟨i0, hi, hz0, hz1, hz2⟩ := info_parts info5
      have hlen : (hexL (D.take k)).length ≤ 1000 := HLEN.out k
      have hsB := hB.size
      go_wp2
      go_region_law (refine step_append_lies _ rfl (.tmp 11) (.tmp 18) 32 rfl w.heap.size 5 i0 (.int .u8 0) 1 1 Try.underlying32 hi hz0 hz1 hz2 rfl (by decide) u3 _ _ (by simp [Act.eval]) (HO'.out.drew.alloc _) ⟨wr.heap.size, 0, none⟩ 2 2 [.int .u8 (dig (c / 16)), .int .u8 (dig (c % 16))] (by simp [Act.eval]) rfl (news_two wr _ _) (one_two _ _) (by omega) (by simp only [maxLen]; omega) (by omega) (by simp; omega) _ rfl ?_; intro g cap w1 hO hG hp hgl)
      all_goals
        have hB1 : Below w.heap.size w w1 := ((hB.alloc hsB _).drew).grown hG (by simp; omega) (fun j hj => own_base HO'.out j hj)
        have hO1 := hex_step (by omega) HC.out hO
        clear hO hG hp hgl hlen hi hz0 hz1 hz2 h1 h2 hand hxk hd HO' hB hsB
        go_wp2
        go_roundw
        case rel => exact ⟨k + 1, by omega, by go_num, hO1, hB1⟩
        case measure => simp [intOf]; omega
    · have HF : Hid (D.take k = D) := List.take_of_length_le (by omega)
      have HS := own_string (P := Try.prog) (dst := 9) Try.underlying32 Try.underlying5 Try.underlying9 HO'.out
      rw [HF.out] at HS
      clear HO' HLEN HX HBD HF
      go_wp2
      go_ret
      exact ⟨rfl, hB⟩
end Go.Proofs.Ytikoahjnhdnhdaa
