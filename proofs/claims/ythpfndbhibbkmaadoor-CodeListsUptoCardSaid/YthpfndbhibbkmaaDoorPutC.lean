/- CONTRACTS of code.Put, all cases in one, and of an append to a slice that is full. -/
import Derived.Test.YthpfndbhibbkmaaDoorOpenB
namespace Go.Proofs.YthpfndbhibbkmaaDoor
open Go.ChangeShapes Go.WideShapes Go.ChangeAt Go.RowKit Go.Proofs.YthpfndbhibbkmaaDoorW.PrintWords
set_option linter.unusedVariables false
set_option linter.unusedSimpArgs false

def putOk (k A : Int) : Bool := decide (1 ≤ k) && decide (k ≤ 41) && decide (0 ≤ A) && decide (A ≤ mostT (numT k.toNat 0))
def putE (k A : Int) : Int := if k < 1 ∨ 41 < k then 80 else if putOk k A = true then 0 else 81
def putL (bs : List Int) (k A : Int) : List Int := if putOk k A = true then bs ++ encB k.toNat A else []

theorem owned_nil (base : Nat) {w w' : World} (hb : Below base w w') : OwnedS base w w' none 0 [] := ⟨own_nil w' _ 5 1, Nat.le_refl _, hb⟩
theorem putL_length (bs : List Int) (k A : Int) : (putL bs k A).length ≤ bs.length + 3 := by
  unfold putL
  split
  · rw [List.length_append]
    have := encB_len k.toNat A
    omega
  · simp

/-- ████ code.Put ████ -/
theorem Put_any (k A : Int) (a : Option Addr) (n c : Nat) (bs : List Int) (w : World) (T : Tabs w) (B : BytesArg w a n c bs) (N : Nat) (hN : (putL bs k A).length = N) :
    Calls Tryd.prog 17 #[.slice a n c, .agg #[.int .i64 k, .int .i64 A]] w fun e w' => ∃ a' c', e = .returned (.tuple #[.slice a' N N, .int .i64 (putE k A)]) ∧ OwnedS w.heap.size w w' a' c' (putL bs k A) := by
  unfold putL putE at *
  by_cases h1 : k < 1 ∨ 41 < k
  · have hp : putOk k A = false := by
      unfold putOk
      rcases h1 with h | h
      · rw [decide_eq_false (show ¬ 1 ≤ k by omega)]; rfl
      · rw [decide_eq_false (show ¬ k ≤ 41 by omega)]; simp
    rw [hp] at hN ⊢
    rw [if_pos h1]
    obtain rfl : N = 0 := hN.symm
    exact (Put_noop k A a n c bs w B h1).mono fun e w' ⟨he, hb⟩ => ⟨none, 0, he, owned_nil _ hb⟩
  rw [if_neg h1]
  obtain ⟨m, rfl⟩ : ∃ m : Nat, k = m := ⟨k.toNat, by omega⟩
  by_cases h2 : A < 0 ∨ mostT (numT m 0) < A
  · have hp : putOk m A = false := by
      unfold putOk
      rw [Int.toNat_natCast]
      rcases h2 with h | h
      · rw [decide_eq_false (show ¬ 0 ≤ A by omega)]; simp
      · rw [decide_eq_false (show ¬ A ≤ mostT (numT m 0) by omega)]; simp
    rw [hp] at hN ⊢
    obtain rfl : N = 0 := hN.symm
    exact (Put_bad m A a n c bs w T B (by omega) (by omega) h2).mono fun e w' ⟨he, hb⟩ => ⟨none, 0, he, owned_nil _ hb⟩
  · have hp : putOk m A = true := by
      unfold putOk
      rw [Int.toNat_natCast, decide_eq_true (show 1 ≤ (m : Int) by omega), decide_eq_true (show (m : Int) ≤ 41 by omega), decide_eq_true (show 0 ≤ A by omega), decide_eq_true (show A ≤ mostT (numT m 0) by omega)]
      rfl
    rw [hp] at hN ⊢
    rw [if_pos rfl] at hN ⊢
    rw [Int.toNat_natCast] at hN ⊢
    exact Put_ok m A a n c bs w T B (by omega) (by omega) (by omega) (by omega) N hN

/-- An append to a slice that is full: a new row. -/
theorem append_clip (w : World) (base : Nat) (hbase : base ≤ w.heap.size) (ad : Addr) (N : Nat) (xs : List Int) (hr : ReadsInt w .u8 (some ad) N xs) (hN : N ≤ 140737488355000) (nd : Addr) (y : Int) (hy : w.cell? (nd.add 0) = some (.int .u8 y)) :
    ∃ c' w', (∀ ty, (Builtin.append_ #[34, 34] ty #[.slice (some ad) N N, .slice (some nd) 1 1]).run Tryd.prog w = .ok (.slice (some ⟨w.heap.size, 0, none⟩) (N + 1) c') w') ∧
      w'.ownsRow base 5 1 (.slice (some ⟨w.heap.size, 0, none⟩) (N + 1) c') (N + 1) (nums .u8 (xs ++ [y])) ∧ Below w.heap.size w w' := by
  obtain ⟨i, hi, hi2⟩ := Option.map_eq_some_iff.1 info5
  have hz : i.zero = some (.int .u8 0) := congrArg (fun t : Option Value × Nat × Nat => t.1) hi2
  have hsz : i.size = 1 := congrArg (fun t : Option Value × Nat × Nat => t.2.1) hi2
  have hby : i.bytes = 1 := congrArg (fun t : Option Value × Nat × Nat => t.2.2) hi2
  have hl : xs.length = N := hr.1
  have hold : ∀ j v, (nums .u8 xs)[j]? = some v → w.cell? (ad.add j) = some v := fun j v hv => by
    have hj : j < xs.length := by
      have := (List.getElem?_eq_some_iff.1 hv).1
      rwa [nums_length] at this
    obtain ⟨ad', e, hc⟩ := hr.2.2 (by omega)
    injection e with e
    subst e
    rw [hc j (by omega), ← hv]
    simp [nums, List.getD_eq_getElem?_getD, hj]
  have hnew : ∀ j v, (nums .u8 [y])[j]? = some v → w.cell? (nd.add j) = some v := fun j v hv => by
    have hj : j < 1 := by
      have := (List.getElem?_eq_some_iff.1 hv).1
      rwa [nums_length] at this
    obtain rfl : j = 0 := by omega
    rw [hy, ← hv]
    rfl
  refine ⟨grownCap w (N + 1) N 5, _, fun ty => run_append_grow (P := Tryd.prog) w 34 ty 5 i (.int .u8 0) Tryd.underlying34 hi hz ad N N (nums .u8 xs) (by rw [nums_length, hsz]; omega) hold nd 1 1 (nums .u8 [y]) (by rw [hsz]; rfl) hnew (by omega) (by omega) (growslice_fits (by omega) (by rw [hby]; omega)), ?_, ((Below.refl _ _).drew).alloc (Nat.le_refl _) _⟩
  have hge := grownCap_ge w (N + 1) N 5
  have hcm := grownCap_le_maxLen w (N + 1) N 5 (by simp only [maxLen]; omega)
  refine ⟨by simp [nums, hl], .inr ⟨w.heap.size, _, _, rfl, hbase, heap_alloc_new w.drew _, hge, hcm, ?_, ?_⟩⟩
  · simp only [Array.size_append, List.size_toArray, nums_length, hl]
    have hz1 : (Value.int IntKind.u8 0).cells.size = 1 := rfl
    rw [size_zeroCells, hz1]
    simp
    omega
  · simp only [Array.toList_append, nums_append, Nat.mul_one]
    have : (nums .u8 xs ++ nums .u8 [y]).length = N + 1 := by simp [nums, hl]
    rw [← this]
    exact List.take_left

/-- As one step of the walk: append of one byte to a slice that is full. -/
theorem print_append_clip {ops : Array Oper} {rest : List Oper} {o : Oper} {a : Act} {Q : Exit → Act → World → Prop} {W : World} (base : Nat) (hgd : o.guard = none) (s x : Operand)
    (ho : o.op = .call { callee := .builtin .append, args := #[s, x], argTypes := #[34, 34] }) (ad : Addr) (N : Nat) (xs : List Int) (y : Int) (hs : a.eval s = .slice (some ad) N N) (hx : a.eval x = .slice (some ⟨W.heap.size, 0, none⟩) 1 1)
    (HR : ReadsInt W .u8 (some ad) N xs) (hbase : base ≤ W.heap.size) (hN : N ≤ 140737488355000)
    (h : ∀ v1 w1, w1.ownsRow base 5 1 v1 (N + 1) (nums .u8 (xs ++ [y])) → Below W.heap.size W w1 → wpList Tryd.prog ops Q rest (a.put o.dst v1) w1) :
    wpList Tryd.prog ops Q (o :: rest) a (W.alloc (.cells #[.int .u8 y] 5)) := by
  have hb : Below W.heap.size W (W.alloc (.cells #[.int .u8 y] 5)) := (Below.refl _ _).alloc (Nat.le_refl _) _
  obtain ⟨c', w', hr, hO, hB⟩ := append_clip (W.alloc (.cells #[.int .u8 y] 5)) base (by simp; omega) ad N xs (HR.below hb) hN ⟨W.heap.size, 0, none⟩ y (by rw [Go.WideShapes.add_plain]; exact cell_of_row _ _ _ _ _ _ (heap_alloc_new W _))
  refine wpList_plain hgd fun K hK => ?_
  unfold Oper.wp execOp
  simp only [ho, resolve, invoke, builtin, Sem.run_bind, Sem.run_pure, Result.andThen_ok, List.map_toArray, List.map_cons, List.map_nil, hs, hx, hr]
  exact hK _ _ (h _ w' hO (hb.trans (hB.mono (by simp))))
end Go.Proofs.YthpfndbhibbkmaaDoor
