/- AN APPEND OF ONE ELEMENT to a slice that is either full and another's, or a row of one's own: as one step of the walk; another slice of the same two kinds lives on. -/
import Derived.Test.YthpfndbhibbkmaaDoorClip
namespace Go.Proofs.YthpfndbhibbkmaaDoor
open Go.ChangeShapes Go.WideShapes Go.ChangeAt Go.RowKit Go.Proofs.YthpfndbhibbkmaaDoorW.PrintWords
set_option linter.unusedVariables false
set_option linter.unusedSimpArgs false

/-- A slice of N elements, full, ahead of base; or a row of one's own of no more than N + j. -/
def Grow (W : World) (base : Nat) (e : TypeId) (size N j : Nat) (v : Value) : Prop :=
  (∃ g, v = .slice (some ⟨g, 0, none⟩) N N ∧ g < base ∧ ∃ olds : List Value, olds.length = N * size ∧ ∀ j v, olds[j]? = some v → W.cell? ⟨g, j, none⟩ = some v) ∨ ∃ m xs, m ≤ N + j ∧ W.ownsRow base e size v m xs

theorem Grow.below {W W1 : World} {base : Nat} {e : TypeId} {size N j : Nat} {v : Value} (h : Grow W base e size N j v) (hb : Below W.heap.size W W1) : Grow W1 base e size N j v := by
  rcases h with ⟨g, rfl, hg, olds, h1, h2⟩ | ⟨m, xs, hm, h⟩
  · exact .inl ⟨g, rfl, hg, olds, h1, fun j v hv => pw_cell_below hb (h2 j v hv)⟩
  · exact .inr ⟨m, xs, hm, pw_own_below h hb⟩

theorem print_grow {ops : Array Oper} {rest : List Oper} {o : Oper} {a : Act} {Q : Exit → Act → World → Prop} {W : World} (base : Nat) (hgd : o.guard = none) (s x : Operand) (t e : TypeId) (z : Value) (size bytes : Nat)
    (ho : o.op = .call { callee := .builtin .append, args := #[s, x], argTypes := #[t, t] })
    (ht : Tryd.prog.underlying t = some (.slice e)) (hinfo : (Tryd.prog.info? e).map (fun i => (i.zero, i.size, i.bytes)) = some (some z, size, bytes)) (hz : z.cells.size = size) (hs0 : 0 < size) (hb0 : 0 < bytes)
    (N j : Nat) (v : Value) (news : List Value) (hln : news.length = size) (h1 : ∀ u ∈ news, u.oneCell' = true) (hG : Grow W base e size N j v)
    (hs : a.eval s = v) (hx : a.eval x = .slice (some ⟨W.heap.size, 0, none⟩) 1 1) (hbase : base ≤ W.heap.size) (hN : (N + j + 1) * bytes ≤ 140737488355328)
    (h : ∀ v1 w1, Grow w1 base e size N (j + 1) v1 → Below base W w1 → (∀ e' size' j' v', e' ≠ e → Grow W base e' size' N j' v' → Grow w1 base e' size' N j' v') → wpList Tryd.prog ops Q rest (a.put o.dst v1) w1) :
    wpList Tryd.prog ops Q (o :: rest) a (W.alloc (.cells news.toArray e)) := by
  have hb : N + j + 1 ≤ 140737488355328 := Nat.le_trans (Nat.le_mul_of_pos_right _ hb0) hN
  rcases hG with ⟨g, rfl, hg, olds, hlo, hold⟩ | ⟨m, xs, hm, HO⟩
  · refine print_clip_cells base hgd s x t e z size bytes ho ht hinfo hz ⟨g, 0, none⟩ N olds news hlo (fun j v hv => ?_) hln hs hx hbase (Nat.le_trans (Nat.mul_le_mul_right _ (by omega)) hN) (by omega) ?_
    · rw [Go.WideShapes.add_plain, Nat.zero_add]
      exact hold j v hv
    · intro v1 w1 HO1 HB
      refine h v1 w1 (.inr ⟨N + 1, _, by omega, HO1⟩) (HB.mono hbase) fun e' size' j' v' hne hG' => hG'.below HB
  · refine print_append_cells (w0 := W) base hgd s x t e z size bytes ho ht hinfo hz hs0 hb0 v m xs news hs hx hln h1 HO (Below.refl _ _) hbase (Nat.le_trans (Nat.mul_le_mul_right _ (by omega)) hN) ?_
    intro v1 w1 HO1 HB HG _
    refine h v1 w1 (.inr ⟨m + 1, _, by omega, HO1⟩) HB fun e' size' j' v' hne hG' => ?_
    rcases hG' with ⟨g, rfl, hg, olds, hlo, hold⟩ | ⟨m', xs', hm', HO'⟩
    · exact .inl ⟨g, rfl, hg, olds, hlo, fun j v hv => (HB.cell (p := ⟨g, j, none⟩) hg).trans (hold j v hv)⟩
    · exact .inr ⟨m', xs', hm', own_other HO' HG (own_type_ne HO' HO hne)⟩
end Go.Proofs.YthpfndbhibbkmaaDoor
