/- An append of one element (of any number of cells) to a slice that is full: a new row. As one step of the walk. -/
import Derived.Test.YthpfndbhibbkmaaDoorListRef
namespace Go.Proofs.YthpfndbhibbkmaaDoor
open Go.ChangeShapes Go.WideShapes Go.ChangeAt Go.RowKit Go.Proofs.YthpfndbhibbkmaaDoorW.PrintWords
set_option linter.unusedVariables false
set_option linter.unusedSimpArgs false

theorem print_clip_cells {ops : Array Oper} {rest : List Oper} {o : Oper} {a : Act} {Q : Exit → Act → World → Prop} {W : World} (base : Nat) (hgd : o.guard = none) (s x : Operand) (t e : TypeId) (z : Value) (size bytes : Nat)
    (ho : o.op = .call { callee := .builtin .append, args := #[s, x], argTypes := #[t, t] })
    (ht : Tryd.prog.underlying t = some (.slice e)) (hinfo : (Tryd.prog.info? e).map (fun i => (i.zero, i.size, i.bytes)) = some (some z, size, bytes)) (hz : z.cells.size = size)
    (ad : Addr) (N : Nat) (olds news : List Value) (hlo : olds.length = N * size) (holds : ∀ j v, olds[j]? = some v → W.cell? (ad.add j) = some v) (hln : news.length = size)
    (hs : a.eval s = .slice (some ad) N N) (hx : a.eval x = .slice (some ⟨W.heap.size, 0, none⟩) 1 1) (hbase : base ≤ W.heap.size) (hN : (N + 1) * bytes ≤ 140737488355328) (hN2 : N ≤ 140737488355328)
    (h : ∀ v1 w1, w1.ownsRow base e size v1 (N + 1) (olds ++ news) → Below W.heap.size W w1 → wpList Tryd.prog ops Q rest (a.put o.dst v1) w1) :
    wpList Tryd.prog ops Q (o :: rest) a (W.alloc (.cells news.toArray e)) := by
  obtain ⟨i, hi, hi2⟩ := Option.map_eq_some_iff.1 hinfo
  have hz0 : i.zero = some z := congrArg (fun t : Option Value × Nat × Nat => t.1) hi2
  have hsz : i.size = size := congrArg (fun t : Option Value × Nat × Nat => t.2.1) hi2
  have hby : i.bytes = bytes := congrArg (fun t : Option Value × Nat × Nat => t.2.2) hi2
  have hb : Below W.heap.size W (W.alloc (.cells news.toArray e)) := (Below.refl _ _).alloc (Nat.le_refl _) _
  have holds' : ∀ j v, olds[j]? = some v → (W.alloc (.cells news.toArray e)).cell? (ad.add j) = some v := fun j v hv => by
    have h1 := holds j v hv
    exact (hb.cell (World.block_lt_of_cell? W _ h1)).trans h1
  have hnew : ∀ j v, news[j]? = some v → (W.alloc (.cells news.toArray e)).cell? ((⟨W.heap.size, 0, none⟩ : Addr).add j) = some v := fun j v hv => by
    rw [Go.WideShapes.add_plain, Nat.zero_add, cell_of_row _ _ _ _ _ _ (heap_alloc_new W _)]
    simpa using hv
  have hrun := fun ty => run_append_grow (P := Tryd.prog) (W.alloc (.cells news.toArray e)) t ty e i z ht hi hz0 ad N N olds (by rw [hsz]; exact hlo) holds' ⟨W.heap.size, 0, none⟩ 1 1 news (by rw [hsz, Nat.one_mul]; exact hln) hnew (by omega) (by omega) (growslice_fits (by omega) (by rw [hby]; exact hN))
  refine wpList_plain hgd fun K hK => ?_
  unfold Oper.wp execOp
  simp only [ho, resolve, invoke, builtin, Sem.run_bind, Sem.run_pure, Result.andThen_ok, List.map_toArray, List.map_cons, List.map_nil, hs, hx, hrun]
  refine hK _ _ (h _ _ ?_ ((hb.drew).alloc (by simp) _))
  have hge := grownCap_ge (W.alloc (.cells news.toArray e)) (N + 1) N e
  have hcm := grownCap_le_maxLen (W.alloc (.cells news.toArray e)) (N + 1) N e (by simp only [maxLen]; omega)
  refine ⟨by rw [List.length_append, hlo, hln, Nat.add_mul, Nat.one_mul], .inr ⟨_, _, _, rfl, by simp; omega, heap_alloc_new (W.alloc (.cells news.toArray e)).drew _, hge, hcm, ?_, ?_⟩⟩
  · simp only [Array.size_append, List.size_toArray, size_zeroCells, hz, hlo, hln]
    rw [← Nat.succ_mul, ← Nat.add_mul]
    congr 1
    omega
  · simp only [Array.toList_append]
    have : (olds ++ news).length = (N + 1) * size := by rw [List.length_append, hlo, hln, Nat.add_mul, Nat.one_mul]
    rw [← this]
    exact List.take_left
end Go.Proofs.YthpfndbhibbkmaaDoor
