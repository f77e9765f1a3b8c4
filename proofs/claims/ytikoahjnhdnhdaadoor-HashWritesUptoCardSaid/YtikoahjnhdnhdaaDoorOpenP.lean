/- AN ARGUMENT []Op, OPENED: each two whole numbers and a string, none longer than the second form's bound. -/
import Derived.Test.YtikoahjnhdnhdaaDoorBulk
import Derived.Test.YtikoahjnhdnhdaaDoorBooks
import Derived.Deep.Strs
namespace Go.Proofs.YtikoahjnhdnhdaaDoor
open Go.ChangeShapes Go.WideShapes Go.ChangeAt Go.RowKit Go.Deep Go.Proofs.YtikoahjnhdnhdaaDoorW.PrintWords
set_option linter.unusedVariables false

/-- The deeds of an argument: three cells each, from b, off. -/
structure OpsIn (w : World) (a : Option Addr) (len b off : Nat) (L : Nat → Int × Int × ByteArray) : Prop where
  place : 0 < len → a = some ⟨b, off, none⟩ ∧ b < w.heap.size
  kind : ∀ i, i < len → w.cell? ⟨b, off + i * 3, none⟩ = some (.int .i64 (L i).1)
  which : ∀ i, i < len → w.cell? ⟨b, off + i * 3 + 1, none⟩ = some (.int .i64 (L i).2.1)
  text : ∀ i, i < len → w.cell? ⟨b, off + i * 3 + 2, none⟩ = some (.string (L i).2.2)
  wf : ∀ i, i < len → (Lit.int .i64 (L i).1).wf = true ∧ (Lit.int .i64 (L i).2.1).wf = true
  size : ∀ i, i < len → (L i).2.2.size ≤ 1048576
theorem OpsIn.below {w w1 : World} {a : Option Addr} {len b off : Nat} {L : Nat → Int × Int × ByteArray} (h : OpsIn w a len b off L) (hb : Below w.heap.size w w1) : OpsIn w1 a len b off L where
  place := fun hp => ⟨(h.place hp).1, Nat.lt_of_lt_of_le (h.place hp).2 hb.size⟩
  kind := fun i hi => (hb.cell (p := ⟨b, off + i * 3, none⟩) (h.place (by omega)).2).trans (h.kind i hi)
  which := fun i hi => (hb.cell (p := ⟨b, off + i * 3 + 1, none⟩) (h.place (by omega)).2).trans (h.which i hi)
  text := fun i hi => (hb.cell (p := ⟨b, off + i * 3 + 2, none⟩) (h.place (by omega)).2).trans (h.text i hi)
  wf := h.wf
  size := h.size

section
variable {H : Type} {enc : TypeId × Value → H} {W : World} {base : Nat} {sp : Nat → Bool} {held : Bool}
theorem bulk_mem {d : DataW H} : ∀ (l : List (DataW H)), d ∈ l → Rows.uptoBulk d ≤ Rows.uptoBulkAll l := by
  intro l
  induction l with
  | nil => intro h; cases h
  | cons x l ih =>
    intro h
    simp only [Rows.uptoBulkAll]
    rcases List.mem_cons.1 h with rfl | h
    · omega
    · have := ih h
      omega
theorem one_op {fuel : Nat} {cs : List Value} {x : DataW H × List MemPlace} (h : DataW.trod enc Tryd.prog W base sp held fuel 46 cs = some x) :
    ∃ (k q : Int) (s : ByteArray), cs = [.int .i64 k, .int .i64 q, .string s] ∧ (Lit.int .i64 k).wf = true ∧ (Lit.int .i64 q).wf = true ∧ s.size ≤ Rows.uptoBulk x.1 := by
  have c3 : Tryd.prog.cellsOf 3 = 1 := by kernel_rfl
  have c9 : Tryd.prog.cellsOf 9 = 1 := by kernel_rfl
  have c46 : Tryd.prog.cellsOf 46 = 3 := by kernel_rfl
  obtain ⟨y0, y1, y2, m, rfl, hcl, h0, h1, h2⟩ := trod_struct3 Tryd.underlying46 h
  rw [c46] at hcl
  match cs, hcl with
  | [u, v, z], _ =>
    simp [c3, c9] at h0 h1 h2
    obtain ⟨k, hk, _, hw⟩ := DataW.trod_int Tryd.underlying3 h0
    obtain ⟨q, hq, _, hv⟩ := DataW.trod_int Tryd.underlying3 h1
    obtain ⟨s, hs, hy, _⟩ := DataW.trod_string Tryd.underlying9 h2
    injection hk with hk
    injection hq with hq
    injection hs with hs
    subst hk
    subst hq
    subst hs
    refine ⟨k, q, s, rfl, hw, hv, ?_⟩
    subst hy
    simp only [Rows.uptoBulk, Rows.uptoBulkAll]
    rw [Array.length_toList, show s.data.size = s.size from rfl]
    omega
theorem ops_of_trod {a : Option Addr} {len cap : Nat} {d : DataW H} {ps : List MemPlace} (hk : Rows.uptoBulk d ≤ 1048576)
    (h : DataW.Trod enc Tryd.prog W base sp held 38 (.slice a len cap) d ps) : ∃ (L : Nat → Int × Int × ByteArray) (b off : Nat), OpsIn W a len b off L := by
  have c46 : Tryd.prog.cellsOf 46 = 3 := by kernel_rfl
  obtain ⟨fuel, hf⟩ := h
  rcases open_slice Tryd.underlying38 hf with ⟨hcs, _⟩ | ⟨x, l, c, m, n, D, Pl, hcs, hbase, hl, _, hm, hx, hel⟩
  · simp [Value.cells] at hcs
    obtain ⟨rfl, rfl, rfl⟩ := hcs
    exact ⟨fun _ => (0, 0, ⟨#[]⟩), 0, 0, ⟨fun h => absurd h (by omega), fun i hi => absurd hi (by omega), fun i hi => absurd hi (by omega), fun i hi => absurd hi (by omega), fun i hi => absurd hi (by omega), fun i hi => absurd hi (by omega)⟩⟩
  · simp [Value.cells] at hcs
    obtain ⟨rfl, rfl, rfl⟩ := hcs
    obtain ⟨hx, _⟩ := Prod.mk.inj hx
    subst hx
    rw [c46] at hel
    have hlm : len ≤ m := by rw [hm]; split <;> omega
    simp only [Rows.uptoBulk] at hk
    have hex : ∀ i, i < len → ∃ L : Int × Int × ByteArray, (Lit.int .i64 L.1).wf = true ∧ (Lit.int .i64 L.2.1).wf = true ∧ L.2.2.size ≤ 1048576 ∧ W.cell? ((x.add (i * 3)).add 0) = some (.int .i64 L.1) ∧ W.cell? ((x.add (i * 3)).add 1) = some (.int .i64 L.2.1) ∧ W.cell? ((x.add (i * 3)).add 2) = some (.string L.2.2) := by
      intro i hi
      obtain ⟨cs', h1, h2⟩ := hel i (by omega)
      obtain ⟨k, q, s, rfl, hk1, hq1, hs1⟩ := one_op h2
      obtain ⟨_, hlen, hcell⟩ := World.cells?_some h1
      have hb := bulk_mem ((List.range len).map D) (List.mem_map.2 ⟨i, List.mem_range.2 hi, rfl⟩)
      exact ⟨(k, q, s), hk1, hq1, by simp only at hs1 ⊢; omega, hcell 0 (by omega), hcell 1 (by omega), hcell 2 (by omega)⟩
    by_cases hp : 0 < len
    · obtain ⟨L0, _, _, _, h0, _⟩ := hex 0 hp
      rw [Nat.zero_mul] at h0
      have hx0' : W.cell? (x.add 0) = some (.int .i64 L0.1) := by simpa [Addr.add] using h0
      obtain ⟨b, off, rfl⟩ := addr_plain hx0'
      have hex : ∀ i, i < len → ∃ L : Int × Int × ByteArray, (Lit.int .i64 L.1).wf = true ∧ (Lit.int .i64 L.2.1).wf = true ∧ L.2.2.size ≤ 1048576 ∧ W.cell? ⟨b, off + i * 3, none⟩ = some (.int .i64 L.1) ∧ W.cell? ⟨b, off + i * 3 + 1, none⟩ = some (.int .i64 L.2.1) ∧ W.cell? ⟨b, off + i * 3 + 2, none⟩ = some (.string L.2.2) := by
        intro i hi
        obtain ⟨L, u1, u2, u3, u4, u5, u6⟩ := hex i hi
        rw [Go.WideShapes.add_plain, Go.WideShapes.add_plain] at u4 u5 u6
        exact ⟨L, u1, u2, u3, u4, u5, u6⟩
      refine ⟨fun i => if h : i < len then Classical.choose (hex i h) else (0, 0, ⟨#[]⟩), b, off, ⟨fun _ => ⟨rfl, World.block_lt_of_cell? W _ hx0'⟩, fun i hi => ?_, fun i hi => ?_, fun i hi => ?_, fun i hi => ?_, fun i hi => ?_⟩⟩
      · have hs := Classical.choose_spec (hex i hi)
        simp only [dif_pos hi]
        exact hs.2.2.2.1
      · have hs := Classical.choose_spec (hex i hi)
        simp only [dif_pos hi]
        exact hs.2.2.2.2.1
      · have hs := Classical.choose_spec (hex i hi)
        simp only [dif_pos hi]
        exact hs.2.2.2.2.2
      · have hs := Classical.choose_spec (hex i hi)
        simp only [dif_pos hi]
        exact ⟨hs.1, hs.2.1⟩
      · have hs := Classical.choose_spec (hex i hi)
        simp only [dif_pos hi]
        exact hs.2.2.1
    · exact ⟨fun _ => (0, 0, ⟨#[]⟩), 0, 0, ⟨fun h => absurd h hp, fun i hi => absurd hi (by omega), fun i hi => absurd hi (by omega), fun i hi => absurd hi (by omega), fun i hi => absurd hi (by omega), fun i hi => absurd hi (by omega)⟩⟩
end
end Go.Proofs.YtikoahjnhdnhdaaDoor
