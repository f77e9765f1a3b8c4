/- ARGUMENTS THAT ARE BYTES, AND INSTRUCTIONS, OPENED. -/
import Derived.Test.YthpfndbhibbkmaaDoorOpen
import Derived.Test.YthpfndbhibbkmaaDoorTake
import Derived.ChangeSame
namespace Go.Proofs.YthpfndbhibbkmaaDoor
open Go.ChangeShapes Go.WideShapes Go.ChangeAt Go.RowKit Go.Deep Go.Proofs.YthpfndbhibbkmaaDoorW.PrintWords
set_option linter.unusedVariables false

/-- The instructions of an argument: two cells each, from b, off. -/
structure InsIn (w : World) (a : Option Addr) (len cap b off : Nat) (L : Nat → Int × Int) : Prop where
  place : 0 < len → a = some ⟨b, off, none⟩ ∧ b < w.heap.size
  op : ∀ i, i < len → w.cell? ⟨b, off + i * 2, none⟩ = some (.int .i64 (L i).1)
  arg : ∀ i, i < len → w.cell? ⟨b, off + i * 2 + 1, none⟩ = some (.int .i64 (L i).2)
  wf : ∀ i, i < len → (Lit.int .i64 (L i).1).wf = true ∧ (Lit.int .i64 (L i).2).wf = true
  cap : len ≤ cap
theorem InsIn.below {w w1 : World} {a : Option Addr} {len cap b off : Nat} {L : Nat → Int × Int} (h : InsIn w a len cap b off L) (hb : Below w.heap.size w w1) : InsIn w1 a len cap b off L where
  place := fun hp => ⟨(h.place hp).1, Nat.lt_of_lt_of_le (h.place hp).2 hb.size⟩
  op := fun i hi => (hb.cell (p := ⟨b, off + i * 2, none⟩) (h.place (by omega)).2).trans (h.op i hi)
  arg := fun i hi => (hb.cell (p := ⟨b, off + i * 2 + 1, none⟩) (h.place (by omega)).2).trans (h.arg i hi)
  wf := h.wf
  cap := h.cap

section
variable {H : Type} {enc : TypeId × Value → H} {W : World} {base : Nat} {sp : Nat → Bool} {held : Bool}

theorem bytes_of_trod {P : Program} {t e : TypeId} {a : Option Addr} {len cap : Nat} {d : DataW H} {ps : List MemPlace} (hu : P.underlying t = some (.slice e)) (he : P.underlying e = some (.int .u8)) (hc : P.cellsOf e = 1)
    (h : DataW.Trod enc P W base sp held t (.slice a len cap) d ps) (hm : len * 1 ≤ 140737488351232) : ∃ bs : List Int, BytesIn W a len cap bs := by
  obtain ⟨fuel, hf⟩ := h
  rcases open_ints hu he hc hf with ⟨hcs, _⟩ | ⟨x, l, c, zs, hcs, _, hl, hcm, hz, _, hcell, hwz⟩
  · simp [Value.cells] at hcs
    obtain ⟨rfl, rfl, rfl⟩ := hcs
    exact ⟨[], ⟨⟨rfl, by omega, fun h => absurd h (by omega)⟩, by omega, fun _ => rfl, Nat.le_refl _⟩, fun i => by simp⟩
  · simp [Value.cells] at hcs
    obtain ⟨rfl, rfl, rfl⟩ := hcs
    have hlen : len ≤ zs.length := by rw [hz]; split <;> omega
    have hget : ∀ i, i < len → (zs.take len).getD i 0 = zs.getD i 0 := fun i hi => by
      simp [List.getD_eq_getElem?_getD, hi]
    refine ⟨zs.take len, ⟨⟨by rw [List.length_take]; omega, by omega, fun hp => ⟨x, rfl, fun j hj => by rw [hget j hj]; exact hcell j (by omega)⟩⟩, by omega, fun h => (by cases h), hl⟩, fun i => ?_⟩
    by_cases hi : i < len
    · rw [hget i hi]
      have hiz : i < zs.length := by omega
      rw [List.getD_eq_getElem?_getD, List.getElem?_eq_getElem hiz]
      exact bounds_u8 (hwz _ (List.getElem_mem hiz))
    · rw [List.getD_eq_getElem?_getD, List.getElem?_eq_none (by rw [List.length_take]; omega)]
      simp

theorem one_ins {fuel : Nat} {cs : List Value} {x : DataW H × List MemPlace} (h : DataW.trod enc Tryd.prog W base sp held fuel 41 cs = some x) :
    ∃ k A : Int, cs = [.int .i64 k, .int .i64 A] ∧ (Lit.int .i64 k).wf = true ∧ (Lit.int .i64 A).wf = true := by
  have c3 : Tryd.prog.cellsOf 3 = 1 := by kernel_rfl
  have c41 : Tryd.prog.cellsOf 41 = 2 := by kernel_rfl
  obtain ⟨y0, y1, m, rfl, hcl, h0, h1⟩ := trod_struct2 Tryd.underlying41 h
  rw [c41] at hcl
  match cs, hcl with
  | [u, v], _ =>
    simp [c3] at h0 h1
    obtain ⟨k, hk, _, hw⟩ := DataW.trod_int Tryd.underlying3 h0
    obtain ⟨A, hA, _, hv⟩ := DataW.trod_int Tryd.underlying3 h1
    injection hk with hk
    injection hA with hA
    subst hk
    subst hA
    exact ⟨k, A, rfl, hw, hv⟩

theorem ins_of_trod {t : TypeId} {a : Option Addr} {len cap : Nat} {d : DataW H} {ps : List MemPlace} (hu : Tryd.prog.underlying t = some (.slice 41)) (hc : Tryd.prog.cellsOf 41 = 2)
    (h : DataW.Trod enc Tryd.prog W base sp held t (.slice a len cap) d ps) : ∃ (L : Nat → Int × Int) (b off : Nat), InsIn W a len cap b off L ∧ True := by
  obtain ⟨fuel, hf⟩ := h
  rcases open_slice hu hf with ⟨hcs, _⟩ | ⟨x, l, c, m, n, D, Pl, hcs, hbase, hl, _, hm, hx, hel⟩
  · simp [Value.cells] at hcs
    obtain ⟨rfl, rfl, rfl⟩ := hcs
    exact ⟨fun _ => (0, 0), 0, 0, ⟨fun h => absurd h (by omega), fun i hi => absurd hi (by omega), fun i hi => absurd hi (by omega), fun i hi => absurd hi (by omega), Nat.le_refl _⟩, trivial⟩
  · simp [Value.cells] at hcs
    obtain ⟨rfl, rfl, rfl⟩ := hcs
    rw [hc] at hel
    have hlm : len ≤ m := by rw [hm]; split <;> omega
    have hex : ∀ i, i < len → ∃ L : Int × Int, (Lit.int .i64 L.1).wf = true ∧ (Lit.int .i64 L.2).wf = true ∧ W.cell? ((x.add (i * 2)).add 0) = some (.int .i64 L.1) ∧ W.cell? ((x.add (i * 2)).add 1) = some (.int .i64 L.2) := by
      intro i hi
      obtain ⟨cs', h1, h2⟩ := hel i (by omega)
      obtain ⟨k, A, rfl, hk, hA⟩ := one_ins h2
      obtain ⟨_, hlen, hcell⟩ := World.cells?_some h1
      exact ⟨(k, A), hk, hA, hcell 0 (by omega), hcell 1 (by omega)⟩
    by_cases hp : 0 < len
    · obtain ⟨L0, _, _, h0, _⟩ := hex 0 hp
      rw [Nat.zero_mul] at h0
      have hx0' : W.cell? (x.add 0) = some (.int .i64 L0.1) := by simpa [Addr.add] using h0
      obtain ⟨b, off, rfl⟩ := addr_plain hx0'
      have hex : ∀ i, i < len → ∃ L : Int × Int, (Lit.int .i64 L.1).wf = true ∧ (Lit.int .i64 L.2).wf = true ∧ W.cell? ⟨b, off + i * 2, none⟩ = some (.int .i64 L.1) ∧ W.cell? ⟨b, off + i * 2 + 1, none⟩ = some (.int .i64 L.2) := by
        intro i hi
        obtain ⟨L, u1, u2, u3, u4⟩ := hex i hi
        rw [Go.WideShapes.add_plain, Go.WideShapes.add_plain] at u3 u4
        exact ⟨L, u1, u2, u3, u4⟩
      refine ⟨fun i => if h : i < len then Classical.choose (hex i h) else (0, 0), b, off, ⟨fun _ => ⟨rfl, World.block_lt_of_cell? W _ hx0'⟩, fun i hi => ?_, fun i hi => ?_, fun i hi => ?_, hl⟩, trivial⟩
      · have hs := Classical.choose_spec (hex i hi)
        simp only [dif_pos hi]
        exact hs.2.2.1
      · have hs := Classical.choose_spec (hex i hi)
        simp only [dif_pos hi]
        exact hs.2.2.2
      · have hs := Classical.choose_spec (hex i hi)
        simp only [dif_pos hi]
        exact ⟨hs.1, hs.2.1⟩
    · exact ⟨fun _ => (0, 0), 0, 0, ⟨fun h => absurd h hp, fun i hi => absurd hi (by omega), fun i hi => absurd hi (by omega), fun i hi => absurd hi (by omega), hl⟩, trivial⟩
end
end Go.Proofs.YthpfndbhibbkmaaDoor
