/- AN ARGUMENT []string, OPENED: its strings, none of them longer than the form's reach. -/
import Derived.Test.YtikoahjnhdnhdaaDoorOpen
namespace Go.Proofs.YtikoahjnhdnhdaaDoor
open Go.ChangeShapes Go.WideShapes Go.ChangeAt Go.RowKit Go.Deep
set_option linter.unusedVariables false
section
variable {H : Type} {enc : TypeId × Value → H} {P : Program} {W : World} {base : Nat} {sp : Nat → Bool} {held : Bool}
theorem weights_strs {P : Program} {e : TypeId} {s : ByteArray} : ∀ (l : List ByteArray), s ∈ l → s.data.toList.length ∈ DataW.weightsAll (H := H) P e (strs l) := by
  intro l
  induction l with
  | nil => intro h; cases h
  | cons x l ih =>
    intro h
    simp only [strs, List.map_cons, DataW.weightsAll, List.mem_append]
    rcases List.mem_cons.1 h with rfl | h
    · exact .inl (by simp [DataW.weights])
    · exact .inr (ih h)
theorem strs_sized {t e : TypeId} {a : Option Addr} {len cap : Nat} {d : DataW H} {ps : List MemPlace} {ts : List TypeId} {ds : List (DataW H)} {j : Nat}
    (hsz : (DataW.weightsEach P ts ds).all (· ≤ reachBytes) = true) (ht : ts[j]? = some t) (hd : ds[j]? = some d) (hu : P.underlying t = some (.slice e)) (he : P.underlying e = some .string) (hc : P.cellsOf e = 1)
    (h : DataW.Trod enc P W base sp held t (.slice a len cap) d ps) : ∃ (ss : List ByteArray) (b off : Nat), At1 W a len b off (fun i => .string (ss.getD i ByteArray.empty)) ∧ ∀ i, i < len → (ss.getD i ByteArray.empty).size ≤ 140737488351232 := by
  obtain ⟨fuel, hf⟩ := h
  rcases open_strings hu he hc hf with ⟨hcs, _⟩ | ⟨x, l, c, ss, hcs, _, hl, hm, hz, hx, hcell, hws⟩
  · simp [Value.cells] at hcs
    obtain ⟨rfl, rfl, rfl⟩ := hcs
    exact ⟨[], 0, 0, ⟨fun h => absurd h (by omega), fun i hi => absurd hi (by omega)⟩, fun i hi => absurd hi (by omega)⟩
  · simp [Value.cells] at hcs
    obtain ⟨rfl, rfl, rfl⟩ := hcs
    obtain ⟨hx, _⟩ := Prod.mk.inj hx
    subst hx
    have hls : len ≤ ss.length := by rw [hz]; split <;> omega
    obtain ⟨b, off, h1⟩ := at1_of_rows (w := W) (x := x) (len := len) (f := fun i => .string (ss.getD i ByteArray.empty)) (fun i hi => hcell i (by omega))
    refine ⟨ss, b, off, h1, fun i hi => ?_⟩
    have hi' : i < ss.length := by omega
    have hget : ss.getD i ByteArray.empty = ss[i] := by rw [List.getD_eq_getElem?_getD, List.getElem?_eq_getElem hi']; rfl
    rw [hget]
    have hmem : ss[i] ∈ ss.take len := by
      rw [List.mem_take_iff_getElem]
      exact ⟨i, by omega, rfl⟩
    have hw := weights_strs (H := H) (P := P) (e := e) _ hmem
    have hall := List.all_eq_true.1 hsz _ (DataW.weights_mem_each ht hd (ss[i]).data.toList.length (by simp only [DataW.weights, hu]; exact List.mem_cons_of_mem _ (List.mem_append_left _ hw)))
    have : (ss[i]).data.toList.length ≤ reachBytes := by simpa using hall
    rw [Array.length_toList] at this
    exact this
end
end Go.Proofs.YtikoahjnhdnhdaaDoor
