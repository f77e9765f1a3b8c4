/- A HASH's STATE IN MEMORY: eight words, the rest, how many bytes; and the table of the rounds. -/
import Derived.Test.YtikoahjnhdnhdaaDoorBase
namespace Go.Proofs.YtikoahjnhdnhdaaDoor
open Go.ChangeShapes Go.WideShapes Go.ChangeAt Go.RowKit Go.Proofs.YtikoahjnhdnhdaaDoorW.PrintWords Go.Deep
set_option linter.unusedVariables false

/-- The words that are added, one a round. -/
def RL : List Int := [1116352408, 1899447441, 3049323471, 3921009573, 961987163, 1508970993, 2453635748, 2870763221, 3624381080, 310598401, 607225278, 1426881987, 1925078388, 2162078206, 2614888103, 3248222580, 3835390401, 4022224774, 264347078, 604807628, 770255983, 1249150122, 1555081692, 1996064986, 2554220882, 2821834349, 2952996808, 3210313671, 3336571891, 3584528711, 113926993, 338241895, 666307205, 773529912, 1294757372, 1396182291, 1695183700, 1986661051, 2177026350, 2456956037, 2730485921, 2820302411, 3259730800, 3345764771, 3516065817, 3600352804, 4094571909, 275423344, 430227734, 506948616, 659060556, 883997877, 958139571, 1322822218, 1537002063, 1747873779, 1955562222, 2024104815, 2227730452, 2361852424, 2428436474, 2756734187, 3204031479, 3329325298]
theorem RL_length : RL.length = 64 := by decide
/-- The words at the beginning. -/
def H0 : List Int := [1779033703, 3144134277, 1013904242, 2773480762, 1359893119, 2600822924, 528734635, 1541459225]
theorem H0_length : H0.length = 8 := rfl
@[irreducible] def rlCells : Array Value := (nums .u32 RL).toArray
theorem rlCells_eq : rlCells = (nums .u32 RL).toArray := by unfold rlCells; rfl
theorem rlCells_size : rlCells.size = 64 := by rw [rlCells_eq]; simp [nums, RL_length]
theorem rlCells_at (k : Nat) (h : k < 64) : rlCells[k]? = some (.int .u32 (RL.getD k 0)) := by rw [rlCells_eq]; exact nums_at _ _ _ (by rw [RL_length]; exact h)
/-- The world holds the table of the rounds. -/
def Tabs (w : World) : Prop := ∃ t fr, w.heap[0]? = some (.cells rlCells t fr)
theorem Tabs.lt {w : World} (h : Tabs w) : 0 < w.heap.size := by obtain ⟨_, _, h⟩ := h; exact (Array.getElem?_eq_some_iff.1 h).1
theorem Tabs.below {w w' : World} (h : Tabs w) (hb : Below w.heap.size w w') : Tabs w' := by
  have hl := h.lt
  obtain ⟨t, fr, h⟩ := h
  exact ⟨t, fr, (hb.block 0 hl).trans h⟩
theorem Tabs.grown {w w' : World} (h : Tabs w) {g : Nat} (hg : w.grownBy w' (some g)) (hp : 0 < g) : Tabs w' := by
  have hl := h.lt
  obtain ⟨t, fr, h⟩ := h
  exact ⟨t, fr, (hg.block 0 hl (fun e => by injection e with e; omega)).trans h⟩
theorem Tabs.load {w : World} (h : Tabs w) : (load50 (.pointer (some ⟨0, 0, none⟩))).run Tryd.prog w = .ok (.agg rlCells) w := by
  obtain ⟨t, fr, h⟩ := h
  have hr : w.rangeAt 0 0 rlCells.toList := fun j v hv => by
    rw [Nat.zero_add, cell_of_row w 0 _ _ t fr h]
    simpa using hv
  have := run_load50 w 0 0 rlCells.toList (by rw [Array.length_toList, rlCells_size]) hr
  simpa using this

/-- The state's cells. -/
def hcs (h rest : List Int) (n : Int) : Array Value := (nums .u32 h ++ nums .u8 rest ++ [Value.int .i64 n]).toArray
theorem hcs_size {h rest : List Int} (n : Int) (hh : h.length = 8) (hr : rest.length = 64) : (hcs h rest n).size = 73 := by simp [hcs, nums, hh, hr]
theorem hcs_h {h rest : List Int} {n : Int} (hh : h.length = 8) (i : Nat) (hi : i < 8) : (hcs h rest n)[i]? = some (.int .u32 (h.getD i 0)) := by
  unfold hcs
  rw [List.getElem?_toArray, List.append_assoc, List.getElem?_append_left (by rw [nums_length]; omega)]
  simp [nums, hh, hi, List.getD_eq_getElem?_getD]
theorem hcs_rest {h rest : List Int} {n : Int} (hh : h.length = 8) (hr : rest.length = 64) (i : Nat) (hi : i < 64) : (hcs h rest n)[8 + i]? = some (.int .u8 (rest.getD i 0)) := by
  unfold hcs
  rw [List.getElem?_toArray, List.append_assoc, List.getElem?_append_right (by rw [nums_length]; omega), nums_length, hh, Nat.add_sub_cancel_left, List.getElem?_append_left (by rw [nums_length]; omega)]
  simp [nums, hr, hi, List.getD_eq_getElem?_getD]
theorem hcs_n {h rest : List Int} {n : Int} (hh : h.length = 8) (hr : rest.length = 64) : (hcs h rest n)[72]? = some (.int .i64 n) := by
  unfold hcs
  rw [List.getElem?_toArray, List.getElem?_append_right (by simp [nums, hh, hr])]
  simp [nums, hh, hr]
theorem hcs_set_h {h rest : List Int} {n : Int} (hh : h.length = 8) (i : Nat) (hi : i < 8) (x : Int) : (hcs h rest n).setIfInBounds i (.int .u32 x) = hcs (h.set i x) rest n := by
  unfold hcs
  apply Array.toList_inj.1
  rw [Array.toList_setIfInBounds]
  show List.set (nums .u32 h ++ nums .u8 rest ++ [Value.int .i64 n]) i (.int .u32 x) = nums .u32 (h.set i x) ++ nums .u8 rest ++ [Value.int .i64 n]
  rw [List.append_assoc, List.set_append_left _ _ (by rw [nums_length]; omega), ← List.append_assoc]
  simp [nums, List.map_set]
theorem hcs_set_n {h rest : List Int} {n : Int} (hh : h.length = 8) (hr : rest.length = 64) (x : Int) : (hcs h rest n).setIfInBounds 72 (.int .i64 x) = hcs h rest x := by
  unfold hcs
  apply Array.toList_inj.1
  rw [Array.toList_setIfInBounds]
  show List.set (nums .u32 h ++ nums .u8 rest ++ [Value.int .i64 n]) 72 (.int .i64 x) = nums .u32 h ++ nums .u8 rest ++ [Value.int .i64 x]
  rw [List.set_append_right _ _ (by simp [nums, hh, hr])]
  simp [nums, hh, hr]
theorem hcs_one (h rest : List Int) (n : Int) : ∀ v ∈ (hcs h rest n).toList, v.oneCell' = true := by
  intro v hv
  simp [hcs, nums] at hv
  rcases hv with ⟨x, _, rfl⟩ | ⟨x, _, rfl⟩ | rfl <;> rfl

/-- A state at block g. -/
structure St (w : World) (g : Nat) (h rest : List Int) (n : Int) : Prop where
  blk : Bk 57 w g (hcs h rest n)
  hl : h.length = 8
  rl : rest.length = 64
theorem St.below {w w1 : World} {g : Nat} {h rest : List Int} {n : Int} (s : St w g h rest n) (hb : Below w.heap.size w w1) : St w1 g h rest n := ⟨s.blk.below hb, s.hl, s.rl⟩
theorem St.other {w w1 : World} {g b : Nat} {h rest : List Int} {n : Int} (s : St w g h rest n) (hg : w.grownBy w1 (some b)) (hne : g ≠ b) : St w1 g h rest n := ⟨s.blk.other hg hne, s.hl, s.rl⟩
theorem St.h_at {w : World} {g : Nat} {h rest : List Int} {n : Int} (s : St w g h rest n) (i : Nat) (hi : i < 8) : w.cell? ⟨g, i, none⟩ = some (.int .u32 (h.getD i 0)) := (s.blk.cell i).trans (hcs_h s.hl i hi)
theorem St.rest_at {w : World} {g : Nat} {h rest : List Int} {n : Int} (s : St w g h rest n) (i : Nat) (hi : i < 64) : w.cell? ⟨g, 8 + i, none⟩ = some (.int .u8 (rest.getD i 0)) := (s.blk.cell _).trans (hcs_rest s.hl s.rl i hi)
theorem St.n_at {w : World} {g : Nat} {h rest : List Int} {n : Int} (s : St w g h rest n) : w.cell? ⟨g, 72, none⟩ = some (.int .i64 n) := (s.blk.cell _).trans (hcs_n s.hl s.rl)
theorem St.set_h {w : World} {g : Nat} {h rest : List Int} {n : Int} (s : St w g h rest n) (i : Nat) (hi : i < 8) (x : Int) : St (w.setCell ⟨g, i, none⟩ (.int .u32 x)) g (h.set i x) rest n :=
  ⟨by have := s.blk.set i (.int .u32 x); rwa [hcs_set_h s.hl i hi] at this, by rw [List.length_set]; exact s.hl, s.rl⟩
theorem St.set_n {w : World} {g : Nat} {h rest : List Int} {n : Int} (s : St w g h rest n) (x : Int) : St (w.setCell ⟨g, 72, none⟩ (.int .i64 x)) g h rest x :=
  ⟨by have := s.blk.set 72 (.int .i64 x); rwa [hcs_set_n s.hl s.rl] at this, s.hl, s.rl⟩
theorem St.load_h {w : World} {g : Nat} {h rest : List Int} {n : Int} (s : St w g h rest n) : (load52 (.pointer (some ⟨g, 0, none⟩))).run Tryd.prog w = .ok (.agg (nums .u32 h).toArray) w :=
  run_load52 w g 0 (nums .u32 h) (by rw [nums_length]; exact s.hl) (s.blk.range_at 0 _ fun j v hv => by
    have hj : j < 8 := by have := (List.getElem?_eq_some_iff.1 hv).1; rw [nums_length, s.hl] at this; exact this
    rw [Nat.zero_add, hcs_h s.hl j hj, ← hv]
    simp [nums, s.hl, hj, List.getD_eq_getElem?_getD])
theorem St.load {w : World} {g : Nat} {h rest : List Int} {n : Int} (s : St w g h rest n) : (load57 (.pointer (some ⟨g, 0, none⟩))).run Tryd.prog w = .ok (.agg (hcs h rest n)) w := by
  have := run_load57 w g 0 (hcs h rest n).toList (by rw [Array.length_toList]; exact hcs_size n s.hl s.rl) s.blk.range
  simpa using this
end Go.Proofs.YtikoahjnhdnhdaaDoor
