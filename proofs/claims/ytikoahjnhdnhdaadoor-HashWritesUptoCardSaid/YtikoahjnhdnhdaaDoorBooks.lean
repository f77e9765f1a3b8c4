/- SEVERAL HASHES, EACH WITH WHAT IT HAS TAKEN: a row of books of one's own, each a pointer to a state and a text; the states lie apart. -/
import Derived.Test.YtikoahjnhdnhdaaDoorEq
namespace Go.Proofs.YtikoahjnhdnhdaaDoor
open Go.ChangeShapes Go.WideShapes Go.ChangeAt Go.RowKit Go.Proofs.YtikoahjnhdnhdaaDoorW.PrintWords Go.Deep
set_option linter.unusedVariables false
set_option linter.unusedSimpArgs false

def bookV (L : Nat → Nat × ByteArray) (j : Nat) : Value := if j % 2 = 0 then .pointer (some ⟨(L (j / 2)).1, 0, none⟩) else .string (L (j / 2)).2
/-- The books' cells. -/
def bookCs (L : Nat → Nat × ByteArray) (N : Nat) : List Value := (List.range (N * 2)).map (bookV L)
def upd (L : Nat → Nat × ByteArray) (i : Nat) (p : Nat × ByteArray) : Nat → Nat × ByteArray := fun j => if j = i then p else L j
theorem upd_here (L : Nat → Nat × ByteArray) (i : Nat) (p : Nat × ByteArray) : upd L i p i = p := by simp [upd]
theorem upd_far (L : Nat → Nat × ByteArray) (i j : Nat) (p : Nat × ByteArray) (h : j ≠ i) : upd L i p j = L j := by simp [upd, h]
theorem bookCs_length (L : Nat → Nat × ByteArray) (N : Nat) : (bookCs L N).length = N * 2 := by simp [bookCs]
theorem bookCs_at (L : Nat → Nat × ByteArray) (N j : Nat) (h : j < N * 2) : (bookCs L N)[j]? = some (bookV L j) := by simp [bookCs, h]
theorem bookV_even (L : Nat → Nat × ByteArray) (i : Nat) : bookV L (i * 2) = .pointer (some ⟨(L i).1, 0, none⟩) := by
  unfold bookV
  rw [if_pos (by omega), show i * 2 / 2 = i by omega]
theorem bookV_odd (L : Nat → Nat × ByteArray) (i : Nat) : bookV L (i * 2 + 1) = .string (L i).2 := by
  unfold bookV
  rw [if_neg (by omega), show (i * 2 + 1) / 2 = i by omega]
theorem bookCs_snoc (L : Nat → Nat × ByteArray) (N : Nat) (p : Nat × ByteArray) : bookCs (upd L N p) (N + 1) = bookCs L N ++ [.pointer (some ⟨p.1, 0, none⟩), .string p.2] := by
  apply List.ext_getElem?
  intro j
  by_cases h : j < N * 2
  · rw [bookCs_at _ _ _ (by omega), List.getElem?_append_left (by rw [bookCs_length]; exact h), bookCs_at _ _ _ h]
    unfold bookV
    rw [upd_far _ _ _ _ (by omega)]
  · rw [List.getElem?_append_right (by rw [bookCs_length]; omega), bookCs_length]
    by_cases h0 : j = N * 2
    · subst h0
      rw [bookCs_at _ _ _ (by omega), bookV_even, upd_here, Nat.sub_self]
      rfl
    · by_cases h1 : j = N * 2 + 1
      · subst h1
        rw [bookCs_at _ _ _ (by omega), bookV_odd, upd_here, Nat.add_sub_cancel_left]
        rfl
      · rw [List.getElem?_eq_none (by rw [bookCs_length]; omega), List.getElem?_eq_none (by simp; omega)]
theorem bookCs_set (L : Nat → Nat × ByteArray) (N i : Nat) (hi : i < N) (s : ByteArray) : (bookCs L N).set (i * 2 + 1) (.string s) = bookCs (upd L i ((L i).1, s)) N := by
  apply List.ext_getElem?
  intro j
  by_cases h : j < N * 2
  · rw [bookCs_at _ _ _ h]
    by_cases h1 : j = i * 2 + 1
    · subst h1
      rw [List.getElem?_set_self (by rw [bookCs_length]; exact h), bookV_odd, upd_here]
    · rw [List.getElem?_set_ne (by omega), bookCs_at _ _ _ h]
      unfold bookV
      by_cases h2 : j / 2 = i
      · rw [h2, upd_here, if_pos (by omega), if_pos (by omega)]
      · rw [upd_far _ _ _ _ h2]
  · rw [List.getElem?_eq_none (by rw [List.length_set, bookCs_length]; omega), List.getElem?_eq_none (by rw [bookCs_length]; omega)]

/-- The books: N of them, in a row at gr. -/
structure Books (w : World) (base gr N c M : Nat) (L : Nat → Nat × ByteArray) : Prop where
  pos : 0 < N
  row : w.ownsRow base 41 2 (.slice (some ⟨gr, 0, none⟩) N c) N (bookCs L N)
  st : ∀ i, i < N → Hs w (L i).1 (bytesOf (L i).2)
  apart : ∀ i j, i < N → j < N → i ≠ j → (L i).1 ≠ (L j).1
  ge : ∀ i, i < N → base ≤ (L i).1
  size : ∀ i, i < N → (L i).2.size ≤ M
section
variable {w w1 : World} {base gr N c M : Nat} {L : Nat → Nat × ByteArray}
theorem Books.blk (h : Books w base gr N c M L) : ∃ cur, w.heap[gr]? = some (.cells cur 41 (0, 0)) ∧ base ≤ gr ∧ N * 2 ≤ cur.size := by
  rcases h.row.2 with ⟨h1, _⟩ | ⟨g, cap, cur, hv, hb, hg, hn, _, hc, _⟩
  · cases h1
  · injection hv with h1 h2 h3
    injection h1 with h1
    injection h1 with h1
    subst h1
    exact ⟨cur, hg, hb, by rw [hc]; exact Nat.mul_le_mul_right _ hn⟩
theorem Books.ne (h : Books w base gr N c M L) (i : Nat) (hi : i < N) : (L i).1 ≠ gr := by
  obtain ⟨cur, hg, _⟩ := h.blk
  obtain ⟨us, rest, S, _⟩ := h.st i hi
  intro e
  have h1 := S.blk
  rw [e] at h1
  have h2 := h1.symm.trans hg
  injection h2 with h2
  injection h2 with _ h3 _
  cases h3
theorem Books.cells (h : Books w base gr N c M L) (j : Nat) (hj : j < N * 2) : w.cell? ⟨gr, j, none⟩ = some (bookV L j) := by
  have h1 := h.row.cells (g := gr) rfl j _ (bookCs_at L N j hj)
  rwa [Go.WideShapes.add_plain, Nat.zero_add] at h1
theorem Books.ptr (h : Books w base gr N c M L) (i : Nat) (hi : i < N) : w.cell? ⟨gr, i * 2, none⟩ = some (.pointer (some ⟨(L i).1, 0, none⟩)) := by
  rw [h.cells _ (by omega), bookV_even]
theorem Books.txt (h : Books w base gr N c M L) (i : Nat) (hi : i < N) : w.cell? ⟨gr, i * 2 + 1, none⟩ = some (.string (L i).2) := by
  rw [h.cells _ (by omega), bookV_odd]
theorem Books.frozen (h : Books w base gr N c M L) (j : Nat) : w.frozen? ⟨gr, j, none⟩ = false := by
  obtain ⟨cur, hg, _⟩ := h.blk
  exact blk_frozen hg j
theorem Books.below (h : Books w base gr N c M L) (hb : Below w.heap.size w w1) : Books w1 base gr N c M L :=
  ⟨h.pos, pw_own_below h.row hb, fun i hi => (h.st i hi).below hb, h.apart, h.ge, h.size⟩
theorem Books.more (h : Books w base gr N c M L) {M' : Nat} (hM : M ≤ M') : Books w base gr N c M' L :=
  ⟨h.pos, h.row, h.st, h.apart, h.ge, fun i hi => Nat.le_trans (h.size i hi) hM⟩
/-- One state is written: it stands for another text then; its book says so behind the store. -/
theorem Books.write (h : Books w base gr N c M L) (i : Nat) (hi : i < N) (s : ByteArray) (hg : w.grownBy w1 (some (L i).1)) (hs : Hs w1 (L i).1 (bytesOf s)) {M' : Nat} (hM : M ≤ M') (hsz : s.size ≤ M') :
    Books (w1.setCell ⟨gr, i * 2 + 1, none⟩ (.string s)) base gr N c M' (upd L i ((L i).1, s)) := by
  have hrow : w1.ownsRow base 41 2 (.slice (some ⟨gr, 0, none⟩) N c) N (bookCs L N) := own_other h.row hg (.inr (fun e => h.ne i hi (by simp [Value.ownBlock] at e; exact e.symm)))
  have hst := hrow.stored (i * 2 + 1) (.string s)
  rw [bookCs_set L N i hi s] at hst
  refine ⟨h.pos, hst.1, fun j hj => ?_, fun a b ha hb hab => ?_, fun j hj => ?_, fun j hj => ?_⟩
  · by_cases hji : j = i
    · subst hji
      rw [upd_here]
      exact hs.other hst.2 (h.ne j hj)
    · rw [upd_far _ _ _ _ hji]
      exact ((h.st j hj).other hg (h.apart j i hj hi hji)).other hst.2 (h.ne j hj)
  · have e : ∀ j, (upd L i ((L i).1, s) j).1 = (L j).1 := fun j => by
      by_cases hji : j = i
      · subst hji; rw [upd_here]
      · rw [upd_far _ _ _ _ hji]
    rw [e, e]
    exact h.apart a b ha hb hab
  · by_cases hji : j = i
    · subst hji; rw [upd_here]; exact h.ge j hj
    · rw [upd_far _ _ _ _ hji]; exact h.ge j hj
  · by_cases hji : j = i
    · subst hji; rw [upd_here]; exact hsz
    · rw [upd_far _ _ _ _ hji]; exact Nat.le_trans (h.size j hj) hM
/-- A book is laid behind the others: what append leaves. -/
theorem Books.snoc (h : Books w base gr N c M L) {g : Nat} {s : ByteArray} {gr' c' : Nat} (hrow : w1.ownsRow base 41 2 (.slice (some ⟨gr', 0, none⟩) (N + 1) c') (N + 1) (bookCs L N ++ [.pointer (some ⟨g, 0, none⟩), .string s]))
    (hg : w.grownBy w1 (some gr)) (hs : Hs w g (bytesOf s)) (hnew : ∀ i, i < N → (L i).1 ≠ g) (hge : base ≤ g) (hne : g ≠ gr) (hsz : s.size ≤ M) : Books w1 base gr' (N + 1) c' M (upd L N (g, s)) := by
  refine ⟨by omega, by rw [bookCs_snoc]; exact hrow, fun j hj => ?_, fun a b ha hb hab => ?_, fun j hj => ?_, fun j hj => ?_⟩
  · by_cases hjn : j = N
    · subst hjn; rw [upd_here]; exact hs.other hg hne
    · rw [upd_far _ _ _ _ hjn]; exact (h.st j (by omega)).other hg (h.ne j (by omega))
  · by_cases h1 : a = N
    · subst h1
      rw [upd_here, upd_far _ _ _ _ (by omega)]
      exact (hnew b (by omega)).symm
    · by_cases h2 : b = N
      · subst h2
        rw [upd_here, upd_far _ _ _ _ h1]
        exact hnew a (by omega)
      · rw [upd_far _ _ _ _ h1, upd_far _ _ _ _ h2]
        exact h.apart a b (by omega) (by omega) hab
  · by_cases hjn : j = N
    · subst hjn; rw [upd_here]; exact hge
    · rw [upd_far _ _ _ _ hjn]; exact h.ge j (by omega)
  · by_cases hjn : j = N
    · subst hjn; rw [upd_here]; exact hsz
    · rw [upd_far _ _ _ _ hjn]; exact h.size j (by omega)
end
theorem info41 : (Tryd.prog.info? 41).map (fun i => (i.zero, i.size, i.bytes)) = some (some (.agg #[.pointer none, .string ⟨#[]⟩]), 2, 24) := by kernel_rfl
end Go.Proofs.YtikoahjnhdnhdaaDoor
