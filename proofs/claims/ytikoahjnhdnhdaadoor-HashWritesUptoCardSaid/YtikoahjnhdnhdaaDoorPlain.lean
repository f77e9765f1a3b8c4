/- A READING OF PLAIN DATA (whole numbers, bools, strings, arrays and structs of these) TELLS ITS CELLS: 'back d' are the cells that read as d. Condition: 'plainT P n t', a closed fact on the type. -/
import Derived.LaidLaws
import Derived.ChangeArms
import Derived.Lib.LaidTab
namespace Go.Proofs.YtikoahjnhdnhdaaDoor

mutual
def back {H : Type} : DataW H → List Value
  | .lit (.bool b) => [.bool b]
  | .lit (.int k n) => [.int k n]
  | .lit (.string s) => [.string ⟨s.toArray⟩]
  | .agg parts => backs parts
  | _ => []
def backs {H : Type} : List (DataW H) → List Value
  | [] => []
  | d :: r => back d ++ backs r
end

def fieldsAt (P : Program) : Nat → List (Nat × TypeId) → Bool
  | _, [] => true
  | n, (o, t) :: r => o == n && fieldsAt P (n + P.cellsOf t) r

def plainT (P : Program) : Nat → TypeId → Bool
  | 0, _ => false
  | n + 1, t =>
    match P.underlying t with
    | some .bool => P.cellsOf t == 1
    | some (.int _) => P.cellsOf t == 1
    | some .string => P.cellsOf t == 1
    | some (.array m e) => plainT P n e && P.cellsOf t == m * P.cellsOf e
    | some (.struct fs) => (fs.toList.all fun f => plainT P n f.type) && fieldsAt P 0 (fs.toList.map fun f => (f.offset, f.type)) && P.cellsOf t == (fs.toList.map fun f => P.cellsOf f.type).sum
    | _ => false

section
variable {H : Type} {enc : TypeId × Value → H} {P : Program} {w : World} {base : Nat} {sp : Nat → Bool} {held : Bool}

theorem mapM_cons_inv {α β : Type} {f : α → Option β} {a : α} {l : List α} {r : List β} (h : (a :: l).mapM f = some r) : ∃ b r', f a = some b ∧ l.mapM f = some r' ∧ r = b :: r' := by
  simp only [List.mapM_cons, Option.bind_eq_bind, Option.bind_eq_some_iff, Option.pure_def, Option.some.injEq] at h
  obtain ⟨b, hb, r', hr', rfl⟩ := h
  exact ⟨b, r', hb, hr', rfl⟩

/-- chunks of an array's cells, one behind the other -/
theorem chunks_back {f : List Value → Option (DataW H × List MemPlace)} (hf : ∀ cs x, f cs = some x → cs = back x.1) (c : Nat) : ∀ (m k : Nat) (cs : List Value) (xs : List (DataW H × List MemPlace)),
    ((List.range' k m).mapM fun i => f ((cs.drop (i * c)).take c)) = some xs → cs.length = (k + m) * c → cs.drop (k * c) = backs (xs.map (·.1)) := by
  intro m
  induction m with
  | zero =>
    intro k cs xs h hl
    simp at h
    subst h
    simp only [Nat.add_zero] at hl
    rw [List.drop_eq_nil_of_le (by omega)]
    rfl
  | succ m ih =>
    intro k cs xs h hl
    rw [List.range'_succ] at h
    obtain ⟨x, xs', h1, h2, rfl⟩ := mapM_cons_inv h
    have hk := ih (k + 1) cs xs' h2 (by rw [hl]; congr 1; omega)
    have h3 := hf _ _ h1
    rw [List.map_cons]
    show cs.drop (k * c) = back x.1 ++ backs (xs'.map (·.1))
    rw [← h3, ← hk]
    have e : (k + 1) * c = k * c + c := by rw [Nat.add_mul, Nat.one_mul]
    rw [e, ← List.drop_drop]
    exact (List.take_append_drop c _).symm

/-- a struct's fields, one behind the other -/
theorem fields_back {g : TypeId → List Value → Option (DataW H × List MemPlace)} : ∀ (fs : List Field) (n : Nat) (cs : List Value) (xs : List (DataW H × List MemPlace)),
    (∀ f ∈ fs, ∀ cs x, g f.type cs = some x → cs = back x.1) → fieldsAt P n (fs.map fun f => (f.offset, f.type)) = true → cs.length = n + (fs.map fun f => P.cellsOf f.type).sum →
    (fs.mapM fun f => g f.type ((cs.drop f.offset).take (P.cellsOf f.type))) = some xs → cs.drop n = backs (xs.map (·.1)) := by
  intro fs
  induction fs with
  | nil =>
    intro n cs xs _ _ hl h
    simp at h
    subst h
    rw [List.drop_eq_nil_of_le (by simp at hl; omega)]
    rfl
  | cons f fs ih =>
    intro n cs xs hg ho hl h
    obtain ⟨x, xs', h1, h2, rfl⟩ := mapM_cons_inv h
    simp only [List.map_cons, fieldsAt, Bool.and_eq_true, beq_iff_eq] at ho
    obtain ⟨hoff, ho⟩ := ho
    simp only [List.map_cons, List.sum_cons] at hl
    have hk := ih (n + P.cellsOf f.type) cs xs' (fun q hq => hg q (List.mem_cons_of_mem _ hq)) ho (by omega) h2
    have h3 := hg f (List.mem_cons_self ..) _ _ h1
    show cs.drop n = back x.1 ++ backs (xs'.map (·.1))
    rw [← h3, ← hk, hoff, ← List.drop_drop]
    exact (List.take_append_drop _ _).symm

theorem back_of_trod : ∀ (n fuel : Nat) (t : TypeId) (cs : List Value) (x : DataW H × List MemPlace), plainT P n t = true → DataW.trod enc P w base sp held fuel t cs = some x → cs = back x.1 := by
  intro n
  induction n with
  | zero => intro fuel t cs x h; cases h
  | succ n ih =>
    intro fuel t cs x hp h
    cases fuel with
    | zero => simp [DataW.trod] at h
    | succ fuel =>
      unfold plainT at hp
      unfold DataW.trod at h
      cases hu : P.underlying t with
      | none => rw [hu] at hp; cases hp
      | some d =>
        rw [hu] at hp h
        cases d with
        | bool =>
          dsimp only at h
          split at h <;> simp_all
          subst h
          rfl
        | int k =>
          dsimp only at h
          split at h <;> simp_all
          obtain ⟨⟨rfl, _⟩, rfl⟩ := h
          rfl
        | string =>
          dsimp only at h
          split at h <;> simp_all
          obtain ⟨_, rfl⟩ := h
          simp [back]
        | array m e =>
          simp only [Bool.and_eq_true, beq_iff_eq] at hp
          dsimp only at h
          split at h
          case isFalse => cases h
          rename_i hl
          obtain ⟨xs, hm, hx⟩ := Option.map_eq_some_iff.1 h
          subst hx
          rw [hp.2] at hl
          have := chunks_back (fun cs x hx => ih fuel e cs x hp.1 hx) (P.cellsOf e) m 0 cs xs (by rw [← List.range_eq_range']; exact hm) (by rw [hl, Nat.zero_add])
          simpa [back] using this
        | struct fs =>
          simp only [Bool.and_eq_true, beq_iff_eq, List.all_eq_true] at hp
          dsimp only at h
          split at h
          case isFalse => cases h
          rename_i hl
          obtain ⟨xs, hm, hx⟩ := Option.map_eq_some_iff.1 h
          subst hx
          rw [hp.2] at hl
          have := fields_back (P := P) (g := fun t cs => DataW.trod enc P w base sp held fuel t cs) fs.toList 0 cs xs (fun f hf cs x hx => ih fuel f.type cs x (hp.1.1 f hf) hx) hp.1.2 (by rw [hl, Nat.zero_add]) hm
          simpa [back] using this
        | _ => cases hp
end
end Go.Proofs.YtikoahjnhdnhdaaDoor
