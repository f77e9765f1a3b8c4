/- A RUN BY THE KERNEL: a piece of code without loops, calls and draws is reckoned by a plain function; what it comes to is what the code comes to. For closed pieces (a table's builder). No condition. -/
import Derived.Calls
import Derived.KernelRfl
namespace Go.Proofs.YthpfndbhibbkmaaDoor

def runOps (P : Program) (ops : Array Oper) : List Nat → Act → World → Option (Act × World)
  | [], a, w => some (a, w)
  | i :: rest, a, w =>
    match ops[i]? with
    | none => runOps P ops rest a w
    | some o =>
      if Region.wanted o (yielded ops a.tmps) then
        match (execOp a.eval o).run P w with
        | .ok (.value v) w' => runOps P ops rest (a.put o.dst v) w'
        | .ok .skip w' => runOps P ops rest (a.put o.dst undef) w'
        | _ => none
      else runOps P ops rest (a.put o.dst undef) w

theorem wpOps_of_run {P : Program} {ops : Array Oper} {Q : Exit → Act → World → Prop} : ∀ (l : List Nat) (a : Act) (w : World) (a' : Act) (w' : World), runOps P ops l a w = some (a', w') → Q .normal a' w' → wpOps P ops Q l a w := by
  intro l
  induction l with
  | nil =>
    intro a w a' w' h hq
    simp only [runOps, Option.some.injEq, Prod.mk.injEq] at h
    obtain ⟨rfl, rfl⟩ := h
    exact hq
  | cons i rest ih =>
    intro a w a' w' h hq
    simp only [runOps] at h
    simp only [wpOps]
    cases ho : ops[i]? with
    | none =>
      simp only [ho] at h
      exact ih _ _ _ _ h hq
    | some o =>
      simp only [ho] at h ⊢
      by_cases hw : Region.wanted o (yielded ops a.tmps) = true
      · simp only [hw, if_true] at h ⊢
        refine .inl ?_
        unfold Oper.wp
        cases hr : (execOp a.eval o).run P w with
        | ok x w1 =>
          rw [hr] at h
          cases x with
          | value v => exact ih _ _ _ _ h hq
          | skip => exact ih _ _ _ _ h hq
          | _ => cases h
        | halt x w1 =>
          rw [hr] at h
          cases h
      · simp only [hw, if_false, Bool.false_eq_true] at h ⊢
        exact ih _ _ _ _ h hq

/-- The code's own walk: skip, regions in the text's order, seq, cond, ret. -/
def runCode (P : Program) : Code → Act → World → Option (Bool × Act × World)
  | .skip, a, w => some (true, a, w)
  | .region _ ops false, a, w => (runOps P ops (List.range ops.size) a w).map fun r => (true, r.1, r.2)
  | .seq x y, a, w =>
    match runCode P x a w with
    | some (true, a', w') => runCode P y a' w'
    | r => r
  | .cond c x y, a, w =>
    match a.eval c with
    | .bool true => runCode P x a w
    | .bool false => runCode P y a w
    | _ => none
  | .ret, a, w => some (false, a, w)
  | _, _, _ => none

theorem wp_of_run {P : Program} : ∀ (c : Code) (Q : Exit → Act → World → Prop) (a : Act) (w : World) (b : Bool) (a' : Act) (w' : World), runCode P c a w = some (b, a', w') → Q (if b then .normal else .ret) a' w' → c.wp P Q a w := by
  intro c
  induction c with
  | skip =>
    intro Q a w b a' w' h hq
    simp only [runCode, Option.some.injEq, Prod.mk.injEq] at h
    obtain ⟨rfl, rfl, rfl⟩ := h
    exact wp_skip hq
  | region id ops draw =>
    intro Q a w b a' w' h hq
    cases draw with
    | true => cases h
    | false =>
      simp only [runCode, Option.map_eq_some_iff] at h
      obtain ⟨⟨a1, w1⟩, h1, h2⟩ := h
      simp only [Prod.mk.injEq] at h2
      obtain ⟨rfl, rfl, rfl⟩ := h2
      exact wp_region (wpOps_of_run _ _ _ _ _ h1 hq)
  | seq x y ihx ihy =>
    intro Q a w b a' w' h hq
    simp only [runCode] at h
    cases hx : runCode P x a w with
    | none => rw [hx] at h; cases h
    | some r =>
      obtain ⟨b1, a1, w1⟩ := r
      rw [hx] at h
      cases b1 with
      | true => exact wp_seq (ihx _ _ _ _ _ _ hx (ihy _ _ _ _ _ _ h hq))
      | false =>
        simp only [Option.some.injEq, Prod.mk.injEq] at h
        obtain ⟨rfl, rfl, rfl⟩ := h
        exact wp_seq (ihx _ _ _ _ _ _ hx hq)
  | cond c x y ihx ihy =>
    intro Q a w b a' w' h hq
    simp only [runCode] at h
    split at h
    · rename_i hc
      exact wp_cond_true hc (ihx _ _ _ _ _ _ h hq)
    · rename_i hc
      exact wp_cond_false hc (ihy _ _ _ _ _ _ h hq)
    · cases h
  | ret =>
    intro Q a w b a' w' h hq
    simp only [runCode, Option.some.injEq, Prod.mk.injEq] at h
    obtain ⟨rfl, rfl, rfl⟩ := h
    exact wp_ret hq
  | _ => intro Q a w b a' w' h; cases h

/-- A function whose body is such a piece: what it returns, and the world behind it. -/
theorem calls_of_run {P : Program} {f : FuncId} {fn : Func} {c : Code} {args : Array Value} {w w' : World} {v : Value} (hf : P.funcs[f]? = some fn) (hb : fn.body = some c)
    (hr : ((runCode P c { tmps := args ++ Array.replicate (fn.ntmps - args.size) undef, defers := [] } w).bind fun r => match (results fn r.2.1.tmps).run P r.2.2 with | .ok v w1 => some (r.2.1.defers.isEmpty, v, w1, r.2.2) | _ => none) = some (true, v, w', w')) :
    Calls P f args w fun e w1 => e = .returned v ∧ w' = w1 := by
  refine calls_of_wp hf hb ?_
  cases hc : runCode P c { tmps := args ++ Array.replicate (fn.ntmps - args.size) undef, defers := [] } w with
  | none => rw [hc] at hr; cases hr
  | some r =>
    obtain ⟨b, a1, w1⟩ := r
    rw [hc] at hr
    simp only [Option.bind_some] at hr
    split at hr
    · rename_i v1 w2 hres
      simp only [Option.some.injEq, Prod.mk.injEq] at hr
      obtain ⟨hd, rfl, rfl, rfl⟩ := hr
      refine wp_of_run c _ _ _ b a1 _ hc ?_
      have hd' : a1.defers = [] := by simpa using hd
      cases b
      · exact ⟨hd', _, hres, rfl, rfl⟩
      · exact ⟨hd', _, hres, rfl, rfl⟩
    · cases hr
end Go.Proofs.YthpfndbhibbkmaaDoor
