/- WORDS FOR THE WALKS over blocks of cells: bytes that are read; what stands behind a store; eight words stored whole. -/
import Derived.Test.YtikoahjnhdnhdaaDoorCells
import Derived.Test.YtikoahjnhdnhdaaDoorSha
import Derived.IntWalk
namespace Go.Proofs.YtikoahjnhdnhdaaDoor
open Go.ChangeShapes Go.WideShapes Go.ChangeAt Go.RowKit Go.Proofs.YtikoahjnhdnhdaaDoorW.PrintWords Go.Deep
set_option linter.unusedVariables false
set_option linter.unusedSimpArgs false

/-- Bytes that are read. -/
structure Bytes (w : World) (a : Option Addr) (n : Nat) (bs : List Int) : Prop where
  reads : ReadsInt w .u8 a n bs
theorem Bytes.below {w w1 : World} {a : Option Addr} {n : Nat} {bs : List Int} (h : Bytes w a n bs) (hb : Below w.heap.size w w1) : Bytes w1 a n bs := ⟨h.reads.below hb⟩
theorem Bytes.at_ {w : World} {a : Option Addr} {n : Nat} {bs : List Int} (h : Bytes w a n bs) (hn : 0 < n) : ∃ b o, a = some ⟨b, o, none⟩ ∧ ∀ j, j < n → w.cell? ⟨b, o + j, none⟩ = some (.int .u8 (bs.getD j 0)) := by
  obtain ⟨ad, rfl, hc⟩ := h.reads.2.2 hn
  obtain ⟨b, o, sp⟩ := ad
  have := World.cell?_spot (hc 0 hn)
  have hs : sp = none := by simpa [Addr.add] using this
  subst hs
  refine ⟨b, o, rfl, fun j hj => ?_⟩
  have := hc j hj
  rwa [Go.WideShapes.add_plain] at this

@[irreducible] def cellOr (w : World) (p : Addr) : Value := (w.cell? p).getD undef
theorem cellOr_some {w : World} {p : Addr} {v : Value} (h : w.cell? p = some v) : w.cell? p = some (cellOr w p) := by
  unfold cellOr
  rw [h]
  rfl
theorem cellOr_set {w : World} {p : Addr} {v : Value} (h : w.cell? p = some v) (u : Value) : (w.setCell p u).cell? p = some (cellOr (w.setCell p u) p) :=
  cellOr_some (by first | exact World.cell?_setCell_same h | exact World.cell?_setCell_same _ _ _ h | exact World.cell?_setCell_same _ _ h | exact World.cell?_setCell_same _ h)
theorem cell_off {w : World} {b i j : Nat} {v : Value} (h : w.cell? ⟨b, i, none⟩ = some v) (hne : j ≠ i) (u : Value) : (w.setCell ⟨b, j, none⟩ u).cell? ⟨b, i, none⟩ = some v :=
  (World.cell?_setCell_other w ⟨b, j, none⟩ ⟨b, i, none⟩ u (fun e => hne (by injection e))).trans h
theorem only_set {a w : World} {g : Nat} (h : a.grownBy w (some g)) (i : Nat) (u : Value) : a.grownBy (w.setCell ⟨g, i, none⟩ u) (some g) :=
  ⟨h.os, h.tape, h.output, by simpa [World.setCell] using h.size, fun k hk hne => (Below.heap_setCell w ⟨g, i, none⟩ u k (fun e => hne (by rw [e]))).trans (h.block k hk hne)⟩
theorem only_drew {a w : World} {r : Option Nat} (h : a.grownBy w r) (n : Nat) : a.grownBy (w.drewN n) r := ⟨h.os, h.tape, h.output, h.size, h.block⟩
theorem only_as {a w w' : World} {r : Option Nat} (h : a.grownBy w r) (h1 : w'.heap = w.heap) (h2 : w'.os = w.os) (h3 : w'.tape = w.tape) (h4 : w'.output = w.output) : a.grownBy w' r :=
  ⟨h2.trans h.os, h3.trans h.tape, h4.trans h.output, by rw [h1]; exact h.size, fun k hk hne => by rw [h1]; exact h.block k hk hne⟩
theorem Bk.other {t : TypeId} {w w1 : World} {b g : Nat} {C : Array Value} (h : Bk t w b C) (hg : w.grownBy w1 (some g)) (hne : b ≠ g) : Bk t w1 b C := (hg.block b h.lt (fun e => hne (by injection e))).trans h

theorem quiet_add {P : Program} {f : FuncId} {args : Array Value} {w : World} {a n : Nat} {v : Value}
    (h : Calls P f args (w.drewN (a + n)) fun e w' => e = .returned v ∧ ∃ m, w' = (w.drewN (a + n)).drewN m) :
    Calls P f args (w.drewN (a + n)) fun e w'' => e = .returned v ∧ ∃ m, w'' = w.drewN (a + m) :=
  h.mono fun _ _ ⟨he, m, hm⟩ => ⟨he, n + m, by rw [hm, World.drewN_drewN, Nat.add_assoc]⟩

theorem size52' (D : Array Value) (h : D.size = 8) : (Tryd.prog.info? 52).map (·.size) = some D.size := by rw [h]; exact size52
/-- Eight words stored over eight. -/
theorem store52_any {gv : Nat} {wr w5 : World} (v : List Int) (hv : v.length = 8) (HV : Bk 52 wr gv (nums .u32 v).toArray) (HG : w5.grownBy wr (some gv)) :
    ∃ F : Nat → Int → Int → World, (∀ m a0 a4, (store52 (.pointer (some ⟨gv, 0, none⟩)) (.agg #[.int .u32 a0, .int .u32 (v.getD 0 0), .int .u32 (v.getD 1 0), .int .u32 (v.getD 2 0), .int .u32 a4, .int .u32 (v.getD 4 0), .int .u32 (v.getD 5 0), .int .u32 (v.getD 6 0)])).run Tryd.prog (wr.drewN m) = .ok () (F m a0 a4)) ∧
      ∀ m a0 a4, Bk 52 (F m a0 a4) gv (nums .u32 [a0, v.getD 0 0, v.getD 1 0, v.getD 2 0, a4, v.getD 4 0, v.getD 5 0, v.getD 6 0]).toArray ∧ w5.grownBy (F m a0 a4) (some gv) := by
  have h0 : ∀ (m : Nat) (a0 a4 : Int), ∃ w1, (store52 (.pointer (some ⟨gv, 0, none⟩)) (.agg #[.int .u32 a0, .int .u32 (v.getD 0 0), .int .u32 (v.getD 1 0), .int .u32 (v.getD 2 0), .int .u32 a4, .int .u32 (v.getD 4 0), .int .u32 (v.getD 5 0), .int .u32 (v.getD 6 0)])).run Tryd.prog (wr.drewN m) = .ok () w1 ∧ Bk 52 w1 gv (nums .u32 [a0, v.getD 0 0, v.getD 1 0, v.getD 2 0, a4, v.getD 4 0, v.getD 5 0, v.getD 6 0]).toArray ∧ w5.grownBy w1 (some gv) := fun m a0 a4 => by
    obtain ⟨w1, g1, g2, g3, _⟩ := (HV.drewN m).store_whole (ty := 52) (nums .u32 [a0, v.getD 0 0, v.getD 1 0, v.getD 2 0, a4, v.getD 4 0, v.getD 5 0, v.getD 6 0]).toArray (by simp [nums, hv]) (size52' _ (by simp [nums])) (nums_one .u32 _)
    exact ⟨w1, g1, g2, World.grownBy.trans (only_drew HG m) g3⟩
  exact ⟨fun m a0 a4 => Classical.choose (h0 m a0 a4), fun m a0 a4 => (Classical.choose_spec (h0 m a0 a4)).1, fun m a0 a4 => (Classical.choose_spec (h0 m a0 a4)).2⟩
end Go.Proofs.YtikoahjnhdnhdaaDoor
