/- CONTRACTS of code.put, slices.Clone, slices.Clip at bytes, code.Put. They ask that the world hold the operations' table, and that the bytes appended to be the call's own. -/
import Derived.Test.YthpfndbhibbkmaaDoorNamed
import Derived.Test.YthpfndbhibbkmaaDoorWWords
import Derived.Deep.LoopGhost
namespace Go.Proofs.YthpfndbhibbkmaaDoor
open Go.ChangeShapes Go.WideShapes Go.ChangeAt Go.RowKit Go.Proofs.YthpfndbhibbkmaaDoorW.PrintWords

theorem info5 : (Tryd.prog.info? 5).map (fun i => (i.zero, i.size, i.bytes)) = some (some (.int .u8 0), 1, 1) := by kernel_rfl

theorem bcell {W w1 : World} (hb : Below W.heap.size W w1) : (∀ b o, b < W.heap.size → w1.cell? ⟨b, o, none⟩ = W.cell? ⟨b, o, none⟩) ∧ (∀ b o, b < W.heap.size → w1.frozen? ⟨b, o, none⟩ = W.frozen? ⟨b, o, none⟩) :=
  ⟨fun b o h => hb.cell (p := ⟨b, o, none⟩) h, fun b o h => hb.frozen (p := ⟨b, o, none⟩) h⟩

/-- An operand's bytes. -/
def tailB (A : Int) : Nat → List Int
  | 0 => []
  | 1 => [A % 256]
  | _ => [A / 256, A % 256]
/-- An instruction's bytes. -/
def encB (k : Nat) (A : Int) : List Int := (k : Int) :: tailB A (widthT (numT k 0)).toNat

theorem sort_le : ∀ k, k < 42 → 0 ≤ numT k 0 ∧ numT k 0 ≤ 5 := by decide +kernel

set_option maxHeartbeats 1000000 in
theorem put_noop (k A : Int) (v : Value) (w : World) (h : k < 1 ∨ 41 < k) :
    Calls Tryd.prog 29 #[v, .agg #[.int .i64 k, .int .i64 A]] w fun e w' => e = .returned (.tuple #[.slice none 0 0, .int .i64 80]) ∧ Below w.heap.size w w' := by
  go_enter Tryd.func29, Tryd.ntmps29
  go_wp2_with fail
  refine (info_no' k _ h).mono ?_
  rintro e w1 ⟨rfl, hb⟩
  go_wp2_with fail
  go_ret2
  exact ⟨rfl, (((Below.refl _ _).alloc (Nat.le_refl _) _).trans (hb.mono (by simp))).alloc (by have := hb.size; simp at this; omega) _⟩

set_option maxHeartbeats 1000000 in
theorem put_bad (k : Nat) (A : Int) (v : Value) (w : World) (T : Tabs w) (h1 : 1 ≤ k) (h2 : k ≤ 41) (h : A < 0 ∨ mostT (numT k 0) < A) :
    Calls Tryd.prog 29 #[v, .agg #[.int .i64 k, .int .i64 A]] w fun e w' => e = .returned (.tuple #[.slice none 0 0, .int .i64 81]) ∧ Below w.heap.size w w' := by
  have hbd := sort_le k (by omega)
  have hi := info_yes' k (w.alloc (.cells #[.int .i64 k, .int .i64 A] 41)) (T.below ((Below.refl _ _).alloc (Nat.le_refl _) _)) h1 h2
  generalize numT k 0 = s at *
  go_enter Tryd.func29, Tryd.ntmps29
  go_wp2_with fail
  refine hi.mono ?_
  rintro e w1 ⟨rfl, hb⟩
  clear hi
  obtain ⟨hc, hf⟩ := bcell hb
  have hs : w.heap.size < w1.heap.size := by have := hb.size; simp at this; omega
  have x1 : w1.cell? ⟨w.heap.size, 1, none⟩ = some (.int .i64 A) := by rw [hc _ _ (by simp)]; go_simp
  clear hc hf
  go_wp2_with fail
  refine (bound_any s _ hbd.1 hbd.2).mono ?_
  rintro e w' ⟨rfl, rfl⟩
  by_cases h0 : A < 0
  · go_wp2_with fail
    go_ret2
    exact ⟨rfl, (((Below.refl _ _).alloc (Nat.le_refl _) _).trans (hb.mono (by simp))).alloc (by omega) _⟩
  · have h1 : 0 ≤ A := by omega
    have h2 : mostT s < A := by omega
    clear h h0
    go_wp2_with fail
    go_ret2
    exact ⟨rfl, (((Below.refl _ _).alloc (Nat.le_refl _) _).trans (hb.mono (by simp))).alloc (by omega) _⟩

/-- What an append onto an owned row leaves. -/
structure Owned (base : Nat) (w w' : World) (v v' : Value) (xs : List Int) : Prop where
  own : w'.ownsRow base 5 1 v' xs.length (nums .u8 xs)
  below : Below base w w'
  grown : w.grownBy w' v.ownBlock
  place : v'.ownBlock = v.ownBlock ∨ ∃ b, v'.ownBlock = some b ∧ w.heap.size ≤ b

/-- In the middle of put: what has been appended, and the operand's cell. -/
structure Mid (base : Nat) (w wr : World) (v v0 : Value) (ys : List Int) (A : Int) : Prop where
  own : wr.ownsRow base 5 1 v0 ys.length (nums .u8 ys)
  below : Below base w wr
  grown : w.grownBy wr v.ownBlock
  place : v0.ownBlock = v.ownBlock ∨ ∃ b, v0.ownBlock = some b ∧ w.heap.size ≤ b
  cell : wr.cell? ⟨w.heap.size, 1, none⟩ = some (.int .i64 A)
  apart : some w.heap.size ≠ v0.ownBlock
  hs : w.heap.size < wr.heap.size

theorem grown_then {w wr w1 : World} {r r0 : Option Nat} (h : w.grownBy wr r) (h1 : wr.grownBy w1 r0) (hp : r0 = r ∨ ∃ b, r0 = some b ∧ w.heap.size ≤ b) : w.grownBy w1 r :=
  ⟨h1.os.trans h.os, h1.tape.trans h.tape, h1.output.trans h.output, Nat.le_trans h.size h1.size, fun k hk hr => by
    refine (h1.block k (Nat.lt_of_lt_of_le hk h.size) ?_).trans (h.block k hk hr)
    rcases hp with rfl | ⟨b, rfl, hb⟩
    · exact hr
    · intro e
      injection e with e
      omega⟩

theorem Mid.step {base : Nat} {w wr w1 : World} {v v0 v1 : Value} {ys : List Int} {A y : Int} (M : Mid base w wr v v0 ys A) (HO : w1.ownsRow base 5 1 v1 (ys ++ [y]).length (nums .u8 (ys ++ [y]))) (HB : Below base w w1)
    (hg : wr.grownBy w1 v0.ownBlock) (hp : v1.ownBlock = v0.ownBlock ∨ ∃ b, v1.ownBlock = some b ∧ wr.heap.size ≤ b) : Mid base w w1 v v1 (ys ++ [y]) A where
  own := HO
  below := HB
  grown := grown_then M.grown hg M.place
  place := by
    rcases hp with h | ⟨b, h, hb⟩
    · rw [h]; exact M.place
    · exact .inr ⟨b, h, Nat.le_trans M.grown.size hb⟩
  cell := (World.cell?_of_block (w := wr) (hg.block w.heap.size M.hs M.apart)).trans M.cell
  apart := by
    rcases hp with h | ⟨b, h, hb⟩
    · rw [h]; exact M.apart
    · rw [h]
      intro e
      injection e with e
      have := M.hs
      omega
  hs := Nat.lt_of_lt_of_le M.hs hg.size

theorem Mid.first {base : Nat} {w w1 w2 : World} {v v1 : Value} {xs : List Int} {A y : Int} {o : Obj} (HO : w.ownsRow base 5 1 v xs.length (nums .u8 xs)) (hs2 : Below w.heap.size w w1) (hs : w.heap.size < w1.heap.size) (x1 : w1.cell? ⟨w.heap.size, 1, none⟩ = some (.int .i64 A))
    (HO2 : w2.ownsRow base 5 1 v1 (xs ++ [y]).length (nums .u8 (xs ++ [y]))) (HB2 : Below base w w2) (hg2 : (w1.alloc o).grownBy w2 v.ownBlock) (hp2 : v1.ownBlock = v.ownBlock ∨ ∃ b, v1.ownBlock = some b ∧ (w1.alloc o).heap.size ≤ b) :
    Mid base w w2 v v1 (xs ++ [y]) A := by
  have hb : Below w.heap.size w (w1.alloc o) := hs2.alloc (by omega) _
  have hne : some w.heap.size ≠ v.ownBlock := fun e => by have := own_lt HO _ e.symm; omega
  have hsz : (w1.alloc o).heap.size = w1.heap.size + 1 := by simp
  refine ⟨HO2, HB2, grown_then (grown_of_below hb _) hg2 (.inl rfl), ?_, ?_, ?_, ?_⟩
  · rcases hp2 with h | ⟨b, h, hb⟩
    · exact .inl h
    · exact .inr ⟨b, h, by omega⟩
  · refine (World.cell?_of_block (w := w1.alloc o) (hg2.block w.heap.size (by omega) hne)).trans ?_
    exact (World.cell?_of_block (w := w1) (Below.heap_alloc w1 o w.heap.size hs)).trans x1
  · rcases hp2 with h | ⟨b, h, hb⟩
    · rw [h]; exact hne
    · rw [h]
      intro e
      injection e with e
      omega
  · have := hg2.size
    omega

set_option maxHeartbeats 1000000 in
theorem put_ok (base : Nat) (k : Nat) (A : Int) (v : Value) (xs : List Int) (w : World) (T : Tabs w) (h1 : 1 ≤ k) (h2 : k ≤ 41) (hA : 0 ≤ A) (hA' : A ≤ mostT (numT k 0)) (HO : w.ownsRow base 5 1 v xs.length (nums .u8 xs))
    (hbase : base ≤ w.heap.size) (hlen : xs.length ≤ 140737488355000) :
    Calls Tryd.prog 29 #[v, .agg #[.int .i64 k, .int .i64 A]] w fun e w' => ∃ v', e = .returned (.tuple #[v', .int .i64 0]) ∧ Owned base w w' v v' (xs ++ encB k A) := by
  have hbd := sort_le k (by omega)
  have hi := info_yes' k (w.alloc (.cells #[.int .i64 k, .int .i64 A] 41)) (T.below ((Below.refl _ _).alloc (Nat.le_refl _) _)) h1 h2
  unfold encB
  generalize numT k 0 = s at *
  have hw : widthT s = 0 ∨ widthT s = 1 ∨ widthT s = 2 := by unfold widthT; repeat (first | omega | split)
  have hA2 : A ≤ 3999 := by unfold mostT at hA'; repeat (first | omega | split at hA')
  obtain ⟨m', hm⟩ : ∃ m' : Nat, widthT s = m' := ⟨(widthT s).toNat, by omega⟩
  have hm2 : m' ≤ 2 := by omega
  have HE : Hid ((xs ++ [(k : Int)]) ++ tailB A m' = xs ++ (k : Int) :: tailB A (widthT s).toNat) := by show _ = _; rw [hm, Int.toNat_natCast]; simp
  generalize xs ++ (k : Int) :: tailB A (widthT s).toNat = full at *
  have HL : Hid (full.length ≤ xs.length + 3) := by
    have := HE.out
    show _ ≤ _
    rw [← this]
    rcases (by omega : m' = 0 ∨ m' = 1 ∨ m' = 2) with rfl | rfl | rfl <;> simp [tailB]
  have HM : Hid (widthT s = m') := hm
  clear hm hw
  go_enter Tryd.func29, Tryd.ntmps29
  go_wp2_with fail
  refine hi.mono ?_
  rintro e w1 ⟨rfl, hb⟩
  clear hi
  obtain ⟨hc, hf⟩ := bcell hb
  have hs : w.heap.size < w1.heap.size := by have := hb.size; simp at this; omega
  have x1 : w1.cell? ⟨w.heap.size, 1, none⟩ = some (.int .i64 A) := by rw [hc _ _ (by simp)]; go_simp
  have x0 : w1.cell? ⟨w.heap.size, 0, none⟩ = some (.int .i64 k) := by rw [hc _ _ (by simp)]; go_simp
  clear hc hf
  go_wp2_with fail
  refine (bound_any s _ hbd.1 hbd.2).mono ?_
  rintro e w' ⟨rfl, rfl⟩
  have hs2 : Below w.heap.size w w1 := ((Below.refl _ _).alloc (Nat.le_refl _) _).trans (hb.mono (by simp))
  have HO1 : ∀ o, (w1.alloc o).ownsRow base 5 1 v xs.length (nums .u8 xs) := fun o => pw_own_below HO (hs2.alloc (by omega) _)
  have HB1 : ∀ o, Below base w (w1.alloc o) := fun o => (hs2.mono hbase).alloc (by omega) _
  go_wp2_with (at_builtin; refine print_append_num base rfl (.tmp 33) (.tmp 37) 34 5 .u8 1 rfl Tryd.underlying34 info5 (by decide) v xs (k : Int) rfl (by simp [Act.eval]) (HO1 _) (HB1 _) (by simp; omega) (by omega) ?_; intro v1 w2 HO2 HB2 hg2 hp2)
  have M2 : Mid base w w2 v v1 (xs ++ [(k : Int)]) A := Mid.first HO hs2 hs x1 HO2 HB2 hg2 hp2
  clear HO1 HB1 HO2 HB2 hg2 hp2 hs2 x0 x1 hb HO T hs h1 h2
  rw [HM.out]
  clear HM hbd
  go_wp2
  go_loopw [0, 9] (fun v0 wd wr => ∃ (j : Nat) (ys : List Int), j ≤ 2 ∧ wd = .int .i64 j ∧ Hid (ys ++ tailB A j = full) ∧ Mid base w wr v v0 ys A) (fun _ wd _ => (intOf wd).toNat)
  case atStart => exact ⟨m', _, hm2, rfl, HE, M2⟩
  case round =>
    clear M2 HE
    obtain ⟨j, ys, hj, rfl, HE, M⟩ := hrel
    have hyl : ys.length ≤ xs.length + 3 := by
      have h1 := HL.out
      have h2 := HE.out
      rw [← h2, List.length_append] at h1
      omega
    rcases (by omega : j = 0 ∨ j = 1 ∨ j = 2) with rfl | rfl | rfl
    · go_wp2
      go_ret2
      have he := HE.out
      simp only [tailB, List.append_nil] at he
      subst he
      exact ⟨_, rfl, ⟨M.own, M.below, M.grown, M.place⟩⟩
    · have c1 := M.cell
      have hsz := M.hs
      go_wp2_with (at_builtin; refine print_append_num base rfl (.tmp 43) (.tmp 51) 34 5 .u8 1 rfl Tryd.underlying34 info5 (by decide) u0 ys (A % 256) rfl rfl M.own M.below (by omega) (by omega) ?_; intro v2 w3 HO3 HB3 hg3 hp3)
      have M3 := M.step HO3 HB3 hg3 hp3
      clear HO3 HB3 hg3 hp3 M c1 hsz
      go_wp2
      go_roundw
      case rel => exact ⟨0, _, by omega, rfl, by show _ = _; rw [← HE.out]; simp [tailB], M3⟩
      case measure => simp [intOf]
    · have c1 := M.cell
      have hsz := M.hs
      go_wp2_with (at_builtin; refine print_append_num base rfl (.tmp 43) (.tmp 51) 34 5 .u8 1 rfl Tryd.underlying34 info5 (by decide) u0 ys (A / 256) rfl rfl M.own M.below (by omega) (by omega) ?_; intro v2 w3 HO3 HB3 hg3 hp3)
      have M3 := M.step HO3 HB3 hg3 hp3
      clear HO3 HB3 hg3 hp3 M c1 hsz
      go_wp2
      go_roundw
      case rel => exact ⟨1, _, by omega, rfl, by show _ = _; rw [← HE.out]; simp [tailB], M3⟩
      case measure => simp [intOf]
end Go.Proofs.YthpfndbhibbkmaaDoor
