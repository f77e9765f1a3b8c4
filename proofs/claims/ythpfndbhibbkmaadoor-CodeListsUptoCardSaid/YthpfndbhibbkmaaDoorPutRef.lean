/- CONTRACT of scrupleref08.Put: it answers as code.Put does. -/
import Derived.Test.YthpfndbhibbkmaaDoorPutC
import Derived.Test.YthpfndbhibbkmaaDoorTakeB
namespace Go.Proofs.YthpfndbhibbkmaaDoor
open Go.ChangeShapes Go.WideShapes Go.ChangeAt Go.RowKit Go.Proofs.YthpfndbhibbkmaaDoorW.PrintWords
set_option linter.unusedVariables false
set_option linter.unusedSimpArgs false

set_option maxHeartbeats 1000000 in
theorem rPut_noop (k A : Int) (v : Value) (w : World) (h : k < 1 ∨ 41 < k) :
    Calls Tryd.prog 18 #[v, .agg #[.int .i64 k, .int .i64 A]] w fun e w' => e = .returned (.tuple #[.slice none 0 0, .int .i64 80]) ∧ Below w.heap.size w w' := by
  go_enter Tryd.func18, Tryd.ntmps18
  go_wp2_with fail
  refine (rinfo_no k _ h).mono ?_
  rintro e w1 ⟨rfl, hb⟩
  go_wp2_with fail
  go_ret2
  exact ⟨rfl, (((Below.refl _ _).alloc (Nat.le_refl _) _).trans (hb.mono (by simp))).alloc (by have := hb.size; simp at this; omega) _⟩

set_option maxHeartbeats 1000000 in
theorem rPut_bad (k : Nat) (A : Int) (v : Value) (w : World) (h1 : 1 ≤ k) (h2 : k ≤ 41) (h : A < 0 ∨ mostT (numT k 0) < A) :
    Calls Tryd.prog 18 #[v, .agg #[.int .i64 k, .int .i64 A]] w fun e w' => e = .returned (.tuple #[.slice none 0 0, .int .i64 81]) ∧ Below w.heap.size w w' := by
  have hbd := sort_le k (by omega)
  have hi := rinfo_yes k (w.alloc (.cells #[.int .i64 k, .int .i64 A] 41)) h1 h2
  generalize numT k 0 = s at *
  generalize numT k 1 = n1 at *
  generalize numT k 2 = n2 at *
  generalize numT k 3 = n3 at *
  generalize numT k 4 = n4 at *
  generalize nmT k = nm at *
  go_enter Tryd.func18, Tryd.ntmps18
  go_wp2_with fail
  refine hi.mono ?_
  rintro e w1 ⟨rfl, hb⟩
  clear hi
  obtain ⟨hc, hf⟩ := bcell hb
  have hs : w.heap.size < w1.heap.size := by have := hb.size; simp at this; omega
  have x1 : w1.cell? ⟨w.heap.size, 1, none⟩ = some (.int .i64 A) := by rw [hc _ _ (by simp)]; go_simp
  clear hc hf
  go_wp2_with fail
  refine (most_any s _ hbd.1 hbd.2).mono ?_
  rintro e w2 ⟨rfl, hb2⟩
  have hs2 : w1.heap.size < w2.heap.size := by have := hb2.size; simp at this; omega
  have y1 : w2.cell? ⟨w.heap.size, 1, none⟩ = some (.int .i64 A) := by rw [hb2.cell (p := ⟨w.heap.size, 1, none⟩) (by simp; omega)]; go_cell
  have hs3 : w.heap.size < w2.heap.size := by omega
  have hq : Below w.heap.size w w2 := ((((Below.refl _ _).alloc (Nat.le_refl _) _).trans (hb.mono (by simp))).alloc (by omega) _).trans (hb2.mono (by simp; omega))
  by_cases h0 : A < 0
  · go_wp2_with fail
    go_ret2
    exact ⟨rfl, hq⟩
  · have h1 : 0 ≤ A := by omega
    have h2 : mostT s < A := by omega
    clear h h0
    go_wp2_with fail
    go_ret2
    exact ⟨rfl, hq⟩

/-- In the middle of the reference's Put: what has been appended; all that was there stays. -/
structure MidR (base : Nat) (w w2 wr : World) (v : Value) (ys : List Int) : Prop where
  own : wr.ownsRow base 5 1 v ys.length (nums .u8 ys)
  below : Below base w wr
  grown : w2.grownBy wr none
  place : v.ownBlock = none ∨ ∃ b, v.ownBlock = some b ∧ w2.heap.size ≤ b
theorem MidR.cell {base : Nat} {w w2 wr : World} {v : Value} {ys : List Int} (M : MidR base w w2 wr v ys) {p : Addr} {u : Value} (h : w2.cell? p = some u) : wr.cell? p = some u := M.grown.cell h (by simp)
theorem MidR.step {base : Nat} {w w2 wr w' : World} {v v' : Value} {ys zs : List Int} (M : MidR base w w2 wr v ys) (HO : w'.ownsRow base 5 1 v' zs.length (nums .u8 zs)) (HB : Below base w w')
    (hg : wr.grownBy w' v.ownBlock) (hp : v'.ownBlock = v.ownBlock ∨ ∃ b, v'.ownBlock = some b ∧ wr.heap.size ≤ b) : MidR base w w2 w' v' zs where
  own := HO
  below := HB
  grown := by
    refine ⟨hg.os.trans M.grown.os, hg.tape.trans M.grown.tape, hg.output.trans M.grown.output, Nat.le_trans M.grown.size hg.size, fun k hk _ => ?_⟩
    have hk' : k < wr.heap.size := Nat.lt_of_lt_of_le hk M.grown.size
    refine (hg.block k hk' ?_).trans (M.grown.block k hk (by simp))
    rcases M.place with h | ⟨b, h, hb⟩
    · rw [h]; simp
    · rw [h]
      intro e
      injection e with e
      omega
  place := by
    have := M.grown.size
    rcases hp with h | ⟨b, h, hb⟩
    · rw [h]; exact M.place
    · exact .inr ⟨b, h, by omega⟩
theorem MidR.far {base : Nat} {w w2 wr w' : World} {v : Value} {ys : List Int} (M : MidR base w w2 wr v ys) (hb : Below wr.heap.size wr w') (hbase : base ≤ wr.heap.size) : MidR base w w2 w' v ys where
  own := pw_own_below M.own hb
  below := M.below.trans (hb.mono hbase)
  grown := ⟨hb.os.trans M.grown.os, hb.tape.trans M.grown.tape, hb.output.trans M.grown.output, Nat.le_trans M.grown.size hb.size, fun k hk _ => (hb.block k (Nat.lt_of_lt_of_le hk M.grown.size)).trans (M.grown.block k hk (by simp))⟩
  place := M.place
theorem MidR.fin {base : Nat} {w w2 wr : World} {v : Value} {ys : List Int} (M : MidR base w w2 wr v ys) {N : Nat} (hN : ys.length = N) : ∃ a' c', v = .slice a' N c' ∧ OwnedS base w wr a' c' ys := by
  have ho := M.own
  obtain ⟨a2, c2, rfl, hc, _⟩ := own_cap ho
  refine ⟨a2, c2, by rw [hN], ⟨ho, hc, M.below⟩⟩

set_option maxHeartbeats 1000000 in
theorem rPut_ok (k : Nat) (A : Int) (a : Option Addr) (n c : Nat) (bs : List Int) (w : World) (B : BytesArg w a n c bs) (h1 : 1 ≤ k) (h2 : k ≤ 41) (hA : 0 ≤ A) (hA' : A ≤ mostT (numT k 0)) (N : Nat) (HN : Hid ((bs ++ encB k A).length = N)) :
    Calls Tryd.prog 18 #[.slice a n c, .agg #[.int .i64 k, .int .i64 A]] w fun e w' => ∃ a' c', e = .returned (.tuple #[.slice a' N c', .int .i64 0]) ∧ OwnedS w.heap.size w w' a' c' (bs ++ encB k A) := by
  have hbd := sort_le k (by omega)
  have hi := rinfo_yes k (w.alloc (.cells #[.int .i64 k, .int .i64 A] 41)) h1 h2
  unfold encB at *
  generalize numT k 0 = s at *
  generalize numT k 1 = n1 at *
  generalize numT k 2 = n2 at *
  generalize numT k 3 = n3 at *
  generalize numT k 4 = n4 at *
  generalize nmT k = nm at *
  have hA2 : A ≤ 3999 := by unfold mostT at hA'; repeat (first | omega | split at hA')
  have hlen := B.len
  have hmax := B.max
  go_enter Tryd.func18, Tryd.ntmps18
  go_wp2_with fail
  refine hi.mono ?_
  rintro e w1 ⟨rfl, hb⟩
  clear hi
  obtain ⟨hc, hf⟩ := bcell hb
  have hs : w.heap.size < w1.heap.size := by have := hb.size; simp at this; omega
  have x1 : w1.cell? ⟨w.heap.size, 1, none⟩ = some (.int .i64 A) := by rw [hc _ _ (by simp)]; go_simp
  have x0 : w1.cell? ⟨w.heap.size, 0, none⟩ = some (.int .i64 k) := by rw [hc _ _ (by simp)]; go_simp
  clear hc hf
  go_wp2_with fail
  refine (most_any s _ hbd.1 hbd.2).mono ?_
  rintro e w2 ⟨rfl, hb2⟩
  have hs2 : w1.heap.size < w2.heap.size := by have := hb2.size; simp at this; omega
  have y1 : w2.cell? ⟨w.heap.size, 1, none⟩ = some (.int .i64 A) := by rw [hb2.cell (p := ⟨w.heap.size, 1, none⟩) (by simp; omega)]; go_cell
  have y0 : w2.cell? ⟨w.heap.size, 0, none⟩ = some (.int .i64 k) := by rw [hb2.cell (p := ⟨w.heap.size, 0, none⟩) (by simp; omega)]; go_cell
  have y4 : w2.cell? ⟨w1.heap.size, 1, none⟩ = some (.int .i64 s) := by rw [hb2.cell (p := ⟨w1.heap.size, 1, none⟩) (by simp)]; go_simp
  have hs3 : w.heap.size < w2.heap.size := by omega
  have hq : Below w.heap.size w w2 := ((((Below.refl _ _).alloc (Nat.le_refl _) _).trans (hb.mono (by simp))).alloc (by omega) _).trans (hb2.mono (by simp; omega))
  have HR := B.reads.below hq
  have HQ := Lib.hid hq
  clear x0 x1 hb hb2 hq
  go_wp2_with (first
    | (at_builtin; refine print_append_row w.heap.size rfl _ _ 34 5 .u8 1 rfl Tryd.underlying34 info5 (by decide) _ [] bs a n c rfl rfl (own_nil w2 w.heap.size 5 1) HR HQ.out (by omega) (by simp; omega) ?_; intro v1 w3 HO3 HB3 hg3 hp3; have M3 : MidR w.heap.size w w2 w3 v1 bs := ⟨HO3, HB3, hg3, hp3⟩; have u0 := M3.cell y0; have u1 := M3.cell y1; have u4 := M3.cell y4; have t0 := M3.grown.size; clear HO3 HB3 hg3 hp3 HR)
    | (at_builtin; refine print_append_num w.heap.size rfl _ _ 34 5 .u8 1 rfl Tryd.underlying34 info5 (by decide) v1 (bs) (k : Int) rfl (by simp [Act.eval]) M3.own M3.below (by omega) (by simp; omega) ?_; intro v2 w4 HO4 HB4 hg4 hp4; have M4 : MidR w.heap.size w w2 w4 v2 (bs ++ [(k : Int)]) := M3.step HO4 HB4 hg4 hp4; have r0 := M4.cell y0; have r1 := M4.cell y1; have r4 := M4.cell y4; have t1 := M4.grown.size; clear HO4 HB4 hg4 hp4))
  refine (width_any s _ hbd.1 hbd.2).mono ?_
  rintro e w5 ⟨rfl, hb5⟩
  have M5 : MidR w.heap.size w w2 w5 v2 (bs ++ [(k : Int)]) := M4.far hb5 (by omega)
  have q0 := M5.cell y0
  have q1 := M5.cell y1
  have q4 := M5.cell y4
  have t2 := M5.grown.size
  clear hb5 M4 M3 u0 u1 u4 r0 r1 r4 HQ y0 y4
  rcases width_012 s with e | e | e
  · rw [e] at HN ⊢
    obtain ⟨a', c', rfl, HF⟩ := M5.fin (N := N) (by have := HN.out; simpa [tailB] using this)
    go_wp2_with fail
    go_ret2
    exact ⟨a', c', rfl, by rw [e]; simpa [tailB] using HF⟩
  · rw [e] at HN ⊢
    go_wp2_with (at_builtin; refine print_append_num w.heap.size rfl _ _ 34 5 .u8 1 rfl Tryd.underlying34 info5 (by decide) v2 (bs ++ [(k : Int)]) (A % 256) rfl (by simp [Act.eval]) M5.own M5.below (by omega) (by simp; omega) ?_; intro v3 w6 HO6 HB6 hg6 hp6; have M6 : MidR w.heap.size w w2 w6 v3 (bs ++ [(k : Int)] ++ [A % 256]) := M5.step HO6 HB6 hg6 hp6; obtain ⟨a', c', rfl, HF⟩ := M6.fin (N := N) (by have := HN.out; simpa [tailB] using this))
    go_ret2
    exact ⟨a', c', rfl, by rw [e]; simpa [tailB] using HF⟩
  · rw [e] at HN ⊢
    go_wp2_with (first
      | (at_builtin; refine print_append_num w.heap.size rfl _ _ 34 5 .u8 1 rfl Tryd.underlying34 info5 (by decide) v2 (bs ++ [(k : Int)]) (A / 256) rfl (by simp [Act.eval]) M5.own M5.below (by omega) (by simp; omega) ?_; intro v3 w6 HO6 HB6 hg6 hp6; have M6 : MidR w.heap.size w w2 w6 v3 (bs ++ [(k : Int)] ++ [A / 256]) := M5.step HO6 HB6 hg6 hp6; have p1 := M6.cell y1; have t3 := M6.grown.size; clear HO6 HB6 hg6 hp6)
      | (at_builtin; refine print_append_num w.heap.size rfl _ _ 34 5 .u8 1 rfl Tryd.underlying34 info5 (by decide) v3 (bs ++ [(k : Int)] ++ [A / 256]) (A % 256) rfl (by simp [Act.eval]) M6.own M6.below (by omega) (by simp; omega) ?_; intro v4 w7 HO7 HB7 hg7 hp7; have M7 : MidR w.heap.size w w2 w7 v4 (bs ++ [(k : Int)] ++ [A / 256] ++ [A % 256]) := M6.step HO7 HB7 hg7 hp7; obtain ⟨a', c', rfl, HF⟩ := M7.fin (N := N) (by have := HN.out; simpa [tailB] using this)))
    go_ret2
    exact ⟨a', c', rfl, by rw [e]; simpa [tailB] using HF⟩

/-- ████ scrupleref08.Put ████ -/
theorem rPut_any (k A : Int) (a : Option Addr) (n c : Nat) (bs : List Int) (w : World) (B : BytesArg w a n c bs) (N : Nat) (hN : (putL bs k A).length = N) :
    Calls Tryd.prog 18 #[.slice a n c, .agg #[.int .i64 k, .int .i64 A]] w fun e w' => ∃ a' c', e = .returned (.tuple #[.slice a' N c', .int .i64 (putE k A)]) ∧ OwnedS w.heap.size w w' a' c' (putL bs k A) := by
  unfold putL putE at *
  by_cases h1 : k < 1 ∨ 41 < k
  · have hp : putOk k A = false := by
      unfold putOk
      rcases h1 with h | h
      · rw [decide_eq_false (show ¬ 1 ≤ k by omega)]; rfl
      · rw [decide_eq_false (show ¬ k ≤ 41 by omega)]; simp
    rw [hp] at hN ⊢
    rw [if_pos h1]
    obtain rfl : N = 0 := hN.symm
    exact (rPut_noop k A _ w h1).mono fun e w' ⟨he, hb⟩ => ⟨none, 0, he, owned_nil _ hb⟩
  rw [if_neg h1]
  obtain ⟨m, rfl⟩ : ∃ m : Nat, k = m := ⟨k.toNat, by omega⟩
  by_cases h2 : A < 0 ∨ mostT (numT m 0) < A
  · have hp : putOk m A = false := by
      unfold putOk
      rw [Int.toNat_natCast]
      rcases h2 with h | h
      · rw [decide_eq_false (show ¬ 0 ≤ A by omega)]; simp
      · rw [decide_eq_false (show ¬ A ≤ mostT (numT m 0) by omega)]; simp
    rw [hp] at hN ⊢
    obtain rfl : N = 0 := hN.symm
    exact (rPut_bad m A _ w (by omega) (by omega) h2).mono fun e w' ⟨he, hb⟩ => ⟨none, 0, he, owned_nil _ hb⟩
  · have hp : putOk m A = true := by
      unfold putOk
      rw [Int.toNat_natCast, decide_eq_true (show 1 ≤ (m : Int) by omega), decide_eq_true (show (m : Int) ≤ 41 by omega), decide_eq_true (show 0 ≤ A by omega), decide_eq_true (show A ≤ mostT (numT m 0) by omega)]
      rfl
    rw [hp] at hN ⊢
    rw [if_pos rfl] at hN ⊢
    rw [Int.toNat_natCast] at hN ⊢
    exact rPut_ok m A a n c bs w B (by omega) (by omega) (by omega) (by omega) N hN
end Go.Proofs.YthpfndbhibbkmaaDoor
