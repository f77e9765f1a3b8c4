/- CONTRACT of (*hash.Hash).Write: a state that stands for the bytes m stands for m ++ b then. -/
import Derived.Test.YtikoahjnhdnhdaaDoorBlkB
namespace Go.Proofs.YtikoahjnhdnhdaaDoor
open Go.ChangeShapes Go.WideShapes Go.ChangeAt Go.RowKit Go.Proofs.YtikoahjnhdnhdaaDoorW.PrintWords Go.Deep
set_option linter.unusedVariables false
set_option linter.unusedSimpArgs false

/-- The state at g stands for the bytes m. -/
def Hs (w : World) (g : Nat) (m : List Int) : Prop := ∃ us rest, St w g us rest (m.length : Int) ∧ Held (blkF RL) H0 us rest m
theorem Hs.below {w w1 : World} {g : Nat} {m : List Int} (h : Hs w g m) (hb : Below w.heap.size w w1) : Hs w1 g m := by
  obtain ⟨us, rest, S, H⟩ := h
  exact ⟨us, rest, S.below hb, H⟩
theorem Hs.other {w w1 : World} {g b : Nat} {m : List Int} (h : Hs w g m) (hg : w.grownBy w1 (some b)) (hne : g ≠ b) : Hs w1 g m := by
  obtain ⟨us, rest, S, H⟩ := h
  exact ⟨us, rest, S.other hg hne, H⟩
theorem Hs.lt {w : World} {g : Nat} {m : List Int} (h : Hs w g m) : g < w.heap.size := by obtain ⟨us, rest, S, H⟩ := h; exact S.blk.lt
/-- Bytes that are read, not out of block g. -/
structure Src (w : World) (g : Nat) (A : Option Addr) (n : Nat) (xs : List Int) : Prop where
  reads : ReadsInt w .u8 A n xs
  far : ∀ ad, A = some ad → ad.block ≠ g
theorem Src.grown {w w1 : World} {g : Nat} {A : Option Addr} {n : Nat} {xs : List Int} (h : Src w g A n xs) (hg : w.grownBy w1 (some g)) : Src w1 g A n xs :=
  ⟨⟨h.reads.1, h.reads.2.1, fun hp => by
    obtain ⟨ad, rfl, hc⟩ := h.reads.2.2 hp
    refine ⟨ad, rfl, fun j hj => ?_⟩
    have hb : (ad.add j).block = ad.block := by unfold Addr.add; split <;> rfl
    have h1 := hc j hj
    have hl := World.block_lt_of_cell? w _ h1
    exact (World.cell?_of_block (hg.block _ hl (fun e => h.far ad rfl (by injection e with e; rw [← hb]; exact e)))).trans h1⟩, h.far⟩
theorem Src.below {w w1 : World} {g : Nat} {A : Option Addr} {n : Nat} {xs : List Int} (h : Src w g A n xs) (hb : Below w.heap.size w w1) : Src w1 g A n xs := ⟨h.reads.below hb, h.far⟩

theorem cut_src (A : Option Addr) (n c m : Nat) (hm : m ≤ n) :
    ∃ A' : Option Addr, (∀ W : World, (Instr.slice 25 (.slice A n c) (some (.int .i64 (m : Int))) none none).run Tryd.prog W = .ok (.slice A' (n - m) (c - m)) W) ∧
      ∀ (w : World) (g : Nat) (xs : List Int), n ≤ c → Src w g A n xs → Src w g A' (n - m) (xs.drop m) := by
  obtain ⟨i0, hi, hz0, hz1, hz2⟩ := info_parts info5
  refine ⟨if c = m then A else A.map (·.add m), fun W => ?_, fun w g xs hc h => ⟨h.reads.drop_ m hm hc, fun ad he => ?_⟩⟩
  · have hel : Tryd.prog.elem 25 = 5 := by simp [Program.elem, Tryd.underlying25]
    have hu : Tryd.prog.underlying 25 = some (.slice (Tryd.prog.elem 25)) := by rw [hel]; exact Tryd.underlying25
    rw [run_slice_l W 25 A n c hu .i64 (m : Int) (Int.natCast_nonneg _) (by omega), hel]
    simp [sizeOf, typeInfo, hi, hz1, sliced, Result.andThen]
  · split at he
    · exact h.far ad he
    · cases A with
      | none => cases he
      | some a0 =>
        simp at he
        subst he
        have hb : (a0.add m).block = a0.block := by unfold Addr.add; split <;> rfl
        rw [hb]
        exact h.far a0 rfl

theorem hcs_laid {us rest c : List Int} {n : Int} (hh : us.length = 8) (hr : rest.length = 64) (q : Nat) (hq : q + c.length ≤ 64) :
    ((hcs us rest n).toList.take (8 + q) ++ nums .u8 c ++ (hcs us rest n).toList.drop (8 + q + (nums .u8 c).length)).toArray = hcs us (laidIn rest c q) n := by
  have hu : (nums .u32 us).length = 8 := by rw [nums_length, hh]
  have hrl : (nums .u8 rest).length = 64 := by rw [nums_length, hr]
  have e1 : (hcs us rest n).toList.take (8 + q) = nums .u32 us ++ (nums .u8 rest).take q := by
    show (nums .u32 us ++ nums .u8 rest ++ [Value.int .i64 n]).take (8 + q) = _
    rw [List.append_assoc, List.take_append, List.take_of_length_le (by omega), hu, Nat.add_sub_cancel_left, List.take_append_of_le_length (by omega)]
  have e2 : (hcs us rest n).toList.drop (8 + q + (nums .u8 c).length) = (nums .u8 rest).drop (q + c.length) ++ [Value.int .i64 n] := by
    show (nums .u32 us ++ nums .u8 rest ++ [Value.int .i64 n]).drop _ = _
    rw [nums_length, List.append_assoc, List.drop_append, List.drop_eq_nil_of_le (by omega), List.nil_append, hu, show 8 + q + c.length - 8 = q + c.length by omega, List.drop_append_of_le_length (by omega)]
  rw [e1, e2]
  unfold hcs laidIn
  simp [nums, List.map_take, List.map_drop]

theorem copy_rest {w : World} {g : Nat} {us rest : List Int} {n : Int} (S : St w g us rest n) (q : Nat) (hq : q ≤ 64) (A : Option Addr) (m c : Nat) (xs : List Int) (hr : ReadsInt w .u8 A m xs) (hm : 0 < m) :
    ∃ w1, (∀ ty, (Builtin.copy_ #[25, 25] ty #[.slice (some ⟨g, 8 + q, none⟩) (64 - q) (64 - q), .slice A m c]).run Tryd.prog w = .ok (.int .i64 ((min m (64 - q) : Nat) : Int)) w1) ∧ St w1 g us (laidIn rest (xs.take (min m (64 - q))) q) n ∧ w.grownBy w1 (some g) ∧ w1.heap.size = w.heap.size := by
  obtain ⟨ad, rfl, hc⟩ := hr.2.2 hm
  have hcl : (xs.take (min m (64 - q))).length = min m (64 - q) := by rw [List.length_take, hr.1]; omega
  have hrun := fun ty => run_copy_row (P := Tryd.prog) w 25 25 ty 5 g (8 + q) (64 - q) (64 - q) ad m c (hcs us rest n) 57 (nums .u8 (xs.take (min m (64 - q)))) Tryd.underlying25 size5 S.blk (by rw [nums_length, hcl])
    (fun j v hv => by
      have hj : j < min m (64 - q) := by
        have := (List.getElem?_eq_some_iff.1 hv).1
        rw [nums_length, hcl] at this
        exact this
      rw [hc j (by omega), ← hv]
      have hjx : j < xs.length := by rw [hr.1]; omega
      simp [nums, List.getD_eq_getElem?_getD, List.getElem?_take, List.getElem?_eq_getElem hjx]
      exact hj)
    (by rw [nums_length, hcl, hcs_size n S.hl S.rl]; omega) (fun v hv => nums_one .u8 _ v (by simpa using hv))
  refine ⟨w.setRow g ((hcs us rest n).toList.take (8 + q) ++ nums .u8 (xs.take (min m (64 - q))) ++ (hcs us rest n).toList.drop (8 + q + (nums .u8 (xs.take (min m (64 - q)))).length)).toArray, fun ty => ?_, ⟨?_, S.hl, laidIn_length S.rl (by rw [hcl]; omega)⟩, ⟨rfl, rfl, rfl, by simp [World.setRow], fun k _ hk => setRow_other w g k _ (fun e => hk (by rw [e]))⟩, by simp [World.setRow]⟩
  · rw [hrun ty]
    rw [nums_length, hcl]
    rfl
  · show Bk 57 _ _ _
    rw [← hcs_laid S.hl S.rl q (by rw [hcl]; omega)]
    exact setRow_heap w g _ _ 57 (0, 0) S.blk

theorem len55 : Tryd.prog.arrayLen 55 = 64 := by kernel_rfl
theorem slice_rest (g q N : Nat) (hq : q = N % 64) (h : q < 64) : ∀ W : World, (Instr.sliceAt 55 (.pointer (some ⟨g, 8, none⟩)) (some (.int .i64 ((N : Int) % 64))) none none).run Tryd.prog W = .ok (.slice (some ⟨g, 8 + q, none⟩) (64 - q) (64 - q)) W := by
  intro W
  have ht : Tryd.prog.underlying 55 = some (.array (Tryd.prog.arrayLen 55) (Tryd.prog.elem 55)) := by kernel_rfl
  have he : Tryd.prog.elem 55 = 5 := by kernel_rfl
  obtain ⟨i0, hi, hs⟩ := Option.map_eq_some_iff.1 size5
  rw [run_sliceAt_array_l (P := Tryd.prog) W 55 ⟨g, 8, none⟩ ht .i64 ((N : Int) % 64) (by omega) (by rw [len55]; omega), len55, he, show ((N : Int) % 64).toNat = q by omega]
  simp [sizeOf, typeInfo, hi, hs, slicedAt, Result.andThen]
  rw [if_neg (by omega)]
  unfold Addr.add
  split <;> simp_all

theorem Hs.step {w : World} {g : Nat} {m : List Int} {us rest : List Int} {c : List Int} (H : Held (blkF RL) H0 us rest m) (hp : 0 < c.length) (hq : m.length % 64 + c.length ≤ 64)
    (S : St w g (if (m.length + c.length) % 64 = 0 then blkF RL us (laidIn rest c (m.length % 64)) else us) (laidIn rest c (m.length % 64)) ((m.length + c.length : Nat) : Int)) : Hs w g (m ++ c) :=
  ⟨_, _, by rw [List.length_append]; exact S, H.step hq hp⟩

set_option maxHeartbeats 2000000 in
theorem write_any (m bs : List Int) (g : Nat) (A : Option Addr) (n c : Nat) (w : World) (T : Tabs w) (S : Hs w g m) (hg : 0 < g) (B : Src w g A n bs) (hc : n ≤ c) (hmax : m.length + n ≤ 4611686018427387904) :
    Calls Tryd.prog 14 #[.pointer (some ⟨g, 0, none⟩), .slice A n c] w fun e w' => e = .returned (.int .i64 ((m.length + n : Nat) : Int)) ∧ Hs w' g (m ++ bs) ∧ w.grownBy w' (some g) := by
  have hbl := B.reads.1
  have HT := Lib.hid T
  have HS0 := Lib.hid S
  have HB0 := Lib.hid B
  have HBL := Lib.hid hbl
  clear T S B hbl
  go_enter Tryd.func14, Tryd.ntmps14
  go_wp2_with fail
  go_loopw [1, 5, 6] (fun b _ _ wr => ∃ (j : Nat) (A' : Option Addr), j ≤ n ∧ b = .slice A' (n - j) (c - j) ∧ Hid (Src wr g A' (n - j) (bs.drop j)) ∧ Hid (Hs wr g (m ++ bs.take j)) ∧ Hid (w.grownBy wr (some g))) (fun b _ _ _ => match b with | .slice _ l _ => l | _ => 0)
  case atStart => exact ⟨0, A, by omega, rfl, HB0, by show Hs _ _ _; simpa using HS0.out, World.grownBy.refl _ _⟩
  case round =>
    obtain ⟨j, A', hj, rfl, HB, HS, HG⟩ := hrel
    obtain ⟨us, rest, S, H⟩ := HS.out
    have hml : (m ++ bs.take j).length = m.length + j := by rw [List.length_append, List.length_take, HBL.out]; omega
    have HML := Lib.hid hml
    obtain ⟨N, hN⟩ : ∃ N, N = (m ++ bs.take j).length := ⟨_, rfl⟩
    rw [← hN] at S
    have hNj : N = m.length + j := hN.trans hml
    have hNle : N + (n - j) ≤ 4611686018427387904 := by omega
    have hCL : n - j ≤ c - j := by omega
    have hn := S.n_at
    have f72 : wr.frozen? ⟨g, 72, none⟩ = false := S.blk.frozen 72
    obtain ⟨L, hL⟩ : ∃ L, L = n - j := ⟨_, rfl⟩
    obtain ⟨C, hC⟩ : ∃ C, C = c - j := ⟨_, rfl⟩
    rw [← hL] at hCL hNle HB
    rw [← hC] at hCL
    have HH := Lib.hid H
    have HSt := Lib.hid S
    have HL := Lib.hid hL
    have HN := Lib.hid hN
    rw [← hL, ← hC]
    clear hml hN hNj hL H S HS
    have HCC := Lib.hid hC
    clear hC
    by_cases hlt : 0 < L
    · obtain ⟨q, hq⟩ : ∃ q, q = N % 64 := ⟨_, rfl⟩
      have hq1 : q < 64 := by omega
      have hqi : (N : Int) % 64 = (q : Int) := by omega
      obtain ⟨k, hk⟩ : ∃ k, k = min L (64 - q) := ⟨_, rfl⟩
      have hk1 : 0 < k := by omega
      have hk2 : k ≤ L := by omega
      have hk3 : q + k ≤ 64 := by omega
      obtain ⟨w1, hcp, S1, G1, hs1⟩ := copy_rest HSt.out q (by omega) A' L C _ HB.out.reads hlt
      rw [← hk] at hcp S1
      obtain ⟨A2, hcut, hsrc⟩ := cut_src A' L C k hk2
      have HQ := Lib.hid hq
      have HK := Lib.hid hk
      have hsl := slice_rest g q N hq (by omega)
      have HQI := Lib.hid hqi
      have e1 : ((N : Int) + (k : Int)) = ((N + k : Nat) : Int) := by omega
      have S2 := S1.set_n ((N + k : Nat) : Int)
      have G2 := only_set G1 72 (.int .i64 ((N + k : Nat) : Int))
      have hn1 := S1.n_at
      have f1 : w1.frozen? ⟨g, 72, none⟩ = false := S1.blk.frozen 72
      have hcl : ((bs.drop j).take k).length = k := by rw [List.length_take, List.length_drop, HBL.out]; have := HL.out; omega
      have HSTEP : ∀ w', St w' g (if (N + k) % 64 = 0 then blkF RL us (laidIn rest ((bs.drop j).take k) q) else us) (laidIn rest ((bs.drop j).take k) q) ((N : Int) + (k : Int)) → Hid (Hs w' g (m ++ bs.take (j + k))) := fun w' hS => by
        have h1 := Hs.step (w := w') (g := g) (c := (bs.drop j).take k) HH.out (by omega) (by rw [← HN.out, hcl]; omega)
        rw [← HN.out, hcl, ← hq] at h1
        have h2 := h1 (by rw [← e1]; exact hS)
        rw [List.append_assoc] at h2
        show Hs _ _ _
        rw [show bs.take (j + k) = bs.take j ++ (bs.drop j).take k from List.take_add]
        exact h2
      have S2 := S1.set_n ((N : Int) + (k : Int))
      have G2 := World.grownBy.trans HG.out (only_set G1 72 (.int .i64 ((N : Int) + (k : Int))))
      have HSTP := Lib.hid HSTEP
      have HS2 := Lib.hid S2
      have HG2 := Lib.hid G2
      have hT2 := Lib.hid (HT.out.grown G2 hg)
      have HB2 : Hid (Src (w1.setCell ⟨g, 72, none⟩ (.int .i64 ((N : Int) + (k : Int)))) g A2 (L - k) (bs.drop (j + k))) := by
        have h1 := hsrc _ g _ hCL (HB.out.grown (only_set G1 72 (.int .i64 ((N : Int) + (k : Int)))))
        rw [List.drop_drop] at h1
        exact h1
      have HL2 : Hid (L - k = n - (j + k)) := by have := HL.out; show _ = _; omega
      have HC2 : Hid (C - k = c - (j + k)) := by have := HCC.out; show _ = _; omega
      have hjk : j + k ≤ n := by have := HL.out; omega
      clear hq hk hqi e1 S2 G2 S1 G1 HSTEP hcl hsrc
      by_cases h0 : (N + k) % 64 = 0
      · have hz : (((N : Int) + (k : Int)) % 64 == 0) = true := by rw [beq_iff_eq]; omega
        have HZ := Lib.hid h0
        clear h0
        go_wp2_with fail
        refine (block_any _ _ _ g _ hT2.out HS2.out hg).mono ?_
        rintro e w2 ⟨rfl, S3, G3⟩
        have HF : Hid (Hs w2 g (m ++ bs.take (j + k))) := HSTP.out w2 (by rw [if_pos HZ.out]; exact S3)
        have HG3 : Hid (w.grownBy w2 (some g)) := World.grownBy.trans HG2.out G3
        have HB3 : Hid (Src w2 g A2 (L - k) (bs.drop (j + k))) := HB2.out.grown G3
        clear S3 G3
        go_wp2_with fail
        go_roundw
        case rel => exact ⟨j + k, A2, hjk, by rw [← HL2.out, ← HC2.out], by rw [← HL2.out]; exact HB3, HF, HG3⟩
        case measure => simp; omega
      · have hz : (((N : Int) + (k : Int)) % 64 == 0) = false := by rw [beq_eq_false_iff_ne]; omega
        have HZ := Lib.hid h0
        clear h0
        have HF : Hid (Hs _ g (m ++ bs.take (j + k))) := HSTP.out _ (by rw [if_neg HZ.out]; exact HS2.out)
        go_wp2_with fail
        go_roundw
        case rel => exact ⟨j + k, A2, hjk, by rw [← HL2.out, ← HC2.out], by rw [← HL2.out]; exact HB2, HF, HG2⟩
        case measure => simp; omega
    · have HF : Hid (Hs wr g (m ++ bs)) := by
        have h1 : Hs wr g (m ++ bs.take j) := ⟨us, rest, by rw [← HN.out]; exact HSt.out, HH.out⟩
        rw [List.take_of_length_le (by rw [HBL.out]; have := HL.out; omega)] at h1
        exact h1
      have HE : Hid ((N : Int) = ((m.length + n : Nat) : Int)) := by
        have h1 := HN.out
        rw [HML.out] at h1
        have h2 := HL.out
        show _ = _
        omega
      go_wp2_with fail
      go_ret
      exact ⟨by rw [HE.out]; rfl, HF.out, HG.out⟩
end Go.Proofs.YtikoahjnhdnhdaaDoor
