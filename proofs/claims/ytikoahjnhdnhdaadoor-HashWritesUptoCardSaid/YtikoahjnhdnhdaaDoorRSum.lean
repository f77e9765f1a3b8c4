/- CONTRACT of scrupleref02.Sum: the digest of the bytes that are read. -/
import Derived.Test.YtikoahjnhdnhdaaDoorEq
import Derived.Test.YtikoahjnhdnhdaaDoorBlkA
import Derived.StillTailTactics
namespace Go.Proofs.YtikoahjnhdnhdaaDoor
open Go.ChangeShapes Go.WideShapes Go.ChangeAt Go.RowKit Go.Proofs.YtikoahjnhdnhdaaDoorW.PrintWords Go.Deep
set_option linter.unusedVariables false
set_option linter.unusedSimpArgs false

attribute [local go_sem ↓] loadAt_23 storeAt_23 alloc_23 loadAt_50 storeAt_50 alloc_50 loadAt_52 storeAt_52 alloc_52
attribute [local go_sem] run_alloc23 run_alloc50 run_alloc52

theorem runB_length {P : List Int} : ∀ k, (runB (blkF RL) H0 P k).length = 8
  | 0 => H0_length
  | k + 1 => blkF_length _ _ (runB_length k)
theorem cut_block (A : Option Addr) (n c k : Nat) (hk : 64 * k + 64 ≤ n) (hc : n ≤ c) :
    ∃ A' : Option Addr, (∀ W : World, (Instr.slice 25 (.slice A n c) (some (.int .i64 (64 * (k : Int)))) (some (.int .i64 (64 * (k : Int) + 64))) none).run Tryd.prog W = .ok (.slice A' 64 (c - 64 * k)) W) ∧
      ∀ (w : World) (xs : List Int), ReadsInt w .u8 A n xs → ReadsInt w .u8 A' 64 ((xs.drop (64 * k)).take 64) := by
  obtain ⟨i0, hi, hz0, hz1, hz2⟩ := info_parts info5
  refine ⟨if c = 64 * k then A else A.map (·.add (64 * k)), fun W => ?_, fun w xs h => (h.drop_ (64 * k) (by omega) hc).take_ 64 (by omega)⟩
  have h := cut_mid (P := Tryd.prog) 25 5 .i64 .i64 Tryd.underlying25 hi 1 hz1 A n c (64 * (k : Int)) (64 * (k : Int) + 64) (by omega) (by omega) (by omega) hc W
  rw [show (64 * (k : Int)).toNat = 64 * k by omega, show (64 * (k : Int) + 64).toNat = 64 * k + 64 by omega, Nat.add_sub_cancel_left, Nat.mul_one] at h
  exact h

theorem far_own {w : World} {base n g : Nat} {e t : TypeId} {size : Nat} {v : Value} {xs : List Value} {C : Array Value} (h : w.ownsRow base e size v n xs) (hg : g < base) : v.ownBlock = none ∨ v.ownBlock ≠ some g := by
  cases hv : v.ownBlock with
  | none => exact .inl rfl
  | some k =>
    refine .inr fun he => ?_
    have := own_base h k hv
    injection he with he
    omega

set_option maxRecDepth 100000 in
set_option maxHeartbeats 4000000 in
theorem rsum_any (bs : List Int) (A : Option Addr) (n c : Nat) (w : World) (B : In w A n c bs) (hmax : n ≤ 140737488351232) :
    Calls Tryd.prog 8 #[.slice A n c] w fun e w' => e = .returned (.agg (nums .u8 (shaF bs)).toArray) ∧ Below w.heap.size w w' := by
  have q1 : Below w.heap.size w (w.alloc (.cells z23 23)) := (Below.refl _ _).alloc (Nat.le_refl _) _
  have R1 : Bk 23 (w.alloc (.cells z23 23)) w.heap.size z23 := Bk.new 23 w z23
  have hbl := B.reads.1
  have HBL := Lib.hid hbl
  have HB := Lib.hid B
  have HR1 := Lib.hid R1
  have H19 := Lib.hid (words_any (w.alloc (.cells z23 23)))
  clear B R1 hbl
  go_enter Tryd.func8, Tryd.ntmps8
  go_wp2_with fail
  refine H19.out.mono ?_
  rintro e w2 ⟨rfl, b2⟩
  have q2 : Below w.heap.size w w2 := q1.trans (b2.mono (by simp))
  have s2 : w.heap.size < w2.heap.size := by have := b2.size; simp at this; omega
  obtain ⟨CK, hCK⟩ : ∃ C, C = (nums .u32 RL).toArray := ⟨_, rfl⟩
  have hk64 : CK.size = 64 := by rw [hCK]; simp [nums, RL_length]
  obtain ⟨w3, hst3, K3, g3, z3⟩ := (Bk.new 50 w2 z50).store_whole (ty := 50) CK (by rw [hk64, z50_size]) (by rw [hk64]; exact size50) (by rw [hCK]; exact nums_one .u32 RL)
  have hst3' : (store50 (.pointer (some ⟨w2.heap.size, 0, none⟩)) (.agg CK)).run Tryd.prog (w2.alloc (.cells z50 50)) = .ok () w3 := hst3
  have hz3 : w3.heap.size = w2.heap.size + 1 := by rw [z3]; simp
  obtain ⟨w4, hst4, H4, g4, z4⟩ := (Bk.new 52 w3 z52).store_whole (ty := 52) (nums .u32 H0).toArray (by simp [nums, H0_length, z52_size]) (size52' _ (by simp [nums, H0_length])) (nums_one .u32 H0)
  have hst4' : (store52 (.pointer (some ⟨w3.heap.size, 0, none⟩)) (.agg #[.int .u32 1779033703, .int .u32 3144134277, .int .u32 1013904242, .int .u32 2773480762, .int .u32 1359893119, .int .u32 2600822924, .int .u32 528734635, .int .u32 1541459225])).run Tryd.prog (w3.alloc (.cells z52 52)) = .ok () w4 := hst4
  have hz4 : w4.heap.size = w2.heap.size + 2 := by rw [z4]; simp [hz3]
  have q3 : Below w.heap.size w w3 := (q2.alloc q2.size (.cells z50 50)).trans (below_of_grown g3 (by omega) (by simp; omega))
  have q4 : Below w.heap.size w w4 := (q3.alloc q3.size (.cells z52 52)).trans (below_of_grown g4 (by omega) (by simp; omega))
  have K4 : Bk 50 w4 w2.heap.size CK := (K3.alloc (.cells z52 52)).other g4 (by omega)
  have R4 : Bk 23 w4 w.heap.size z23 := ((((HR1.out.below b2).alloc (.cells z50 50)).other g3 (by omega)).alloc (.cells z52 52)).other g4 (by omega)
  have B4 := HB.out.below q4
  have HK4 := Lib.hid K4
  have HR4 := Lib.hid R4
  have HH4 : Hid (Bk 52 w4 w3.heap.size (nums .u32 (runB (blkF RL) H0 (padL bs) 0)).toArray) := H4
  have HRD := Lib.hid B4.reads
  have HCK := Lib.hid hCK
  have HZ3 := Lib.hid hz3
  have HZ4 := Lib.hid hz4
  have O0 := own_nil w4 w4.heap.size 5 1
  have hlim : n + 200 ≤ 140737488355328 := by omega
  rw [← hCK]
  clear hst3 K3 g3 z3 hst4 H4 g4 z4 K4 R4 B4 hCK hk64 hz3 hz4 b2 H19 HR1
  go_wp2_with (first
    | (at_builtin; refine print_append_row (w0 := w4) w4.heap.size rfl _ _ 25 5 .u8 1 rfl Tryd.underlying25 info5 (by decide) (.slice none 0 0) [] bs A n c rfl rfl O0 HRD.out (Below.refl _ _) (Nat.le_refl _) (by simp; omega) ?_; intro v1 w5 O1 B5 hg5 hp5; have s5 := B5.size; rw [List.nil_append] at O1)
    | (at_builtin; refine print_append_num (w0 := w4) w4.heap.size rfl _ _ 25 5 .u8 1 rfl Tryd.underlying25 info5 (by decide) v1 bs 128 rfl rfl O1 B5 s5 (by rw [HBL.out]; omega) ?_; intro v2 w6 O2 B6 hg6 hp6))
  have O3 : w6.ownsRow w4.heap.size 5 1 v2 (n + 1) (nums .u8 (bs ++ tailZ 1)) := by
    rw [List.length_append, HBL.out] at O2
    exact O2
  obtain ⟨A1, c1, rfl⟩ := own_slice O3
  have HO3 := Lib.hid O3
  clear O0 O1 O2 O3 hg5 hp5 hg6 hp6 B5 s5
  go_loopw [5] (fun v wr => ∃ (l : Nat) (A1 : Option Addr) (c1 : Nat), 1 ≤ l ∧ l ≤ 1 + zerosOf n ∧ v = .slice A1 (n + l) c1 ∧ Hid (wr.ownsRow w4.heap.size 5 1 (.slice A1 (n + l) c1) (n + l) (nums .u8 (bs ++ tailZ l))) ∧ Below w4.heap.size w4 wr) (fun v _ => match v with | .slice _ l _ => n + 1000 - l | _ => 0)
  case atStart => exact ⟨1, _, _, Nat.le_refl _, by omega, rfl, HO3, B6⟩
  case round =>
    clear HO3 B6
    obtain ⟨l, A1, c1, hl1, hl2, rfl, HO, hB⟩ := hrel
    have hzl := zeros_lt n
    by_cases hlt : l < 1 + zerosOf n
    · have hz : (((n : Int) + (l : Int)) % 64 == 56) = false := by
        rw [beq_eq_false_iff_ne]
        have := zeros_more n l hl1 hlt
        omega
      have hz' : (((n : Int) + (l : Int)) % 64 != 56) = true := by simp [bne, hz]
      have hbs := hB.size
      have htl : (bs ++ tailZ l).length = n + l := by rw [List.length_append, tailZ_length l hl1, HBL.out]
      have HO' : wr.ownsRow w4.heap.size 5 1 (.slice A1 (n + l) c1) (bs ++ tailZ l).length (nums .u8 (bs ++ tailZ l)) := by rw [htl]; exact HO.out
      have HTS : Hid (bs ++ tailZ (l + 1) = (bs ++ tailZ l) ++ [0]) := by show _ = _; rw [tailZ_succ l hl1, List.append_assoc]
      have HTL := Lib.hid htl
      clear htl
      have hl3 : l ≤ 100 := by omega
      go_wp2_with (at_builtin; refine print_append_num (w0 := w4) w4.heap.size rfl _ _ 25 5 .u8 1 rfl Tryd.underlying25 info5 (by decide) (.slice A1 (n + l) c1) (bs ++ tailZ l) 0 rfl rfl HO' hB hbs (by rw [HTL.out]; omega) ?_; intro v1 w5 HO3 HB3 hg3 hp3)
      have HO4 : Hid (w5.ownsRow w4.heap.size 5 1 v1 (n + (l + 1)) (nums .u8 (bs ++ tailZ (l + 1)))) := by
        show World.ownsRow _ _ _ _ _ _ _
        rw [HTS.out]
        rw [List.length_append, HTL.out] at HO3
        exact HO3
      obtain ⟨A2, c2, rfl⟩ := own_slice HO4.out
      clear HO3 HO' hg3 hp3
      go_wp2
      go_roundw
      case rel => exact ⟨l + 1, A2, c2, by omega, by omega, rfl, HO4, HB3⟩
      case measure => simp; omega
    · obtain rfl : l = 1 + zerosOf n := by omega
      have HTL := Lib.hid (tailZ_length (1 + zerosOf n) (by omega))
      have hze := zeros_end n
      have hl3 : 1 + zerosOf n ≤ 100 := by omega
      generalize hll : 1 + zerosOf n = l at *
      have hz : (((n : Int) + (l : Int)) % 64 == 56) = true := by rw [beq_iff_eq]; omega
      have hz' : (((n : Int) + (l : Int)) % 64 != 56) = false := by simp [bne, hz]
      have HLL := Lib.hid hll
      clear hll hl1 hze
      have e64 : IntKind.u64.wrap (n : Int) = n := by simp [IntKind.wrap, IntKind.bits, IntKind.signed]; omega
      have e8 : IntKind.u64.wrap (8 * (n : Int)) = 8 * n := by simp [IntKind.wrap, IntKind.bits, IntKind.signed]; omega
      go_wp2_with fail
      go_loopw [5, 7] (fun v i wr => ∃ (k : Nat) (A1 : Option Addr) (c1 : Nat), k ≤ 8 ∧ v = .slice A1 (n + l + k) c1 ∧ i = .int .i64 (7 - (k : Int)) ∧ Hid (wr.ownsRow w4.heap.size 5 1 (.slice A1 (n + l + k) c1) (n + l + k) (nums .u8 (bs ++ tailZ l ++ lenB n k))) ∧ Below w4.heap.size w4 wr) (fun _ i _ => (intOf i + 1).toNat)
      case atStart => exact ⟨0, A1, c1, by omega, rfl, rfl, by show World.ownsRow _ _ _ _ _ _ _; simpa [lenB] using HO.out, hB⟩
      case round =>
        clear HO hB hz hz'
        obtain ⟨k, A1, c1, hk, rfl, rfl, HO, hB⟩ := hrel
        have hbs := hB.size
        by_cases hlt : k < 8
        · have htl : (bs ++ tailZ l ++ lenB n k).length = n + l + k := by rw [List.length_append, List.length_append, HTL.out, lenB_length, HBL.out]
          have HO' : wr.ownsRow w4.heap.size 5 1 (.slice A1 (n + l + k) c1) (bs ++ tailZ l ++ lenB n k).length (nums .u8 (bs ++ tailZ l ++ lenB n k)) := by rw [htl]; exact HO.out
          have HTL2 := Lib.hid htl
          have HTS : Hid (bs ++ tailZ l ++ lenB n (k + 1) = (bs ++ tailZ l ++ lenB n k) ++ [byteN n k]) := by show _ = _; rw [lenB_succ, List.append_assoc (bs ++ tailZ l)]
          have h7 : (0 : Int) ≤ 7 - (k : Int) := by omega
          have h56 : (0 : Int) ≤ 8 * (7 - (k : Int)) := by omega
          have hto : ((8 : Int) * (7 - (k : Int))).toNat = 56 - 8 * k := by omega
          have hmin : min (56 - 8 * k) 64 = 56 - 8 * k := by omega
          clear htl
          go_wp2_with (at_builtin; refine print_append_num (w0 := w4) w4.heap.size rfl _ _ 25 5 .u8 1 rfl Tryd.underlying25 info5 (by decide) (.slice A1 (n + l + k) c1) (bs ++ tailZ l ++ lenB n k) (byteN n k) rfl rfl HO' hB hbs (by rw [HTL2.out]; omega) ?_; intro v1 w5 HO3 HB3 hg3 hp3)
          have HO4 : Hid (w5.ownsRow w4.heap.size 5 1 v1 (n + l + (k + 1)) (nums .u8 (bs ++ tailZ l ++ lenB n (k + 1)))) := by
            show World.ownsRow _ _ _ _ _ _ _
            rw [HTS.out]
            rw [List.length_append, HTL2.out] at HO3
            exact HO3
          obtain ⟨A2, c2, rfl⟩ := own_slice HO4.out
          clear HO3 HO' hg3 hp3
          go_wp2
          go_roundw
          case rel => exact ⟨k + 1, A2, c2, by omega, rfl, by simp; omega, HO4, HB3⟩
          case measure => simp [intOf]; omega
        · obtain rfl : k = 8 := by omega
          have hneg : ¬ (0 : Int) ≤ 7 - ((8 : Nat) : Int) := by omega
          have hcap : n + l + 8 ≤ c1 := own_le HO.out
          have hpad : bs ++ tailZ l ++ lenB n 8 = padL bs := by
            unfold padL tailL
            rw [HBL.out, HLL.out, List.append_assoc]
          have hpl : (padL bs).length = n + l + 8 := by
            rw [padL_length, HBL.out]
            have := HLL.out
            omega
          obtain ⟨Q, hQ⟩ : ∃ Q, n + l + 8 = 64 * Q := ⟨(n + l + 8) / 64, by have := padL_whole bs; omega⟩
          have HOP : Hid (wr.ownsRow w4.heap.size 5 1 (.slice A1 (n + l + 8) c1) (n + l + 8) (nums .u8 (padL bs))) := by rw [← hpad]; exact HO.out
          have HH6 : Hid (Bk 52 wr w3.heap.size (nums .u32 (runB (blkF RL) H0 (padL bs) 0)).toArray) := (hB.block _ HH4.out.lt).trans HH4.out
          have HK6 : Hid (Bk 50 wr w2.heap.size CK) := (hB.block _ HK4.out.lt).trans HK4.out
          have HR6 : Hid (Bk 23 wr w.heap.size z23) := (hB.block _ HR4.out.lt).trans HR4.out
          have q6 : Below w.heap.size w wr := q4.trans (hB.mono q4.size)
          have HQ := Lib.hid hQ
          have HPL := Lib.hid hpl
          have hlo : w4.heap.size ≤ wr.heap.size := hB.size
          clear HO hB hpad hpl hQ HH4 HK4 HR4
          rename World => w6
          go_wp2_with fail
          go_loopw [8] (fun i wr => ∃ k : Nat, k ≤ Q ∧ i = .int .i64 (64 * (k : Int)) ∧ Hid (Bk 52 wr w3.heap.size (nums .u32 (runB (blkF RL) H0 (padL bs) k)).toArray) ∧ Hid (w6.grownBy wr (some w3.heap.size))) (fun i _ => (64 * (Q : Int) - intOf i).toNat)
          case atStart => exact ⟨0, by omega, by simp, HH6, World.grownBy.refl _ _⟩
          case round =>
            clear HH6
            obtain ⟨k, hk, rfl, HH, HG⟩ := hrel
            by_cases hlt : k < Q
            · have hlt' : 64 * (k : Int) < (n : Int) + (l : Int) + 8 := by have := HQ.out; omega
              obtain ⟨A2, hcut, hrd⟩ := cut_block A1 (n + l + 8) c1 k (by have := HQ.out; omega) hcap
              have OW : wr.ownsRow w4.heap.size 5 1 (.slice A1 (n + l + 8) c1) (n + l + 8) (nums .u8 (padL bs)) := own_other HOP.out HG.out (far_own (C := #[]) (t := 0) HOP.out (by have := HZ3.out; have := HZ4.out; omega))
              have RB : Bytes wr A2 64 (((padL bs).drop (64 * k)).take 64) := ⟨hrd wr _ (own_reads' OW)⟩
              have hl8 : (runB (blkF RL) H0 (padL bs) k).length = 8 := runB_length k
              have h20 : ∀ (W : World), Below wr.heap.size wr W → Calls Tryd.prog 20 #[.agg (nums .u32 (runB (blkF RL) H0 (padL bs) k)).toArray, .agg (nums .u32 RL).toArray, .slice A2 64 (c1 - 64 * k)] W fun e w' => e = .returned (.agg (nums .u32 (runB (blkF RL) H0 (padL bs) (k + 1))).toArray) ∧ Below W.heap.size W w' := fun (W : World) (hb : Below wr.heap.size wr W) => rblock_any (runB (blkF RL) H0 (padL bs) k) RL (((padL bs).drop (64 * k)).take 64) A2 64 (c1 - 64 * k) W hl8 RL_length (Nat.le_refl _) (RB.below hb)
              have KW : Bk 50 wr w2.heap.size CK := HK6.out.other HG.out (by have := HZ3.out; omega)
              rw [← HCK.out] at h20
              have hl52 : ∀ m, (load52 (.pointer (some ⟨w3.heap.size, 0, none⟩))).run Tryd.prog (wr.drewN m) = .ok (.agg (nums .u32 (runB (blkF RL) H0 (padL bs) k)).toArray) (wr.drewN m) := fun m =>
                run_load52 (wr.drewN m) w3.heap.size 0 (nums .u32 (runB (blkF RL) H0 (padL bs) k)) (by rw [nums_length]; exact hl8) (HH.out.drewN m).range
              have hl50 : ∀ m, (load50 (.pointer (some ⟨w2.heap.size, 0, none⟩))).run Tryd.prog (wr.drewN m) = .ok (.agg CK) (wr.drewN m) := fun m => by
                have h1 := run_load50 (wr.drewN m) w2.heap.size 0 CK.toList (by rw [Array.length_toList, HCK.out]; simp [nums, RL_length]) (KW.drewN m).range
                simpa using h1
              obtain ⟨NB, hNB⟩ : ∃ C, C = (nums .u32 (runB (blkF RL) H0 (padL bs) (k + 1))).toArray := ⟨_, rfl⟩
              rw [← hNB] at h20
              have hnb8 : NB.size = 8 := by rw [hNB]; simp [nums, runB_length]
              have HNB := Lib.hid hNB
              have HNB8 := Lib.hid hnb8
              have H20 := Lib.hid h20
              clear h20 OW RB KW hrd hNB hnb8
              generalize hCH : (nums .u32 (runB (blkF RL) H0 (padL bs) k)).toArray = CH at *
              have HCH := Lib.hid hCH
              have hch8 : CH.size = 8 := by rw [← hCH]; simp [nums, hl8]
              have HCH8 := Lib.hid hch8
              clear hCH hch8
              have hkQ : 64 * k + 64 ≤ n + l + 8 := by have := HQ.out; omega
              have hw64 : IntKind.i64.wrap (64 * (k : Int) + 64) = 64 * (k : Int) + 64 := IntWalk.i64_in _ (by omega)
              have hd1 : ({ wr with drawn := wr.drawn + 1 } : World) = wr.drewN 1 := rfl
              go_wp2_with fail
              refine wp_region_still_tail 7 (by kernel_rfl) (by kernel_rfl) ?_
              rw [hd1]
              simp only [List.take_succ_cons, List.take_zero, List.drop_succ_cons, List.drop_zero]
              repeat still_step
              refine wpStill_nil ?_
              have hbd : Below wr.heap.size wr (wr.drewN 1) := keep_drew wr 1
              have HHd : Bk 52 (wr.drewN 1) w3.heap.size CH := HH.out.drewN 1
              have HGd : w6.grownBy (wr.drewN 1) (some w3.heap.size) := only_drew HG.out 1
              clear hl52 hl50 hcut hd1
              generalize wr.drewN 1 = wd at *
              have HBD := Lib.hid hbd
              have HHD := Lib.hid HHd
              have HGD := Lib.hid HGd
              clear hbd HHd HGd
              go_wp2_with fail
              refine (H20.out _ HBD.out).mono ?_
              rintro e w7 ⟨rfl, b7⟩
              have H7 : Bk 52 w7 w3.heap.size CH := HHD.out.below b7
              obtain ⟨w8, hst8, H8, g8, z8⟩ := H7.store_whole (ty := 52) NB (by rw [HNB8.out, HCH8.out]) (size52' _ HNB8.out) (by rw [HNB.out]; exact nums_one .u32 _)
              have hst9 : (store52 (.pointer (some ⟨w3.heap.size, 0, none⟩)) (.agg NB)).run Tryd.prog w7 = .ok () w8 := hst8
              have HH8 : Hid (Bk 52 w8 w3.heap.size (nums .u32 (runB (blkF RL) H0 (padL bs) (k + 1))).toArray) := by show Bk _ _ _ _; rw [← HNB.out]; exact H8
              have HG8 : Hid (w6.grownBy w8 (some w3.heap.size)) := World.grownBy.trans (World.grownBy.trans HGD.out (grown_of_below b7 (some w3.heap.size))) g8
              clear hst8 H8 g8 z8 H7 b7
              go_wp2_with fail
              go_roundw
              case rel => exact ⟨k + 1, by omega, by simp; omega, HH8, HG8⟩
              case measure => simp [intOf]; omega
            · obtain rfl : k = Q := by omega
              have hge : ¬ 64 * (k : Int) < (n : Int) + (l : Int) + 8 := by have := HQ.out; omega
              have hus : runB (blkF RL) H0 (padL bs) k = sumW (blkF RL) H0 bs := by
                unfold sumW
                rw [HPL.out, HQ.out, Nat.mul_div_cancel_left _ (by omega)]
              have HUS : Hid (Bk 52 wr w3.heap.size (nums .u32 (sumW (blkF RL) H0 bs)).toArray) := by rw [← hus]; exact HH.out
              have hsl : (sumW (blkF RL) H0 bs).length = 8 := by rw [← hus]; exact runB_length k
              have HSL := Lib.hid hsl
              have HRw : Hid (Bk 23 wr w.heap.size z23) := HR6.out.other HG.out (by have := HZ3.out; omega)
              have s6 := HG.out.size
              have q9 : Below w.heap.size w wr := q6.grown HG.out q6.size (fun j hj => by injection hj with hj; have := HZ3.out; omega)
              have D0 : Hid (Bk 23 (wr.alloc (.cells z23 23)) wr.heap.size (nums .u8 (digZ (sumW (blkF RL) H0 bs) 0)).toArray) := by
                have h1 := Bk.new 23 wr z23
                show Bk _ _ _ _
                rw [digZ_zero]
                have e : (nums .u8 (List.replicate 32 0)).toArray = z23 := by unfold z23; rfl
                rw [e]
                exact h1
              have HSH : Hid (digL (sumW (blkF RL) H0 bs) = shaF bs) := rfl
              generalize sumW (blkF RL) H0 bs = us at *
              clear hus hsl HH HG
              rename World => wo
              have hob : w3.heap.size < wo.heap.size := HUS.out.lt
              go_wp2_with fail
              go_loopw [10] (fun i wr => ∃ k : Nat, k ≤ 32 ∧ i = .int .i64 k ∧ Hid (Bk 23 wr wo.heap.size (nums .u8 (digZ us k)).toArray) ∧ Below wo.heap.size wo wr) (fun i _ => 32 - (intOf i).toNat)
              case atStart => exact ⟨0, by omega, rfl, D0, (Below.refl _ _).alloc (Nat.le_refl _) _⟩
              case round =>
                clear D0
                obtain ⟨k, hk, rfl, HD, hB⟩ := hrel
                by_cases hlt : k < 32
                · have hdl := digZ_length us k (by omega)
                  have d0 : wr.cell? ⟨wo.heap.size, k, none⟩ = some (.int .u8 ((digZ us k).getD k 0)) := by rw [HD.out.cell, nums_at _ _ _ (by omega)]
                  have f0 := HD.out.frozen k
                  have u0 : wr.cell? ⟨w3.heap.size, k / 4, none⟩ = some (.int .u32 (us.getD (k / 4) 0)) := by
                    rw [show wr.cell? ⟨w3.heap.size, k / 4, none⟩ = wo.cell? ⟨w3.heap.size, k / 4, none⟩ from hB.cell (p := ⟨w3.heap.size, k / 4, none⟩) hob, HUS.out.cell, nums_at _ _ _ (by have := HSL.out; omega)]
                  have hsh : (0 : Int) ≤ 24 - 8 * ((k : Int) % 4) := by omega
                  have hto : ((24 : Int) - 8 * ((k : Int) % 4)).toNat = 24 - 8 * (k % 4) := by omega
                  have hmin : min (24 - 8 * (k % 4)) 32 = 24 - 8 * (k % 4) := by omega
                  have HSTEP : Hid (Bk 23 (wr.setCell ⟨wo.heap.size, k, none⟩ (.int .u8 (us.getD (k / 4) 0 / 2 ^ (24 - 8 * (k % 4)) % 256))) wo.heap.size (nums .u8 (digZ us (k + 1))).toArray) := by
                    have h1 := HD.out.set k (.int .u8 (dig us k))
                    rw [set_nums, digZ_step us k hlt] at h1
                    exact h1
                  have HB4 : ∀ u : Value, Below wo.heap.size wo (wr.setCell ⟨wo.heap.size, k, none⟩ u) := fun u => hB.setCell (Nat.le_refl _) u
                  have HBB := Lib.hid HB4
                  generalize us.getD (k / 4) 0 = x at *
                  generalize (digZ us k).getD k 0 = y at *
                  clear HB4 hdl
                  go_wp2_with fail
                  go_roundw
                  case rel => exact ⟨k + 1, by omega, by go_num, HSTEP, HBB.out _⟩
                  case measure => simp [intOf]; omega
                · obtain rfl : k = 32 := by omega
                  have hD := HD.out
                  rw [digZ_full, HSH.out] at hD
                  have hl32 : (nums .u8 (shaF bs)).toArray.size = 32 := by simp [nums, shaF_length]
                  have hld2 : (load23 (.pointer (some ⟨wo.heap.size, 0, none⟩))).run Tryd.prog wr = .ok (.agg (nums .u8 (shaF bs)).toArray) wr :=
                    run_load23 wr wo.heap.size 0 (nums .u8 (shaF bs)) (by rw [nums_length, shaF_length]) hD.range
                  have RR : Bk 23 wr w.heap.size z23 := (hB.block _ (HRw.out.lt)).trans HRw.out
                  obtain ⟨w7, hst7, V7, g7, hs7⟩ := RR.store_whole (ty := 23) (nums .u8 (shaF bs)).toArray (by rw [hl32, z23_size]) (by rw [hl32]; exact size23) (nums_one .u8 _)
                  have hst8 : (store23 (.pointer (some ⟨w.heap.size, 0, none⟩)) (.agg (nums .u8 (shaF bs)).toArray)).run Tryd.prog wr = .ok () w7 := hst7
                  have q7 : Below w.heap.size w w7 := (q9.trans (hB.mono q9.size)).trans (below_of_grown g7 (Nat.le_refl _) (by have := hB.size; have := HZ3.out; omega))
                  have HV7 := Lib.hid V7
                  have HL32 := Lib.hid hl32
                  generalize hGR : (nums .u8 (shaF bs)).toArray = GR at *
                  have HGR := Lib.hid hGR
                  clear hst7 V7 g7 hs7 RR hD HD hGR hl32
                  go_wp2_with fail
                  exact bodyPost_ret (v := .agg GR) (results_cell_row Tryd.results8 _ _ w.heap.size 23 GR (0, 0) _ rfl HV7.out Tryd.underlying23 rfl (by rw [HL32.out]; exact size23)) rfl ⟨by rw [HGR.out], q7⟩
end Go.Proofs.YtikoahjnhdnhdaaDoor
