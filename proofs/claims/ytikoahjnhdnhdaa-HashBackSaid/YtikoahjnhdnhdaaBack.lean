/- THE WALK of 'scruplelaw02.HashBack': it returns true for every digest and any two numbers. -/
import Derived.Test.YtikoahjnhdnhdaaUnhexes
import Derived.Test.YtikoahjnhdnhdaaBackLaw
namespace Go.Proofs.Ytikoahjnhdnhdaa.hashBack
open Go.ChangeShapes Go.WideShapes Go.ChangeAt Go.RowKit Go.Proofs.YtikoahjnhdnhdaaW.PrintWords Go.Deep Go.Proofs.Ytikoahjnhdnhdaa Go.Proofs.Ytikoahjnhdnhdaa.hashUnhexes
set_option linter.unusedVariables false

theorem list_ne {a b : ByteArray} (h : a ≠ b) : (a.toList == b.toList) = false := by
  rw [beq_eq_false_iff_ne]
  intro he
  rw [ByteArray.toList_eq, ByteArray.toList_eq] at he
  exact h (bytes_inj he)
theorem pick_any (c n : Int) (w : World) (hc : -9223372036854775808 ≤ c) (hc' : c ≤ 9223372036854775807) (hn : 1 ≤ n) (hn' : n ≤ 1000000) :
    ∃ k : Int, 0 ≤ k ∧ k < n ∧ Calls Try.prog 10 #[.int .i64 c, .int .i64 n] w fun e w' => e = .returned (.int .i64 k) ∧ w = w' := by
  by_cases h : c < 0
  · refine ⟨(-(c + 1)) % n, Int.emod_nonneg _ (by omega), Int.emod_lt_of_pos _ (by omega), ?_⟩
    go_enter Try.func10, Try.ntmps10
    go_wp2
    go_ret
    refine ⟨?_, rfl⟩
    show Ending.returned (.int .i64 (-((c + 1).tmod n))) = _
    rw [← Int.neg_tmod, Int.tmod_eq_emod_of_nonneg (by omega)]
  · refine ⟨c % n, Int.emod_nonneg _ (by omega), Int.emod_lt_of_pos _ (by omega), ?_⟩
    go_enter Try.func10, Try.ntmps10
    go_wp2
    go_ret
    exact ⟨rfl, rfl⟩

attribute [local go_sem ↓] loadAt_24 storeAt_24 alloc_24 build_24
attribute [local go_sem] run_alloc24 run_build24
set_option maxHeartbeats 1000000 in
theorem good (D : List Int) (hl : D.length = 32) (hb : ∀ i, 0 ≤ D.getD i 0 ∧ D.getD i 0 ≤ 255) (at_ c : Int) (hat : -9223372036854775808 ≤ at_ ∧ at_ ≤ 9223372036854775807) (hcc : -9223372036854775808 ≤ c ∧ c ≤ 9223372036854775807) (w : World) :
    Calls Try.prog 5 #[digestV D, .int .i64 at_, .int .i64 c] w fun e w' => e = .returned (.bool true) ∧ Below w.heap.size w w' := by
  have h6 := fun w => hex_any D hl hb w
  have hA : (nums .u8 D).toArray.size = 32 := by simp [nums, hl]
  have hA1 := nums_one D
  have hq := fun w => eq24_same hl w
  have h8 := fun w => unhex_any (strOfNums (hexL D)) (by rw [strOfNums_size, hexL_length]; omega) w
  have hsz : (strOfNums (hexL D)).size = 64 := by rw [strOfNums_size, hexL_length]; omega
  unfold errR at h8
  rw [unhex_hex D hl hb, if_pos (hex_ok D hl hb)] at h8
  unfold digestV at h6 h8 hq ⊢
  have HBACK : Hid (∀ t : ByteArray, okB t = true → unhexR t = D → t = strOfNums (hexL D)) := fun t h1 h2 => by rw [← h2, hex_unhex h1]
  have HAD : Hid ((nums .u8 D).toArray = (nums .u8 D).toArray) := rfl
  generalize hAD : (nums .u8 D).toArray = A at *
  replace HAD := Lib.hid hAD
  clear hAD
  generalize strOfNums (hexL D) = s at *
  have H6 := Lib.hid h6
  have H8 := Lib.hid h8
  have HQ := Lib.hid hq
  have HSZ := Lib.hid hsz
  clear h6 h8 hq
  have C0 : Blk (w.alloc (.cells A 24)) w.heap.size A := Blk.new w A
  have bC0 : Below w.heap.size w (w.alloc (.cells A 24)) := (Below.refl _ _).alloc (Nat.le_refl _) _
  have hld0 := C0.load hA
  go_enter Try.func5, Try.ntmps5
  go_wp2_with fail
  refine (H6.out _).mono ?_
  rintro e w1 ⟨rfl, hb1⟩
  have bw1 := bC0.trans (hb1.mono (by simp))
  have C1 := C0.below hb1
  go_wp2_with fail
  refine (H8.out _).mono ?_
  rintro e w2 ⟨rfl, hb2⟩
  have bw2 := bw1.trans (hb2.mono (by have := hb1.size; simp at this; omega))
  have C2 := C1.below hb2
  have F0 : Blk (w2.alloc (.cells zc 24)) w2.heap.size zc := Blk.new w2 zc
  obtain ⟨w3, hst, F1, hb3, hf3⟩ := F0.store zc_size A hA hA1
  have C3 : Blk w3 w.heap.size A := (hf3 _ (by have := C2.lt; omega)).trans (C2.alloc _)
  have bw3 := bw2.trans (((((Below.refl _ _).alloc (Nat.le_refl _) _)).trans (hb3 _ (Nat.le_refl _))).mono (by have := C2.lt; omega))
  have hld1 := C3.load hA
  have hld2 := F1.load hA
  have he : (Op.equalIn 10000 24 (.agg A) (.agg A)).run Try.prog w3 = .ok true w3 := HQ.out w3
  obtain ⟨k, hk0, hk1, hkc⟩ := pick_any at_ 64 w3 hat.1 hat.2 (by omega) (by omega)
  obtain ⟨x, hx0, hx1, hxc⟩ := pick_any c 256 w3 hcc.1 hcc.2 (by omega) (by omega)
  have HX := Lib.hid hxc
  go_wp2_with fail
  refine hkc.mono ?_
  rintro e w4 ⟨rfl, rfl⟩
  clear hkc
  go_wp2_with fail
  refine HX.out.mono ?_
  rintro e w4 ⟨rfl, rfl⟩
  go_wp2_with fail
  obtain ⟨n, rfl⟩ := Int.eq_ofNat_of_zero_le hk0
  have CH := Lib.hid C3
  clear hst he hld1 hld2 F0 F1 hf3 hb3 C0 C1 C2 C3 hb1 hb2 bC0 hld0
  have hrd : ReadsInt (w3.alloc (.cells #[.int .u8 x] 5)).drew .u8 (some ⟨w3.heap.size, 0, none⟩) 1 [x] := by
    refine ⟨rfl, by omega, fun _ => ⟨_, rfl, fun j hj => ?_⟩⟩
    obtain rfl : j = 0 := by omega
    exact cell_of_row (w3.alloc (.cells #[.int .u8 x] 5)) _ _ _ _ _ (heap_alloc_new w3 _)
  have hconv := string_of_reads (P := Try.prog) (dst := 9) (c := 1) Try.underlying32 Try.underlying5 Try.underlying9 hrd
  clear hrd
  have hn64 : n ≤ 64 := by omega
  have hsx : (strOfNums [x]).size = 1 := by rw [strOfNums_size]; rfl
  generalize strOfNums [x] = sx at *
  have hc1 : ∀ w, (Op.stringOp .add (s.extract 0 n) sx).run Try.prog w = .ok (.string (s.extract 0 n ++ sx)) w := fun w => run_string_add_sum w _ _ (by rw [ByteArray.size_extract, hsx]; omega)
  have hc2 : ∀ w, (Op.stringOp .add (s.extract 0 n ++ sx) (s.extract (n + 1) 64)).run Try.prog w = .ok (.string (s.extract 0 n ++ sx ++ s.extract (n + 1) 64)) w := fun w => run_string_add_sum w _ _ (by rw [ByteArray.size_append, ByteArray.size_extract, ByteArray.size_extract, hsx]; omega)
  have HT : Hid ((s.extract 0 n ++ sx ++ s.extract (n + 1) 64).size ≤ 9223372036854775807) := by show _ ≤ _; rw [ByteArray.size_append, ByteArray.size_append, ByteArray.size_extract, ByteArray.size_extract, hsx]; omega
  go_region
  all_goals
    have W5 : Below w.heap.size w (w3.alloc (.cells #[.int .u8 x] 5)).drew := (bw3.alloc (by have := bw3.size; omega) _).drew
    have C5 : Blk (w3.alloc (.cells #[.int .u8 x] 5)).drew w.heap.size A := CH.out.alloc _
    clear hconv hc1 hc2 hx0 hx1 hxc HX hat hcc hsx bw1 bw2 bw3 CH
    generalize (w3.alloc (.cells #[.int .u8 x] 5)).drew = w5 at *
    generalize s.extract 0 n ++ sx ++ s.extract (n + 1) 64 = t at *
    by_cases hts : t = s
    · subst hts
      have hq1 : (t.toList == t.toList) = true := by simp
      go_wp2_with fail
      refine (H8.out _).mono ?_
      rintro e w6 ⟨rfl, hb6⟩
      have W6 := W5.trans (hb6.mono W5.size)
      have C6 := C5.below hb6
      have G0 : Blk (w6.alloc (.cells zc 24)) w6.heap.size zc := Blk.new w6 zc
      obtain ⟨w7, hst, G1, hb7, hf7⟩ := G0.store zc_size A hA hA1
      have C7 : Blk w7 w.heap.size A := (hf7 _ (by have := C6.lt; omega)).trans (C6.alloc _)
      have W7 := W6.trans (((((Below.refl _ _).alloc (Nat.le_refl _) _)).trans (hb7 _ (Nat.le_refl _))).mono W6.size)
      have hld1 := C7.load hA
      have hld2 := G1.load hA
      have he : (Op.equalIn 10000 24 (.agg A) (.agg A)).run Try.prog w7 = .ok true w7 := HQ.out w7
      go_wp2_with fail
      go_ret
      exact ⟨rfl, W7⟩
    · have hq1 : (t.toList == s.toList) = false := list_ne hts
      have hut := fun w => unhex_any t HT.out w
      cases hok : okB t with
      | false =>
        rw [bad_end hok] at hut
        have HU := Lib.hid hut
        clear hut
        go_wp2_with fail
        refine (HU.out _).mono ?_
        rintro e w6 ⟨rfl, hb6⟩
        have W6 := W5.trans (hb6.mono W5.size)
        have C6 := C5.below hb6
        have G0 : Blk (w6.alloc (.cells zc 24)) w6.heap.size zc := Blk.new w6 zc
        obtain ⟨w7, hst, G1, hb7, hf7⟩ := G0.store zc_size zc zc_size zc_one
        have W7 := W6.trans (((((Below.refl _ _).alloc (Nat.le_refl _) _)).trans (hb7 _ (Nat.le_refl _))).mono W6.size)
        have hld2 := G1.load zc_size
        have he := eqz w7
        go_wp2_with fail
        go_ret
        exact ⟨rfl, W7⟩
      | true =>
        have hne : unhexR t ≠ D := fun h => hts (HBACK.out t hok h)
        have hsi : (nums .u8 (unhexR t)).toArray.size = 32 := by simp [nums, unhexR_length]
        have hso := nums_one (unhexR t)
        have hby : ∀ i, 0 ≤ (unhexR t).getD i 0 ∧ (unhexR t).getD i 0 ≤ 255 := by
          unfold unhexR
          rw [if_pos hok]
          exact acc_byte hok
        have hhx := fun w => hex_any (unhexR t) (unhexR_length t) hby w
        rw [hex_unhex hok] at hhx
        have hqq := fun w => equal24 (unhexR t) D (unhexR_length t) hl w
        rw [decide_eq_false hne] at hqq
        unfold errR at hut
        rw [if_pos hok] at hut
        unfold digestV at hut hhx hqq
        rw [HAD.out] at hqq
        generalize (nums .u8 (unhexR t)).toArray = E at *
        have HU := Lib.hid hut
        have HHX := Lib.hid hhx
        have HQQ := Lib.hid hqq
        clear hut hhx hqq hne hby
        go_wp2_with fail
        refine (HU.out _).mono ?_
        rintro e w6 ⟨rfl, hb6⟩
        have W6 := W5.trans (hb6.mono W5.size)
        have C6 := C5.below hb6
        have G0 : Blk (w6.alloc (.cells zc 24)) w6.heap.size zc := Blk.new w6 zc
        obtain ⟨w7, hst, G1, hb7, hf7⟩ := G0.store zc_size E hsi hso
        have C7 : Blk w7 w.heap.size A := (hf7 _ (by have := C6.lt; omega)).trans (C6.alloc _)
        have W7 := W6.trans (((((Below.refl _ _).alloc (Nat.le_refl _) _)).trans (hb7 _ (Nat.le_refl _))).mono W6.size)
        have hld1 := C7.load hA
        have hld2 := G1.load hsi
        have he : (Op.equalIn 10000 24 (.agg E) (.agg A)).run Try.prog w7 = .ok false w7 := HQQ.out w7
        have hq2 : (t.toList == t.toList) = true := by simp
        go_wp2_with fail
        refine (HHX.out _).mono ?_
        rintro e w8 ⟨rfl, hb8⟩
        have W8 := W7.trans (hb8.mono W7.size)
        go_wp2_with fail
        go_ret
        exact ⟨rfl, W8⟩

/-- The argument [32]byte, opened. -/
theorem digest_arg {H : Type} {enc : TypeId × Value → H} {W : World} {base b0 : Nat} {sp : Nat → Bool} {held : Bool} {v : Value} {d : DataW H} {ps : List MemPlace} (hv : Value.okWide Try.prog W .any b0 24 v)
    (h : DataW.Trod enc Try.prog W base sp held 24 v d ps) : ∃ D : List Int, v = .agg (nums .u8 D).toArray ∧ D.length = 32 ∧ ∀ i, 0 ≤ D.getD i 0 ∧ D.getD i 0 ≤ 255 := by
  unfold Value.okWide at hv
  rw [Try.underlying24] at hv
  obtain ⟨cs, rfl, _, _⟩ := hv
  obtain ⟨fuel, hf⟩ := h
  obtain ⟨L, hL, hcs, hb⟩ := digest_of_trod hf
  refine ⟨L, ?_, hL, hb⟩
  have : cs.toList = nums .u8 L := by simpa [Value.cells] using hcs
  rw [← this]

theorem walk {w : World} (D : List Int) (hl : D.length = 32) (hb : ∀ i, 0 ≤ D.getD i 0 ∧ D.getD i 0 ≤ 255) (x : Int) (hx : (Lit.int .i64 x).wf = true) (y : Int) (hy : (Lit.int .i64 y).wf = true) :
    Calls Try.prog 5 #[.agg (nums .u8 D).toArray, .int .i64 x, .int .i64 y] w fun e w' => e = .returned (.bool true) ∧ Below w.heap.size w w' :=
  good D hl hb x y (bounds_i64 hx) (bounds_i64 hy) w
end Go.Proofs.Ytikoahjnhdnhdaa.hashBack
