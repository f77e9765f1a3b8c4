/- THE WALK of 'scruplelaw02.HashUnhexes': it returns true for every list of texts. -/
import Derived.Test.YtikoahjnhdnhdaaUnhexRef
import Derived.ChangeKeysEq
import Derived.Test.YtikoahjnhdnhdaaOpen
namespace Go.Proofs.Ytikoahjnhdnhdaa.hashUnhexes
open Go.Proofs.Ytikoahjnhdnhdaa
open Go.ChangeShapes Go.WideShapes Go.ChangeAt Go.RowKit Go.Proofs.YtikoahjnhdnhdaaW.PrintWords Go.Deep
set_option linter.unusedVariables false

theorem unhex_any (s : ByteArray) (hm : s.size ≤ 9223372036854775807) (w : World) :
    Calls Try.prog 8 #[.string s] w fun e w' => e = .returned (.tuple #[digestV (unhexR s), .int .i64 (errR s)]) ∧ Below w.heap.size w w' := by
  by_cases h : s.size = 64
  · exact unhex_full s h w
  · rw [bad_end (okB_size h)]
    exact unhex_short s h hm w
theorem runhex_any (s : ByteArray) (hm : s.size ≤ 9223372036854775807) (w : World) :
    Calls Try.prog 9 #[.string s] w fun e w' => e = .returned (.tuple #[digestV (unhexR s), .int .i64 (errR s)]) ∧ Below w.heap.size w w' := by
  by_cases h : s.size = 64
  · exact runhex_full s h w
  · rw [bad_end (okB_size h)]
    exact runhex_short s h hm w

theorem unhexR_length (s : ByteArray) : (unhexR s).length = 32 := by
  unfold unhexR
  split
  · exact accL_length s 32
  · simp [zeros]
theorem part5 (L : List Int) (i : Nat) (hi : i < L.length) (w : World) : (part 5 (nums .u8 L).toArray i).run Try.prog w = .ok (.int .u8 (L.getD i 0)) w := by
  obtain ⟨j, hj, hs⟩ := Option.map_eq_some_iff.1 size5
  simp [part, Sem.run_bind, sizeOf, typeInfo, hj, hs, nums, hi, List.getD_eq_getElem?_getD]
theorem items (A B : List Int) (hA : A.length = 32) (hB : B.length = 32) (d : Nat) (w : World) (is : List Nat) (his : ∀ i ∈ is, i < 32) :
    (Op.eqItems (d + 1) 5 1 (nums .u8 A).toArray (nums .u8 B).toArray is).run Try.prog w = .ok (is.all fun i => A.getD i 0 == B.getD i 0) w := by
  induction is with
  | nil => simp [Op.eqItems]
  | cons i is ih =>
    have h1 := ih (fun j hj => his j (List.mem_cons_of_mem _ hj))
    have hi : i < 32 := his i List.mem_cons_self
    simp only [Op.eqItems, Sem.run_bind, Nat.mul_one, part5 A i (by omega), part5 B i (by omega), Result.andThen_ok, List.all_cons]
    have he : (Op.equalIn (d + 1) 5 (.int .u8 (A.getD i 0)) (.int .u8 (B.getD i 0))).run Try.prog w = .ok (A.getD i 0 == B.getD i 0) w := by
      simp [Op.equalIn, Sem.run_bind, run_underlying Try.underlying5]
    rw [he]
    cases hq : (A.getD i 0 == B.getD i 0)
    · simp
    · simpa using h1
theorem all_same (A B : List Int) (hA : A.length = 32) (hB : B.length = 32) : ((List.range 32).all fun i => A.getD i 0 == B.getD i 0) = decide (A = B) := by
  rw [Bool.eq_iff_iff]
  simp only [List.all_eq_true, List.mem_range, beq_iff_eq, decide_eq_true_eq]
  constructor
  · intro h
    apply List.ext_getElem (by omega)
    intro i h1 h2
    have := h i (by omega)
    rw [List.getD_eq_getElem?_getD, List.getD_eq_getElem?_getD, List.getElem?_eq_getElem h1, List.getElem?_eq_getElem h2] at this
    simpa using this
  · rintro rfl
    simp
theorem equal24 (A B : List Int) (hA : A.length = 32) (hB : B.length = 32) (w : World) : (Op.equal 24 (digestV A) (digestV B)).run Try.prog w = .ok (decide (A = B)) w := by
  unfold digestV
  obtain ⟨i, hi, hs⟩ := Option.map_eq_some_iff.1 info5
  have h := run_equalIn_array (P := Try.prog) (w := w) 9999 (nums .u8 A).toArray (nums .u8 B).toArray Try.underlying24 hi
  rw [cells5, items A B hA hB 9998 w _ (by simp), all_same A B hA hB] at h
  exact h
theorem eq24_same {A : List Int} (hA : A.length = 32) (w : World) : (Op.equal 24 (digestV A) (digestV A)).run Try.prog w = .ok true w := by
  rw [equal24 A A hA hA]
  simp

theorem eqz (w : World) : (Op.equalIn 10000 24 (.agg zc) (.agg #[.int .u8 0, .int .u8 0, .int .u8 0, .int .u8 0, .int .u8 0, .int .u8 0, .int .u8 0, .int .u8 0, .int .u8 0, .int .u8 0, .int .u8 0, .int .u8 0, .int .u8 0, .int .u8 0, .int .u8 0, .int .u8 0, .int .u8 0, .int .u8 0, .int .u8 0, .int .u8 0, .int .u8 0, .int .u8 0, .int .u8 0, .int .u8 0, .int .u8 0, .int .u8 0, .int .u8 0, .int .u8 0, .int .u8 0, .int .u8 0, .int .u8 0, .int .u8 0])).run Try.prog w = .ok true w := by
  rw [← zc_lit]
  have := eq24_same (A := List.replicate 32 0) (by simp) w
  rw [← zc_digest] at this
  exact this

attribute [local go_sem ↓] loadAt_24 storeAt_24 alloc_24 build_24
attribute [local go_sem] run_alloc24 run_build24
set_option maxHeartbeats 1000000 in
theorem good (a : Option Addr) (len cap b off : Nat) (ss : List ByteArray) (w : World) (h : At1 w a len b off (fun i => .string (ss.getD i ByteArray.empty))) (hz : ∀ s ∈ ss, s.size ≤ maxLen) (hm : len ≤ 140737488351232) :
    Calls Try.prog 4 #[.slice a len cap] w fun e w' => e = .returned (.bool true) ∧ Below w.heap.size w w' := by
  have H := Lib.hid h
  clear h
  go_enter Try.func4, Try.ntmps4
  go_wp2
  go_loopw [3] (fun i wr => ∃ k : Nat, k ≤ len ∧ i = .int .i64 k ∧ Below w.heap.size w wr) (fun i _ => len - (intOf i).toNat)
  case atStart => exact ⟨0, by omega, rfl, Below.refl _ _⟩
  case round =>
    obtain ⟨k, hk, rfl, hB⟩ := hrel
    by_cases hlt : k < len
    · obtain ⟨ha, hbw⟩ := H.out.1 (by omega)
      subst ha
      have hbs := hB.size
      have hc := (hB.cell (p := ⟨b, off + k, none⟩) hbw).trans (H.out.2 k hlt)
      have hs : (ss.getD k ByteArray.empty).size ≤ 9223372036854775807 := by
        rw [List.getD_eq_getElem?_getD]
        cases e : ss[k]? with
        | none => exact (show (0 : Nat) ≤ 9223372036854775807 by omega)
        | some v => exact Nat.le_trans (hz v (List.mem_of_getElem? e)) (by simp [maxLen])
      simp only at hc
      generalize ss.getD k ByteArray.empty = s at *
      have H8 := Lib.hid (unhex_any s hs)
      have H9 := Lib.hid (runhex_any s hs)
      have HE := Lib.hid (eq24_same (unhexR_length s))
      have HA : Hid ((nums .u8 (unhexR s)).toArray.size = 32) := by show _ = _; simp [nums, unhexR_length]
      have HA1 := Lib.hid (nums_one (unhexR s))
      unfold digestV at H8 H9 HE
      generalize errR s = er at *
      generalize (nums .u8 (unhexR s)).toArray = A at *
      clear H
      go_wp2_with fail
      refine (H8.out _).mono ?_
      rintro e w1 ⟨rfl, hb1⟩
      have hc1 := (hb1.cell (p := ⟨b, off + k, none⟩) (show b < wr.heap.size by omega)).trans hc
      have B0 : Blk (w1.alloc (.cells zc 24)) w1.heap.size zc := Blk.new w1 zc
      obtain ⟨w2, hst, B1, hb2, _⟩ := B0.store zc_size A HA.out HA1.out
      have hB2 : Below w1.heap.size w1 w2 := (((Below.refl _ _).alloc (Nat.le_refl _) _)).trans (hb2 _ (Nat.le_refl _))
      have hc2 := (hB2.cell (p := ⟨b, off + k, none⟩) (show b < w1.heap.size by have := hb1.size; omega)).trans hc1
      go_wp2_with fail
      refine (H9.out _).mono ?_
      rintro e w3 ⟨rfl, hb3⟩
      have B2 := B1.below hb3
      have B3 : Blk (w3.alloc (.cells zc 24)) w3.heap.size zc := Blk.new w3 zc
      obtain ⟨w4, hst4, B4, hb4, hf4⟩ := B3.store zc_size A HA.out HA1.out
      have B5 : Blk w4 w1.heap.size A := (hf4 _ (by have := hb3.size; have := hB2.size; have := B1.lt; omega)).trans (B2.alloc _)
      have hld4 := B4.load HA.out
      have hld5 := B5.load HA.out
      have he : (Op.equalIn 10000 24 (.agg A) (.agg A)).run Try.prog w4 = .ok true w4 := HE.out w4
      go_wp2_with fail
      have hB4 : Below w.heap.size w w4 := (((hB.trans (hb1.mono hbs)).trans (hB2.mono (Nat.le_trans hbs hb1.size))).trans (hb3.mono (Nat.le_trans hbs (Nat.le_trans hb1.size hB2.size)))).trans ((((Below.refl _ _).alloc (Nat.le_refl _) _).trans (hb4 _ (Nat.le_refl _))).mono (Nat.le_trans hbs (Nat.le_trans hb1.size (Nat.le_trans hB2.size hb3.size))))
      clear HE HA HA1 H8 H9 hb1 hb2 hb3 hb4 B0 B1 B2 B3 B4 B5 hf4 hst hst4 hld4 hld5 he hc hc1 hc2 hB2
      go_wp2
      go_roundw
      case rel => exact ⟨k + 1, by omega, by go_num, hB4⟩
      case measure => simp [intOf]; omega
    · clear H
      have h0 := fun w => unhex_short ByteArray.empty (by decide) (by decide) w
      have H8 := Lib.hid h0
      clear h0
      go_wp2_with fail
      refine (H8.out _).mono ?_
      rintro e w1 ⟨rfl, hb1⟩
      have B0 : Blk (w1.alloc (.cells zc 24)) w1.heap.size zc := Blk.new w1 zc
      obtain ⟨w2, hst, B1, hb2, _⟩ := B0.store zc_size zc zc_size zc_one
      have hld := B1.load zc_size
      have he := eqz w2
      have hB2 := (hB.trans (hb1.mono hB.size)).trans ((((Below.refl _ _).alloc (Nat.le_refl _) _).trans (hb2 _ (Nat.le_refl _))).mono (Nat.le_trans hB.size hb1.size))
      go_wp2_with fail
      go_ret
      exact ⟨rfl, hB2⟩

theorem walk {w : World} (a : Option Addr) (len cap b off : Nat) (ss : List ByteArray) (h : At1 w a len b off (fun i => .string (ss.getD i ByteArray.empty))) (hz : ∀ s ∈ ss, s.size ≤ maxLen) (y : len * 16 ≤ 140737488351232) :
    Calls Try.prog 4 #[.slice a len cap] w fun e w' => e = .returned (.bool true) ∧ Below w.heap.size w w' := good a len cap b off ss w h hz (by omega)
end Go.Proofs.Ytikoahjnhdnhdaa.hashUnhexes
