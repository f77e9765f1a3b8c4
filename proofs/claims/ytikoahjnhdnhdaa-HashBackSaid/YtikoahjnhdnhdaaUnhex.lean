/- CONTRACT of hash.Unhex: what it answers of every text. No condition but that the text takes at most 2^47 bytes. -/
import Derived.Test.YtikoahjnhdnhdaaDigit
import Derived.Laws.ResultCell
namespace Go.Proofs.Ytikoahjnhdnhdaa
open Go.ChangeShapes Go.WideShapes Go.ChangeAt Go.RowKit Go.Proofs.YtikoahjnhdnhdaaW.PrintWords Go.Deep
set_option linter.unusedVariables false

theorem index_str (s : ByteArray) (i : Int) (h0 : 0 ≤ i) (h1 : i < s.size) (w : World) : (Instr.index 9 (.string s) (.int .i64 i)).run Try.prog w = .ok (.int .u8 (bt s i)) w := by
  simp [Instr.index, run_underlying Try.underlying9, asIntOf, Sem.run_bind, h0, bt, show i.toNat < s.size by omega]

/-- The i-th pair of digits; what it says. -/
def pairD (s : ByteArray) (i : Nat) : Bool := isD (bt s (2 * (i : Int))) && isD (bt s (2 * (i : Int) + 1))
def pairV (s : ByteArray) (i : Nat) : Int := 16 * dv (bt s (2 * (i : Int))) + dv (bt s (2 * (i : Int) + 1))
/-- The digest, of which the first k bytes are read. -/
def accL (s : ByteArray) (k : Nat) : List Int := (List.range 32).map fun i => if i < k then pairV s i else 0
def okB (s : ByteArray) : Bool := decide (s.size = 64) && (List.range 32).all fun i => pairD s i
def zeros : List Int := List.replicate 32 0
def unhexR (s : ByteArray) : List Int := if okB s = true then accL s 32 else zeros
def errR (s : ByteArray) : Int := if okB s = true then 0 else 20

theorem accL_zero (s : ByteArray) : accL s 0 = zeros := by
  unfold accL zeros
  simp [List.map_const']
theorem accL_length (s : ByteArray) (k : Nat) : (accL s k).length = 32 := by simp [accL]
theorem accL_succ (s : ByteArray) (k : Nat) (hk : k < 32) : (accL s k).set k (pairV s k) = accL s (k + 1) := by
  apply List.ext_getElem?
  intro i
  rw [List.getElem?_set]
  unfold accL
  by_cases h : k = i
  · subst h
    simp [hk]
  · simp only [if_neg h, List.getElem?_map]
    by_cases hi : i < 32
    · rw [List.getElem?_range hi]
      simp only [Option.map_some]
      have : (i < k) ↔ (i < k + 1) := by omega
      simp [this]
    · rw [List.getElem?_eq_none (by simp; omega)]
      rfl
theorem okB_size {s : ByteArray} (h : s.size ≠ 64) : okB s = false := by simp [okB, h]
theorem okB_yes {s : ByteArray} (h : s.size = 64) (h1 : ∀ j, j < 32 → pairD s j = true) : okB s = true := by
  simp only [okB, h, decide_true, Bool.true_and, List.all_eq_true, List.mem_range]
  exact h1
theorem okB_no {s : ByteArray} {k : Nat} (hk : k < 32) (h1 : pairD s k = false) : okB s = false := by
  cases h : okB s with
  | false => rfl
  | true =>
    simp only [okB, Bool.and_eq_true, List.all_eq_true, List.mem_range] at h
    rw [h.2 k hk] at h1
    cases h1
theorem or_all : ∀ a : Nat, a < 16 → ∀ b : Nat, b < 16 → bits .or .u8 (16 * (a : Int)) (b : Int) = 16 * (a : Int) + (b : Int) := by decide +kernel
theorem or_hex {a b : Int} (h0 : 0 ≤ a) (h1 : a ≤ 15) (h2 : 0 ≤ b) (h3 : b ≤ 15) : bits .or .u8 (a * 16) b = 16 * a + b := by
  rw [Int.mul_comm]
  obtain ⟨n, rfl⟩ := Int.eq_ofNat_of_zero_le h0
  obtain ⟨m, rfl⟩ := Int.eq_ofNat_of_zero_le h2
  exact or_all n (by omega) m (by omega)

/-- What both results are, at the end: the digest in its cells, and the error. -/
theorem results8 {tmps : Array Value} {w : World} {b : Nat} {C : Array Value} {er : Int} (h2 : tmps.getD 2 undef = .pointer (some ⟨b, 0, none⟩)) (h3 : tmps.getD 3 undef = .int .i64 er) (hB : Blk w b C) (hC : C.size = 32) (fn : Func) (hr : fn.results = #[.cell 2 24, .tmp 3]) :
    (results fn tmps).run Try.prog w = .ok (.tuple #[.agg C, .int .i64 er]) w := by
  rw [results_cell_tmp hr, h2, h3]
  simp [asAddr, Blk.var hB hC]

theorem digit_each (c : Int) (w : World) (h0 : 0 ≤ c) (h1 : c ≤ 255) {b : Bool} (h : isD c = b) : Calls Try.prog 11 #[.int .u8 c] w fun e w' => e = .returned (.tuple #[.int .u8 (bif b then dv c else 0), .bool b]) ∧ w = w' := by
  cases b with
  | true => exact digit_yes c w h
  | false => exact digit_no c w h0 h1 h
theorem bad_end {s : ByteArray} (h : okB s = false) : Value.tuple #[digestV (unhexR s), .int .i64 (errR s)] = .tuple #[.agg zc, .int .i64 20] := by
  unfold unhexR errR digestV zc
  rw [h]
  rfl
theorem good_end {s : ByteArray} (h : okB s = true) : Value.tuple #[digestV (unhexR s), .int .i64 (errR s)] = .tuple #[.agg (nums .u8 (accL s 32)).toArray, .int .i64 0] := by
  unfold unhexR errR digestV
  rw [h]
  rfl
theorem zc_lit : zc = #[.int .u8 0, .int .u8 0, .int .u8 0, .int .u8 0, .int .u8 0, .int .u8 0, .int .u8 0, .int .u8 0, .int .u8 0, .int .u8 0, .int .u8 0, .int .u8 0, .int .u8 0, .int .u8 0, .int .u8 0, .int .u8 0, .int .u8 0, .int .u8 0, .int .u8 0, .int .u8 0, .int .u8 0, .int .u8 0, .int .u8 0, .int .u8 0, .int .u8 0, .int .u8 0, .int .u8 0, .int .u8 0, .int .u8 0, .int .u8 0, .int .u8 0, .int .u8 0] := by kernel_rfl
theorem set_nums (L : List Int) (k : Nat) (c : Int) : (nums .u8 L).toArray.setIfInBounds k (.int .u8 c) = (nums .u8 (L.set k c)).toArray := by
  simp [nums, List.map_set]

attribute [local go_sem ↓] loadAt_24 storeAt_24 alloc_24 build_24
attribute [local go_sem] run_alloc24 run_build24

theorem unhex_short (s : ByteArray) (h : s.size ≠ 64) (hm : s.size ≤ 9223372036854775807) (w : World) :
    Calls Try.prog 8 #[.string s] w fun e w' => e = .returned (.tuple #[.agg zc, .int .i64 20]) ∧ Below w.heap.size w w' := by
  have hs : ((s.size : Int) == 64) = false := by rw [beq_eq_false_iff_ne]; omega
  have B0 : Blk ((w.alloc (.cells zc 24)).alloc (.cells zc 24)) w.heap.size zc := (Blk.new w zc).alloc _
  have B1 : Blk ((w.alloc (.cells zc 24)).alloc (.cells zc 24)) (w.heap.size + 1) zc := by simpa using Blk.new (w.alloc (.cells zc 24)) zc
  have hld := B1.load zc_size
  obtain ⟨w1, hst, B2, hb, _⟩ := B0.store zc_size zc zc_size zc_one
  have hbw : Below w.heap.size w w1 := (((Below.refl _ _).alloc (Nat.le_refl _) _).alloc (by simp) _).trans (hb _ (Nat.le_refl _))
  have HB2 := Lib.hid B2
  clear B0 B1 hb B2
  go_enter Try.func8, Try.ntmps8
  go_wp2
  exact bodyPost_ret (v := .tuple #[.agg zc, .int .i64 20]) (results8 rfl rfl HB2.out zc_size _ Try.results8) rfl ⟨rfl, hbw⟩

set_option maxHeartbeats 1000000 in
theorem unhex_full (s : ByteArray) (h : s.size = 64) (w : World) :
    Calls Try.prog 8 #[.string s] w fun e w' => e = .returned (.tuple #[digestV (unhexR s), .int .i64 (errR s)]) ∧ Below w.heap.size w w' := by
  have hs : ((s.size : Int) == 64) = true := by rw [beq_iff_eq]; omega
  have hs2 : ((s.size : Int) != 64) = false := by simp [bne, hs]
  have HS := Lib.hid h
  have hss : s.size ≤ 64 := by omega
  have hss' : 64 ≤ s.size := by omega
  clear h
  have B0 : Blk ((w.alloc (.cells zc 24)).alloc (.cells zc 24)) w.heap.size zc := (Blk.new w zc).alloc _
  have B1 : Blk ((w.alloc (.cells zc 24)).alloc (.cells zc 24)) (w.heap.size + 1) zc := by simpa using Blk.new (w.alloc (.cells zc 24)) zc
  have HB0 := Lib.hid B0
  have HB1 := Lib.hid B1
  clear B0 B1
  go_enter Try.func8, Try.ntmps8
  go_wp2
  go_loopw [14] (fun i wr => ∃ k : Nat, k ≤ 32 ∧ i = .int .i64 k ∧ Hid (∀ j, j < k → pairD s j = true) ∧ Hid (Blk wr w.heap.size zc) ∧ Hid (Blk wr (w.heap.size + 1) (nums .u8 (accL s k)).toArray) ∧ Below w.heap.size w wr) (fun i _ => 32 - (intOf i).toNat)
  case atStart =>
    refine ⟨0, by omega, rfl, fun j h => absurd h (by omega), HB0, ?_, ((Below.refl _ _).alloc (Nat.le_refl _) _).alloc (by simp) _⟩
    show Blk _ _ _
    rw [accL_zero]
    have e : (nums .u8 zeros).toArray = zc := by unfold zc; rfl
    rw [e]
    exact HB1.out
  case round =>
    clear HB0 HB1
    obtain ⟨k, hk, rfl, HD, HB0, HB1, hB⟩ := hrel
    by_cases hlt : k < 32
    · have hx1 := index_str s (2 * (k : Int)) (by omega) (by omega)
      have hx2 := index_str s (2 * (k : Int) + 1) (by omega) (by omega)
      have r1 := bt_range s (2 * (k : Int))
      have r2 := bt_range s (2 * (k : Int) + 1)
      cases hp : pairD s k with
      | true =>
        have hpp := hp
        unfold pairD at hpp
        rw [Bool.and_eq_true] at hpp
        obtain ⟨p1, p2⟩ := hpp
        have v1 := dv_bounds p1
        have v2 := dv_bounds p2
        have hor := or_hex v1.1 v1.2 v2.1 v2.2
        rw [show 16 * dv (bt s (2 * (k : Int))) + dv (bt s (2 * (k : Int) + 1)) = pairV s k from rfl] at hor
        have hpv : Hid (16 * dv (bt s (2 * (k : Int))) + dv (bt s (2 * (k : Int) + 1)) = pairV s k) := rfl
        have P1 := Lib.hid p1
        have P2 := Lib.hid p2
        have HP := Lib.hid hp
        clear p1 p2 hp
        have c1 : wr.cell? ⟨w.heap.size + 1, k, none⟩ = some (.int .u8 ((accL s k).getD k 0)) := by
          rw [HB1.out.cell]
          simp [nums, accL_length, hlt, List.getD_eq_getElem?_getD]
        have f1 : wr.frozen? ⟨w.heap.size + 1, k, none⟩ = false := HB1.out.frozen k
        go_wp2_with (go_at_call 11; refine (digit_yes _ _ (by first | exact P1.out | exact P2.out)).mono ?_; rintro e w' ⟨rfl, rfl⟩)
        go_roundw
        case rel =>
          have HN : Hid (∀ j, j < k + 1 → pairD s j = true) := by
            intro j hj
            by_cases h : j = k
            · subst h; exact HP.out
            · exact HD.out j (by omega)
          have HC : Hid (Blk (wr.setCell ⟨w.heap.size + 1, k, none⟩ (.int .u8 (pairV s k))) (w.heap.size + 1) (nums .u8 (accL s (k + 1))).toArray) := by
            have := HB1.out.set k (.int .u8 (pairV s k))
            rw [set_nums, accL_succ s k hlt] at this
            exact this
          have HZ : Hid (Blk (wr.setCell ⟨w.heap.size + 1, k, none⟩ (.int .u8 (pairV s k))) w.heap.size zc) := HB0.out.far (by simp) _
          have HW : Below w.heap.size w (wr.setCell ⟨w.heap.size + 1, k, none⟩ (.int .u8 (pairV s k))) := hB.setCell (by simp) _
          first
          | exact ⟨k + 1, by omega, by go_num, HN, HZ, HC, HW⟩
          | ((repeat apply Exists.intro); exact ⟨⟨k + 1, by omega, by go_num, HN, HZ, HC, HW⟩, rfl⟩)
        case measure => simp [intOf]; omega
      | false =>
        have hpp := hp
        unfold pairD at hpp
        rw [Bool.and_eq_false_iff] at hpp
        have HE : Hid (okB s = false) := okB_no (by omega) hp
        clear hp
        obtain ⟨w2, hst, B2, hb2, _⟩ := HB0.out.store zc_size zc zc_size zc_one
        have hbw : Below w.heap.size w w2 := hB.trans (hb2 _ (Nat.le_refl _))
        have HB2 := Lib.hid B2
        have HBW := Lib.hid hbw
        have HZ : Hid (zc = zc) := rfl
        have hst' := hst
        rw [show Value.agg zc = Value.agg #[.int .u8 0, .int .u8 0, .int .u8 0, .int .u8 0, .int .u8 0, .int .u8 0, .int .u8 0, .int .u8 0, .int .u8 0, .int .u8 0, .int .u8 0, .int .u8 0, .int .u8 0, .int .u8 0, .int .u8 0, .int .u8 0, .int .u8 0, .int .u8 0, .int .u8 0, .int .u8 0, .int .u8 0, .int .u8 0, .int .u8 0, .int .u8 0, .int .u8 0, .int .u8 0, .int .u8 0, .int .u8 0, .int .u8 0, .int .u8 0, .int .u8 0, .int .u8 0] from congrArg _ zc_lit] at hst'
        clear hst
        clear B2 hb2 hbw HB0 HB1
        cases h1 : isD (bt s (2 * (k : Int))) with
        | false =>
          have P1 := Lib.hid h1
          clear h1 hpp
          cases h2 : isD (bt s (2 * (k : Int) + 1)) with
          | false =>
            have P2 := Lib.hid h2
            clear h2
            go_wp2_with (go_at_call 11; refine (digit_each _ _ (by omega) (by omega) (by first | exact P1.out | exact P2.out)).mono ?_; rintro e w' ⟨rfl, rfl⟩)
            exact bodyPost_ret (v := .tuple #[.agg zc, .int .i64 20]) (results8 rfl rfl HB2.out zc_size _ Try.results8) rfl ⟨by rw [bad_end HE.out], HBW.out⟩
          | true =>
            have P2 := Lib.hid h2
            clear h2
            go_wp2_with (go_at_call 11; refine (digit_each _ _ (by omega) (by omega) (by first | exact P1.out | exact P2.out)).mono ?_; rintro e w' ⟨rfl, rfl⟩)
            exact bodyPost_ret (v := .tuple #[.agg zc, .int .i64 20]) (results8 rfl rfl HB2.out zc_size _ Try.results8) rfl ⟨by rw [bad_end HE.out], HBW.out⟩
        | true =>
          have h2 : isD (bt s (2 * (k : Int) + 1)) = false := by simpa [h1] using hpp
          have P1 := Lib.hid h1
          have P2 := Lib.hid h2
          clear h1 h2 hpp
          go_wp2_with (go_at_call 11; refine (digit_each _ _ (by omega) (by omega) (by first | exact P1.out | exact P2.out)).mono ?_; rintro e w' ⟨rfl, rfl⟩)
          exact bodyPost_ret (v := .tuple #[.agg zc, .int .i64 20]) (results8 rfl rfl HB2.out zc_size _ Try.results8) rfl ⟨by rw [bad_end HE.out], HBW.out⟩
    · have hkk : k = 32 := by omega
      subst hkk
      have HE : Hid (okB s = true) := okB_yes HS.out HD.out
      have hld := HB1.out.load (by simp [nums, accL_length])
      obtain ⟨w2, hst, B2, hb2, _⟩ := HB0.out.store zc_size (nums .u8 (accL s 32)).toArray (by simp [nums, accL_length]) (nums_one _)
      have hbw : Below w.heap.size w w2 := hB.trans (hb2 _ (Nat.le_refl _))
      have HB2 := Lib.hid B2
      have HBW := Lib.hid hbw
      clear B2 hb2 hbw HB0 HB1
      go_wp2
      exact bodyPost_ret (v := .tuple #[.agg (nums .u8 (accL s 32)).toArray, .int .i64 0]) (results8 rfl rfl HB2.out (by simp [nums, accL_length]) _ Try.results8) rfl ⟨by rw [good_end HE.out], HBW.out⟩
end Go.Proofs.Ytikoahjnhdnhdaa
