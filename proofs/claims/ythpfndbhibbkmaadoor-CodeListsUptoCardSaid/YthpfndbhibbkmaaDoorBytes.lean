/- CONTRACTS of code.put, all cases in one, and of code.Bytes: the instructions' bytes, or the first error. -/
import Derived.Test.YthpfndbhibbkmaaDoorPutRef
import Derived.Handy
namespace Go.Proofs.YthpfndbhibbkmaaDoor
open Go.ChangeShapes Go.WideShapes Go.ChangeAt Go.RowKit Go.Proofs.YthpfndbhibbkmaaDoorW.PrintWords
set_option linter.unusedVariables false
set_option linter.unusedSimpArgs false

/-- A slice of instructions that reads as L. -/
def RdIns (w : World) (a : Option Addr) (n : Nat) (L : Nat → Int × Int) : Prop :=
  0 < n → ∃ b o, a = some ⟨b, o, none⟩ ∧ b < w.heap.size ∧ ∀ i, i < n → w.cell? ⟨b, o + i * 2, none⟩ = some (.int .i64 (L i).1) ∧ w.cell? ⟨b, o + i * 2 + 1, none⟩ = some (.int .i64 (L i).2)
theorem RdIns.below {w w1 : World} {a : Option Addr} {n : Nat} {L : Nat → Int × Int} (h : RdIns w a n L) (hb : Below w.heap.size w w1) : RdIns w1 a n L := fun hp => by
  obtain ⟨b, o, ha, hlt, hc⟩ := h hp
  exact ⟨b, o, ha, Nat.lt_of_lt_of_le hlt hb.size, fun i hi => ⟨(hb.cell (p := ⟨b, o + i * 2, none⟩) hlt).trans (hc i hi).1, (hb.cell (p := ⟨b, o + i * 2 + 1, none⟩) hlt).trans (hc i hi).2⟩⟩
theorem InsIn.rd {w : World} {a : Option Addr} {len cap b off : Nat} {L : Nat → Int × Int} (h : InsIn w a len cap b off L) : RdIns w a len L := fun hp => ⟨b, off, (h.place hp).1, (h.place hp).2, fun i hi => ⟨h.op i hi, h.arg i hi⟩⟩

/-- The bytes of the first k instructions; may all of them be laid?; what Bytes answers. -/
def encTo (L : Nat → Int × Int) (k : Nat) : List Int := (List.range k).flatMap fun j => encB (L j).1.toNat (L j).2
def allOk (L : Nat → Int × Int) (k : Nat) : Bool := (List.range k).all fun j => putOk (L j).1 (L j).2
def firstE (L : Nat → Int × Int) (n : Nat) : Int := match (List.range n).find? fun j => !putOk (L j).1 (L j).2 with
  | some j => putE (L j).1 (L j).2
  | none => 0
def bytesL (L : Nat → Int × Int) (n : Nat) : List Int := if allOk L n = true then encTo L n else []

theorem encTo_succ (L : Nat → Int × Int) (k : Nat) : encTo L (k + 1) = encTo L k ++ encB (L k).1.toNat (L k).2 := by
  unfold encTo
  rw [List.range_succ, List.flatMap_append]
  simp
theorem allOk_succ (L : Nat → Int × Int) (k : Nat) : allOk L (k + 1) = (allOk L k && putOk (L k).1 (L k).2) := by
  unfold allOk
  rw [List.range_succ, List.all_append]
  simp
theorem allOk_iff {L : Nat → Int × Int} {k : Nat} : allOk L k = true ↔ ∀ j, j < k → putOk (L j).1 (L j).2 = true := by
  simp [allOk, List.all_eq_true, List.mem_range]
theorem allOk_no {L : Nat → Int × Int} {k n : Nat} (hk : k < n) (h : putOk (L k).1 (L k).2 = false) : allOk L n = false := by
  cases e : allOk L n with
  | false => rfl
  | true =>
    rw [allOk_iff.1 e k hk] at h
    cases h
theorem firstE_ok {L : Nat → Int × Int} {n : Nat} (h : allOk L n = true) : firstE L n = 0 := by
  unfold firstE
  have : (List.range n).find? (fun j => !putOk (L j).1 (L j).2) = none := by
    rw [List.find?_eq_none]
    intro j hj
    rw [allOk_iff.1 h j (List.mem_range.1 hj)]
    simp
  rw [this]
theorem find_first {p : Nat → Bool} {n k : Nat} (hk : k < n) (h1 : p k = true) (h0 : ∀ j, j < k → p j = false) : (List.range n).find? p = some k := by
  exact List.find?_range_eq_some.2 ⟨h1, List.mem_range.2 hk, fun j hj => by simp [h0 j hj]⟩
theorem firstE_at {L : Nat → Int × Int} {n k : Nat} (hk : k < n) (h : allOk L k = true) (h1 : putOk (L k).1 (L k).2 = false) : firstE L n = putE (L k).1 (L k).2 := by
  unfold firstE
  rw [find_first hk (by rw [h1]; rfl) (fun j hj => by rw [allOk_iff.1 h j hj]; rfl)]
theorem putE_bad {k A : Int} (h : putOk k A = false) : putE k A = 80 ∨ putE k A = 81 := by
  unfold putE
  split
  · exact .inl rfl
  · rw [h]
    exact .inr rfl

/-- ████ code.put ████ -/
theorem put_any_bad (k A : Int) (v : Value) (w : World) (T : Tabs w) (h : putOk k A = false) :
    Calls Tryd.prog 29 #[v, .agg #[.int .i64 k, .int .i64 A]] w fun e w' => e = .returned (.tuple #[.slice none 0 0, .int .i64 (putE k A)]) ∧ Below w.heap.size w w' := by
  unfold putE
  by_cases h1 : k < 1 ∨ 41 < k
  · rw [if_pos h1]
    exact put_noop k A v w h1
  · rw [if_neg h1, h]
    obtain ⟨m, rfl⟩ : ∃ m : Nat, k = m := ⟨k.toNat, by omega⟩
    refine put_bad m A v w T (by omega) (by omega) ?_
    unfold putOk at h
    rw [Int.toNat_natCast, decide_eq_true (show 1 ≤ (m : Int) by omega), decide_eq_true (show (m : Int) ≤ 41 by omega)] at h
    by_cases h2 : A < 0
    · exact .inl h2
    · rw [decide_eq_true (show 0 ≤ A by omega)] at h
      simp at h
      exact .inr h
theorem put_any_ok (base : Nat) (k A : Int) (v : Value) (xs : List Int) (w : World) (T : Tabs w) (h : putOk k A = true) (HO : w.ownsRow base 5 1 v xs.length (nums .u8 xs)) (hbase : base ≤ w.heap.size) (hlen : xs.length ≤ 140737488355000) :
    Calls Tryd.prog 29 #[v, .agg #[.int .i64 k, .int .i64 A]] w fun e w' => ∃ v', e = .returned (.tuple #[v', .int .i64 0]) ∧ Owned base w w' v v' (xs ++ encB k.toNat A) := by
  unfold putOk at h
  simp only [Bool.and_eq_true, decide_eq_true_eq] at h
  obtain ⟨m, rfl⟩ : ∃ m : Nat, k = m := ⟨k.toNat, by omega⟩
  rw [Int.toNat_natCast] at h ⊢
  exact put_ok base m A v xs w T (by omega) (by omega) (by omega) (by omega) HO hbase hlen

set_option maxHeartbeats 1000000 in
/-- ████ code.Bytes ████ -/
theorem Bytes_any (a : Option Addr) (n c : Nat) (L : Nat → Int × Int) (w : World) (T : Tabs w) (R : RdIns w a n L) (hn : n ≤ 140737488354000) (hlen : ∀ k, k ≤ n → allOk L k = true → (encTo L k).length ≤ 140737488354000) (N : Nat) (HN : Hid ((bytesL L n).length = N)) :
    Calls Tryd.prog 25 #[.slice a n c] w fun e w' => ∃ a' c', e = .returned (.tuple #[.slice a' N N, .int .i64 (firstE L n)]) ∧ OwnedS w.heap.size w w' a' c' (bytesL L n) := by
  have HR := Lib.hid R
  have HL := Lib.hid hlen
  clear R hlen
  go_enter Tryd.func25, Tryd.ntmps25
  go_wp2_with fail
  go_loopw [4, 11] (fun v i wr => ∃ k : Nat, k ≤ n ∧ i = .int .i64 k ∧ Hid (allOk L k = true) ∧ Hid (wr.ownsRow w.heap.size 5 1 v (encTo L k).length (nums .u8 (encTo L k))) ∧ Below w.heap.size w wr) (fun _ i _ => n - (intOf i).toNat)
  case atStart => exact ⟨0, by omega, rfl, rfl, own_nil _ _ 5 1, Below.refl _ _⟩
  case round =>
    obtain ⟨k, hk, rfl, HA, HO, hB⟩ := hrel
    have hbs := hB.size
    by_cases hlt : k < n
    · obtain ⟨b, o, rfl, hbw, hcell⟩ := (HR.out.below hB) (by omega)
      obtain ⟨c0, c1⟩ := hcell k hlt
      clear hcell
      have hE := encTo_succ L k
      have hA1 := allOk_succ L k
      have hfe := fun h => firstE_at (L := L) hlt HA.out h
      generalize (L k).1 = op at *
      generalize (L k).2 = A at *
      have qx : Below w.heap.size w (wr.alloc (.cells #[.int .i64 op, .int .i64 A] 41)) := hB.alloc hbs _
      cases hok : putOk op A with
      | false =>
        have hno : allOk L n = false := by
          cases e : allOk L n with
          | false => rfl
          | true =>
            have := allOk_iff.1 e
            have h2 : allOk L (k + 1) = true := allOk_iff.2 fun j hj => this j (by omega)
            rw [hA1, hok] at h2
            simp at h2
        have hF : Hid (firstE L n = putE op A) := hfe hok
        have hZ : Hid (bytesL L n = []) := by show _ = _; unfold bytesL; rw [hno]; rfl
        have hpe := putE_bad hok
        have h29 := fun v => put_any_bad op A v (wr.alloc (.cells #[.int .i64 op, .int .i64 A] 41)) (T.below qx) hok
        have H29 := Lib.hid h29
        have hN0 : Hid (N = 0) := by
          have := HN.out
          rw [hZ.out] at this
          exact this.symm
        generalize putE op A = er at *
        have hne : (er == 0) = false := by rcases hpe with rfl | rfl <;> rfl
        have hne2 : (er != 0) = true := by simp [bne, hne]
        clear h29 hfe hE hA1 hok hno hpe
        go_wp2_with fail
        refine (H29.out _).mono ?_
        rintro e w1 ⟨rfl, hb1⟩
        have q1 : Below w.heap.size w w1 := qx.trans (hb1.mono (by simp; omega))
        go_wp2_with fail
        go_ret2
        exact ⟨none, 0, by rw [hN0.out, hF.out]; rfl, by rw [hZ.out]; exact owned_nil _ q1⟩
      | true =>
        have HO2 : Hid (∀ v, wr.ownsRow w.heap.size 5 1 v (encTo L k).length (nums .u8 (encTo L k)) → (wr.alloc (.cells #[.int .i64 op, .int .i64 A] 41)).ownsRow w.heap.size 5 1 v (encTo L k).length (nums .u8 (encTo L k))) := fun v h => pw_own_below h ((Below.refl _ _).alloc (Nat.le_refl _) _)
        have hll := HL.out k hk HA.out
        have h29 := fun v h => put_any_ok w.heap.size op A v (encTo L k) (wr.alloc (.cells #[.int .i64 op, .int .i64 A] 41)) (T.below qx) hok (HO2.out v h) (by simp; omega) (by omega)
        have H29 := Lib.hid h29
        have HA2 : Hid (allOk L (k + 1) = true) := by show _ = _; rw [hA1, hok, HA.out]; rfl
        have HE := Lib.hid hE
        clear h29 hfe hE hA1 hok
        go_wp2_with fail
        refine (H29.out _ HO.out).mono ?_
        rintro e w1 ⟨v', rfl, O⟩
        have hO3 : Hid (w1.ownsRow w.heap.size 5 1 v' (encTo L (k + 1)).length (nums .u8 (encTo L (k + 1)))) := by show World.ownsRow _ _ _ _ _ _ _; rw [HE.out]; exact O.own
        have q1 : Below w.heap.size w w1 := qx.trans O.below
        clear O H29 HE HO2
        go_wp2_with fail
        go_roundw
        case rel => exact ⟨k + 1, by omega, by go_num, HA2, hO3, q1⟩
        case measure => simp [intOf]; omega
    · obtain rfl : k = n := by omega
      have hZ : Hid (bytesL L k = encTo L k) := by show _ = _; unfold bytesL; rw [HA.out]; rfl
      have hlN : (encTo L k).length = N := by have := HN.out; rw [hZ.out] at this; exact this
      have hF : Hid (firstE L k = 0) := firstE_ok HA.out
      have HO' := HO.out
      rw [hlN] at HO'
      obtain ⟨a2, c2, hv, hc, _⟩ := own_cap HO'
      rw [hv] at HO'
      have HF : OwnedS w.heap.size w wr a2 c2 (encTo L k) := ⟨by rw [hlN]; exact HO', by omega, hB⟩
      have HFF := Lib.hid HF
      clear HF HO' hlN HN
      go_wp2_with fail
      rw [hv]
      refine (clip_any _ _ _ _ hc).mono ?_
      rintro e w' ⟨rfl, rfl⟩
      go_wp2_with fail
      go_ret2
      exact ⟨a2, c2, by rw [hF.out]; rfl, by rw [hZ.out]; exact HFF.out⟩
end Go.Proofs.YthpfndbhibbkmaaDoor
