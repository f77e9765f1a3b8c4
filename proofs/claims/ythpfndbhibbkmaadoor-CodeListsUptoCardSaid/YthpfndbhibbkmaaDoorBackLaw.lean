/- THE PLAIN LAW of CodeBack: what Bytes lays List tells. -/
import Derived.Test.YthpfndbhibbkmaaDoorOneLaw
namespace Go.Proofs.YthpfndbhibbkmaaDoor
open Go.ChangeShapes Go.WideShapes Go.ChangeAt Go.RowKit Go.Proofs.YthpfndbhibbkmaaDoorW.PrintWords
set_option linter.unusedVariables false
set_option linter.unusedSimpArgs false

theorem getD_mid (pre mid post : List Int) (j : Nat) (hj : j < mid.length) : (pre ++ (mid ++ post)).getD (pre.length + j) 0 = mid.getD j 0 := by
  rw [List.getD_eq_getElem?_getD, List.getD_eq_getElem?_getD, List.getElem?_append_right (by omega), Nat.add_sub_cancel_left, List.getElem?_append_left hj]

/-- Take at a place where an instruction was laid. -/
theorem take_laid (pre post : List Int) (k A : Int) (h : putOk k A = true) :
    takeR (pre ++ (encB k.toNat A ++ post)) pre.length = (k, A, ((pre ++ encB k.toNat A).length : Int), 0) := by
  unfold putOk at h
  simp only [Bool.and_eq_true, decide_eq_true_eq] at h
  obtain ⟨m, rfl⟩ : ∃ m : Nat, k = m := ⟨k.toNat, by omega⟩
  rw [Int.toNat_natCast] at h ⊢
  obtain ⟨⟨⟨h1, h2⟩, h3⟩, h4⟩ := h
  have hg0 : (pre ++ (encB m A ++ post)).getD pre.length 0 = m := by
    have := getD_mid pre (encB m A) post 0 (by unfold encB; simp)
    rw [Nat.add_zero] at this
    rw [this]
    rfl
  have hlen : (pre ++ (encB m A ++ post)).length = pre.length + (encB m A).length + post.length := by simp [Nat.add_assoc]
  have hel : 1 ≤ (encB m A).length := by unfold encB; simp
  unfold takeR
  rw [Int.toNat_natCast, hg0, hlen, Int.toNat_natCast]
  rw [if_neg (by omega), if_neg (by omega)]
  have hw : ((encB m A).length : Int) = 1 + widthT (numT m 0) := by
    unfold encB
    rcases width_012 (numT m 0) with e | e | e <;> rw [e] <;> rfl
  rw [if_neg (by omega)]
  have hA : argB (pre ++ (encB m A ++ post)) pre.length (widthT (numT m 0)) = A := by
    have hA2 : A ≤ 3999 := by unfold mostT at h4; repeat (first | omega | split at h4)
    rcases width_012 (numT m 0) with e | e | e
    · rw [e]
      have hm0 : mostT (numT m 0) = 0 := by
        unfold widthT at e
        unfold mostT
        repeat (first | omega | split at e)
        all_goals simp [*]
      have : A = 0 := by omega
      rw [this]
      rfl
    · rw [e]
      have hb : encB m A = [(m : Int), A % 256] := by unfold encB; rw [e]; rfl
      have hmx : mostT (numT m 0) ≤ 255 := by
        unfold widthT at e
        unfold mostT
        repeat (first | omega | split at e | split)
      have g1 := getD_mid pre (encB m A) post 1 (by rw [hb]; simp)
      show (pre ++ (encB m A ++ post)).getD (pre.length + 1) 0 = A
      rw [g1, hb]
      show A % 256 = A
      omega
    · rw [e]
      have hb : encB m A = [(m : Int), A / 256, A % 256] := by unfold encB; rw [e]; rfl
      have g1 := getD_mid pre (encB m A) post 1 (by rw [hb]; simp)
      have g2 := getD_mid pre (encB m A) post 2 (by rw [hb]; simp)
      show (pre ++ (encB m A ++ post)).getD (pre.length + 1) 0 * 256 + (pre ++ (encB m A ++ post)).getD (pre.length + 2) 0 = A
      rw [g1, g2, hb]
      show A / 256 * 256 + A % 256 = A
      omega
  rw [hA, if_neg (by omega)]
  have e3 : (pre.length : Int) + 1 + widthT (numT m 0) = ((pre ++ encB m A).length : Int) := by
    rw [List.length_append]
    omega
  rw [e3]

/-- The bytes from instruction j on. -/
def encFrom (L : Nat → Int × Int) (j n : Nat) : List Int := (List.range' j (n - j)).flatMap fun i => encB (L i).1.toNat (L i).2
theorem enc_split (L : Nat → Int × Int) (n : Nat) : ∀ j, j ≤ n → encTo L n = encTo L j ++ encFrom L j n := by
  intro j hj
  obtain ⟨d, rfl⟩ : ∃ d, n = j + d := ⟨n - j, by omega⟩
  unfold encTo encFrom
  rw [← List.flatMap_append, Nat.add_sub_cancel_left, List.range_add, List.range'_eq_map_range]
theorem encFrom_cons (L : Nat → Int × Int) (j n : Nat) (h : j < n) : encFrom L j n = encB (L j).1.toNat (L j).2 ++ encFrom L (j + 1) n := by
  unfold encFrom
  rw [show n - j = (n - (j + 1)) + 1 by omega, List.range'_succ, List.flatMap_cons]
def placeL (L : Nat → Int × Int) (j : Nat) : Nat := (encTo L j).length
theorem take_at {L : Nat → Int × Int} {n j : Nat} (hj : j < n) (h : putOk (L j).1 (L j).2 = true) : takeR (encTo L n) (placeL L j) = ((L j).1, (L j).2, (placeL L (j + 1) : Int), 0) := by
  rw [enc_split L n j (by omega), encFrom_cons L j n hj]
  have := take_laid (encTo L j) (encFrom L (j + 1) n) (L j).1 (L j).2 h
  unfold placeL
  rw [this, encTo_succ]
theorem encB_pos (k : Nat) (A : Int) : 1 ≤ (encB k A).length := by unfold encB; simp
theorem place_succ (L : Nat → Int × Int) (j : Nat) : placeL L (j + 1) = placeL L j + (encB (L j).1.toNat (L j).2).length := by
  unfold placeL
  rw [encTo_succ, List.length_append]
theorem place_lt {L : Nat → Int × Int} {n j : Nat} (hj : j < n) : placeL L j < (encTo L n).length := by
  rw [enc_split L n j (by omega), encFrom_cons L j n hj, List.length_append, List.length_append]
  have := encB_pos (L j).1.toNat (L j).2
  unfold placeL
  omega
theorem place_ge (L : Nat → Int × Int) (n : Nat) : n ≤ placeL L n := by
  induction n with
  | zero => exact Nat.zero_le _
  | succ n ih =>
    rw [place_succ]
    have := encB_pos (L n).1.toNat (L n).2
    omega
/-- List of what was laid. -/
theorem run_laid {L : Nat → Int × Int} {n : Nat} (hall : allOk L n = true) : ∀ (d j f : Nat), j + d = n → d + 1 ≤ f →
    runL (encTo L n) f (placeL L j) = ((List.range' j d).map L, (List.range' j d).map (fun i => (placeL L i : Int)), 0, 0) := by
  intro d
  induction d with
  | zero =>
    intro j f hj hf
    obtain ⟨f, rfl⟩ : ∃ g, f = g + 1 := ⟨f - 1, by omega⟩
    obtain rfl : j = n := by omega
    rw [runL, if_pos (show (encTo L j).length ≤ placeL L j from Nat.le_refl _)]
    rfl
  | succ d ih =>
    intro j f hj hf
    obtain ⟨f, rfl⟩ : ∃ g, f = g + 1 := ⟨f - 1, by omega⟩
    have hlt := place_lt (L := L) (show j < n by omega)
    have ht := take_at (L := L) (show j < n by omega) (allOk_iff.1 hall j (by omega))
    have hi := ih (j + 1) f (by omega) (by omega)
    rw [runL, if_neg (by omega), ht]
    simp only [Int.toNat_natCast, hi, ne_eq, not_true_eq_false, if_false, List.range'_succ, List.map_cons]
theorem list_laid {L : Nat → Int × Int} {n : Nat} (hall : allOk L n = true) : listR (encTo L n) = ((List.range n).map L, (List.range n).map (fun i => (placeL L i : Int)), 0, 0) := by
  have := run_laid hall n 0 ((encTo L n).length + 1) (by omega) (by have := place_ge L n; unfold placeL at this; omega)
  rw [← List.range_eq_range'] at this
  exact this
end Go.Proofs.YthpfndbhibbkmaaDoor
