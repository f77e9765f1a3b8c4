/- THE PLAIN LAW of HashBack: Unhex of Hex is the digest; and of any other text the digest, if there is one, has that text for its Hex. -/
import Derived.Test.YtikoahjnhdnhdaaUnhex
namespace Go.Proofs.Ytikoahjnhdnhdaa
open Go.ChangeShapes Go.WideShapes Go.ChangeAt Go.RowKit Go.Proofs.YtikoahjnhdnhdaaW.PrintWords Go.Deep
set_option linter.unusedVariables false

theorem hexL_get (D : List Int) : ∀ (i : Nat), i < D.length → (hexL D).getD (2 * i) 0 = dig (D.getD i 0 / 16) ∧ (hexL D).getD (2 * i + 1) 0 = dig (D.getD i 0 % 16) := by
  unfold hexL
  induction D with
  | nil => intro i h; simp at h
  | cons x D ih =>
    intro i h
    rw [List.flatMap_cons]
    cases i with
    | zero => simp
    | succ i =>
      have := ih i (by simpa using h)
      simp only [List.getD_eq_getElem?_getD] at this ⊢
      rw [show 2 * (i + 1) = 2 * i + 1 + 1 by omega]
      simpa using this
theorem dig_byte {x : Int} (h0 : 0 ≤ x) (h1 : x < 16) : 0 ≤ dig x ∧ dig x ≤ 255 := by
  unfold dig
  split <;> omega
theorem dig_dv' {x : Int} (h0 : 0 ≤ x) (h1 : x < 16) : isD (dig x) = true ∧ dv (dig x) = x := by
  obtain ⟨n, rfl⟩ := Int.eq_ofNat_of_zero_le h0
  exact dig_dv (by omega)
/-- A byte of a text that is made of numbers. -/
theorem bt_nums (L : List Int) (i : Nat) (hi : i < L.length) (h0 : 0 ≤ L.getD i 0) (h1 : L.getD i 0 ≤ 255) : bt (strOfNums L) i = L.getD i 0 := by
  unfold bt
  rw [dif_pos (show (i : Int).toNat < (strOfNums L).size by rw [strOfNums_size]; simpa using hi)]
  have : (strOfNums L)[(i : Int).toNat]'(by rw [strOfNums_size]; simpa using hi) = UInt8.ofNat (L.getD i 0).toNat := by
    simp [strOfNums, ByteArray.getElem_eq_getElem_data, List.getD_eq_getElem?_getD, List.getElem?_eq_getElem hi]
  rw [this]
  rw [UInt8.toNat_ofNat']
  have : (L.getD i 0).toNat < 2 ^ 8 := by omega
  rw [Nat.mod_eq_of_lt this]
  omega

theorem acc_get (t : ByteArray) (i : Nat) (hi : i < 32) : (accL t 32).getD i 0 = pairV t i := by
  unfold accL
  simp [List.getD_eq_getElem?_getD, hi]
section
variable (D : List Int) (hl : D.length = 32) (hb : ∀ i, 0 ≤ D.getD i 0 ∧ D.getD i 0 ≤ 255)
theorem hex_pair (hl : D.length = 32) (hb : ∀ i, 0 ≤ D.getD i 0 ∧ D.getD i 0 ≤ 255) (i : Nat) (hi : i < 32) : pairD (strOfNums (hexL D)) i = true ∧ pairV (strOfNums (hexL D)) i = D.getD i 0 := by
  have hd := hb i
  obtain ⟨e1, e2⟩ := hexL_get D i (by omega)
  have hs : (hexL D).length = 64 := by rw [hexL_length]; omega
  have d1 := dig_dv' (x := D.getD i 0 / 16) (by omega) (by omega)
  have d2 := dig_dv' (x := D.getD i 0 % 16) (by omega) (by omega)
  have y1 := dig_byte (x := D.getD i 0 / 16) (by omega) (by omega)
  have y2 := dig_byte (x := D.getD i 0 % 16) (by omega) (by omega)
  have b1 := bt_nums (hexL D) (2 * i) (by omega) (by rw [e1]; exact y1.1) (by rw [e1]; exact y1.2)
  have b2 := bt_nums (hexL D) (2 * i + 1) (by omega) (by rw [e2]; exact y2.1) (by rw [e2]; exact y2.2)
  rw [e1] at b1
  rw [e2] at b2
  rw [show ((2 * i : Nat) : Int) = 2 * (i : Int) by omega] at b1
  rw [show ((2 * i + 1 : Nat) : Int) = 2 * (i : Int) + 1 by omega] at b2
  unfold pairD pairV
  rw [b1, b2, d1.1, d1.2, d2.1, d2.2]
  exact ⟨rfl, by omega⟩
theorem hex_ok (hl : D.length = 32) (hb : ∀ i, 0 ≤ D.getD i 0 ∧ D.getD i 0 ≤ 255) : okB (strOfNums (hexL D)) = true :=
  okB_yes (by rw [strOfNums_size, hexL_length]; omega) (fun i hi => (hex_pair D hl hb i hi).1)
theorem unhex_hex (hl : D.length = 32) (hb : ∀ i, 0 ≤ D.getD i 0 ∧ D.getD i 0 ≤ 255) : unhexR (strOfNums (hexL D)) = D := by
  unfold unhexR
  rw [if_pos (hex_ok D hl hb)]
  apply List.ext_getElem
  · rw [accL_length, hl]
  · intro i h1 h2
    have hi : i < 32 := by rw [accL_length] at h1; exact h1
    have := (hex_pair D hl hb i hi).2
    have h3 := acc_get (strOfNums (hexL D)) i hi
    rw [this, List.getD_eq_getElem?_getD, List.getD_eq_getElem?_getD, List.getElem?_eq_getElem h1, List.getElem?_eq_getElem h2] at h3
    exact h3
end
theorem okB_pair {t : ByteArray} (h : okB t = true) : t.size = 64 ∧ ∀ i, i < 32 → pairD t i = true := by
  simp only [okB, Bool.and_eq_true, List.all_eq_true, List.mem_range, decide_eq_true_eq] at h
  exact h
theorem acc_byte {t : ByteArray} (h : okB t = true) (i : Nat) : 0 ≤ (accL t 32).getD i 0 ∧ (accL t 32).getD i 0 ≤ 255 := by
  by_cases hi : i < 32
  · rw [acc_get t i hi]
    have hp := (okB_pair h).2 i hi
    unfold pairD at hp
    rw [Bool.and_eq_true] at hp
    have v1 := dv_bounds hp.1
    have v2 := dv_bounds hp.2
    unfold pairV
    omega
  · rw [List.getD_eq_getElem?_getD, List.getElem?_eq_none (by rw [accL_length]; omega)]
    simp
theorem hex_unhex {t : ByteArray} (h : okB t = true) : strOfNums (hexL (unhexR t)) = t := by
  unfold unhexR
  rw [if_pos h]
  obtain ⟨hs, hp⟩ := okB_pair h
  have hlen : (hexL (accL t 32)).length = 64 := by rw [hexL_length, accL_length]
  apply ByteArray.ext
  apply Array.ext
  · show (strOfNums (hexL (accL t 32))).size = t.size
    rw [strOfNums_size, hlen, hs]
  · intro j h1 h2
    have hj : j < 64 := by
      have : t.data.size = 64 := hs
      omega
    have key : bt (strOfNums (hexL (accL t 32))) j = bt t j := by
      rcases (by omega : j = 2 * (j / 2) ∨ j = 2 * (j / 2) + 1) with e | e
      all_goals
        have hi : j / 2 < 32 := by omega
        generalize j / 2 = i at *
        obtain ⟨e1, e2⟩ := hexL_get (accL t 32) i (by rw [accL_length]; omega)
        have hpi := hp i hi
        unfold pairD at hpi
        rw [Bool.and_eq_true] at hpi
        have v1 := dv_bounds hpi.1
        have v2 := dv_bounds hpi.2
        rw [acc_get t i hi] at e1 e2
        have q1 : pairV t i / 16 = dv (bt t (2 * (i : Int))) := by unfold pairV; omega
        have q2 : pairV t i % 16 = dv (bt t (2 * (i : Int) + 1)) := by unfold pairV; omega
        rw [q1, dv_dig hpi.1] at e1
        rw [q2, dv_dig hpi.2] at e2
        have r1 := bt_range t (2 * (i : Int))
        have r2 := bt_range t (2 * (i : Int) + 1)
        subst e
      · rw [bt_nums _ _ (by omega) (by rw [e1]; omega) (by rw [e1]; omega), e1]
        rfl
      · rw [bt_nums _ _ (by omega) (by rw [e2]; omega) (by rw [e2]; omega), e2]
        rfl
    unfold bt at key
    rw [dif_pos (show (j : Int).toNat < (strOfNums (hexL (accL t 32))).size by rw [strOfNums_size, hlen]; simpa using hj), dif_pos (show (j : Int).toNat < t.size by rw [hs]; simpa using hj)] at key
    have k2 := UInt8.toNat_inj.1 (Int.ofNat_inj.1 key)
    simpa [ByteArray.getElem_eq_getElem_data] using k2
end Go.Proofs.Ytikoahjnhdnhdaa
