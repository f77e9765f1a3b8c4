/- THE PLAIN LAW of CodeOne and CodeLists: what List reads Bytes writes as just these bytes; where it stops Take refuses, and all ahead of it is read. -/
import Derived.Test.YthpfndbhibbkmaaDoorList
namespace Go.Proofs.YthpfndbhibbkmaaDoor
open Go.ChangeShapes Go.WideShapes Go.ChangeAt Go.RowKit Go.Proofs.YthpfndbhibbkmaaDoorW.PrintWords
set_option linter.unusedVariables false
set_option linter.unusedSimpArgs false

def encs (ps : List (Int × Int)) : List Int := ps.flatMap fun p => encB p.1.toNat p.2
def insF (ps : List (Int × Int)) : Nat → Int × Int := fun j => ps.getD j (0, 0)
theorem encTo_list (ps : List (Int × Int)) : ∀ k, k ≤ ps.length → encTo (insF ps) k = encs (ps.take k) := by
  intro k
  induction k with
  | zero => intro _; rfl
  | succ k ih =>
    intro h
    rw [encTo_succ, ih (by omega), List.take_succ_eq_append_getElem (by omega)]
    unfold encs insF
    rw [List.flatMap_append]
    simp [List.getD_eq_getElem?_getD, List.getElem?_eq_getElem (show k < ps.length by omega)]
theorem encTo_all (ps : List (Int × Int)) : encTo (insF ps) ps.length = encs ps := by rw [encTo_list ps _ (Nat.le_refl _), List.take_length]
theorem allOk_list {ps : List (Int × Int)} (h : ∀ p ∈ ps, putOk p.1 p.2 = true) : allOk (insF ps) ps.length = true := by
  rw [allOk_iff]
  intro j hj
  unfold insF
  rw [List.getD_eq_getElem?_getD, List.getElem?_eq_getElem hj]
  exact h _ (List.getElem_mem hj)

/-- What a read that answers says of the bytes. -/
theorem take_ok_says (bs : List Int) (hb : ∀ i, 0 ≤ bs.getD i 0 ∧ bs.getD i 0 ≤ 255) (i : Nat) (hi : i < bs.length) (he : (takeR bs i).2.2.2 = 0) :
    putOk (takeR bs i).1 (takeR bs i).2.1 = true ∧ bs.drop i = encB (takeR bs i).1.toNat (takeR bs i).2.1 ++ bs.drop (takeR bs i).2.2.1.toNat := by
  have hd : bs.drop i = bs.getD i 0 :: bs.drop (i + 1) := by
    rw [List.drop_eq_getElem_cons hi]
    simp [List.getD_eq_getElem?_getD, List.getElem?_eq_getElem hi]
  unfold takeR at he ⊢
  rw [if_neg (by omega)] at he ⊢
  rw [Int.toNat_natCast] at he ⊢
  split at he
  · cases he
  rename_i h1
  rw [if_neg h1]
  split at he
  · cases he
  rename_i h2
  rw [if_neg h2]
  split at he
  · cases he
  rename_i h3
  rw [if_neg h3]
  simp only
  obtain ⟨k, hk⟩ : ∃ k : Nat, bs.getD i 0 = k := ⟨(bs.getD i 0).toNat, by omega⟩
  rw [hk] at h1 h2 h3 hd ⊢
  rw [Int.toNat_natCast] at h2 h3 ⊢
  have hx1 := hb (i + 1)
  have hx2 := hb (i + 2)
  have hput : ∀ A, 0 ≤ A → A ≤ mostT (numT k 0) → putOk k A = true := by
    intro A a1 a2
    unfold putOk
    rw [Int.toNat_natCast, decide_eq_true (show 1 ≤ (k : Int) by omega), decide_eq_true (show (k : Int) ≤ 41 by omega), decide_eq_true a1, decide_eq_true a2]
    rfl
  rcases width_012 (numT k 0) with e | e | e
  · rw [e] at h2 h3 ⊢
    have hA : argB bs i 0 = 0 := rfl
    rw [hA] at h3 ⊢
    refine ⟨hput 0 (by omega) (by omega), ?_⟩
    unfold encB
    rw [e, hd, show ((i : Int) + 1 + 0).toNat = i + 1 by omega]
    rfl
  · rw [e] at h2 h3 ⊢
    have hA : argB bs i 1 = bs.getD (i + 1) 0 := rfl
    rw [hA] at h3 ⊢
    refine ⟨hput _ (by omega) (by omega), ?_⟩
    unfold encB
    have hd1 : bs.drop (i + 1) = bs.getD (i + 1) 0 :: bs.drop (i + 1 + 1) := by
      rw [List.drop_eq_getElem_cons (show i + 1 < bs.length by omega)]
      simp [List.getD_eq_getElem?_getD, List.getElem?_eq_getElem (show i + 1 < bs.length by omega)]
    rw [e, hd, hd1, show ((i : Int) + 1 + 1).toNat = i + 1 + 1 by omega]
    have hm : bs.getD (i + 1) 0 % 256 = bs.getD (i + 1) 0 := by omega
    show _ = (k : Int) :: ([bs.getD (i + 1) 0 % 256] ++ _)
    rw [hm]
    rfl
  · rw [e] at h2 h3 ⊢
    have hA : argB bs i 2 = bs.getD (i + 1) 0 * 256 + bs.getD (i + 2) 0 := rfl
    rw [hA] at h3 ⊢
    refine ⟨hput _ (by omega) (by omega), ?_⟩
    unfold encB
    have hd1 : bs.drop (i + 1) = bs.getD (i + 1) 0 :: bs.drop (i + 1 + 1) := by
      rw [List.drop_eq_getElem_cons (show i + 1 < bs.length by omega)]
      simp [List.getD_eq_getElem?_getD, List.getElem?_eq_getElem (show i + 1 < bs.length by omega)]
    have hd2 : bs.drop (i + 1 + 1) = bs.getD (i + 2) 0 :: bs.drop (i + 1 + 2) := by
      rw [List.drop_eq_getElem_cons (show i + 1 + 1 < bs.length by omega)]
      simp [List.getD_eq_getElem?_getD, List.getElem?_eq_getElem (show i + 2 < bs.length by omega)]
    rw [e, hd, hd1, hd2, show ((i : Int) + 1 + 2).toNat = i + 1 + 2 by omega]
    have hm : (bs.getD (i + 1) 0 * 256 + bs.getD (i + 2) 0) / 256 = bs.getD (i + 1) 0 := by omega
    have hm2 : (bs.getD (i + 1) 0 * 256 + bs.getD (i + 2) 0) % 256 = bs.getD (i + 2) 0 := by omega
    show _ = (k : Int) :: ([(bs.getD (i + 1) 0 * 256 + bs.getD (i + 2) 0) / 256, (bs.getD (i + 1) 0 * 256 + bs.getD (i + 2) 0) % 256] ++ _)
    rw [hm, hm2]
    rfl

/-- What List answers, if it answers. -/
theorem run_ok (bs : List Int) (hb : ∀ i, 0 ≤ bs.getD i 0 ∧ bs.getD i 0 ≤ 255) : ∀ (f i : Nat), i ≤ bs.length → bs.length + 1 ≤ i + f → (runL bs f i).2.2.2 = 0 →
    (∀ p ∈ (runL bs f i).1, putOk p.1 p.2 = true) ∧ encs (runL bs f i).1 = bs.drop i ∧ (runL bs f i).2.2.1 = 0 ∧ (runL bs f i).2.1.length = (runL bs f i).1.length := by
  intro f
  induction f with
  | zero => intro i h1 h2; omega
  | succ f ih =>
    intro i h1 h2 he
    simp only [runL] at he ⊢
    split at he
    · rename_i h
      rw [if_pos h]
      exact ⟨(fun p hp => by cases hp), (by rw [List.drop_eq_nil_of_le h]; rfl), rfl, rfl⟩
    · rename_i h
      rw [if_neg h]
      split at he
      · rename_i h3
        exact absurd he h3
      · rename_i h3
        rw [if_neg h3]
        have h3' : (takeR bs i).2.2.2 = 0 := by simpa using h3
        obtain ⟨j, hj, hj1, hj2, _⟩ := take_next bs i (by omega) h3'
        rw [hj, Int.toNat_natCast] at he ⊢
        split at he
        · rename_i h4
          exact absurd he h4
        · rename_i h4
          rw [if_neg h4]
          have h4' : (runL bs f j).2.2.2 = 0 := by simpa using h4
          obtain ⟨r1, r2, r3, r4⟩ := ih j (by omega) (by omega) h4'
          obtain ⟨s1, s2⟩ := take_ok_says bs hb i (by omega) h3'
          rw [hj, Int.toNat_natCast] at s2
          refine ⟨fun p hp => ?_, ?_, rfl, by simp [r4]⟩
          · rcases List.mem_cons.1 hp with rfl | hp
            · exact s1
            · exact r1 p hp
          · rw [s2, ← r2]
            rfl

theorem take_bad_shape (bs : List Int) (i : Int) (he : (takeR bs i).2.2.2 ≠ 0) : takeR bs i = (0, 0, i, (takeR bs i).2.2.2) := by
  unfold takeR at he ⊢
  by_cases h0 : i < 0 ∨ (bs.length : Int) ≤ i
  · simp only [if_pos h0]
  simp only [if_neg h0] at he ⊢
  by_cases h1 : bs.getD i.toNat 0 < 1 ∨ 41 < bs.getD i.toNat 0
  · simp only [if_pos h1]
  simp only [if_neg h1] at he ⊢
  by_cases h2 : (bs.length : Int) - i ≤ widthT (numT (bs.getD i.toNat 0).toNat 0)
  · simp only [if_pos h2]
  simp only [if_neg h2] at he ⊢
  by_cases h3 : mostT (numT (bs.getD i.toNat 0).toNat 0) < argB bs i.toNat (widthT (numT (bs.getD i.toNat 0).toNat 0))
  · simp only [if_pos h3]
  simp only [if_neg h3] at he
  exact absurd rfl he
/-- A read that answers does so in every beginning that holds what it read. -/
theorem take_prefix (bs : List Int) (i m : Nat) (hm : m ≤ bs.length) (hi : i < m) (he : (takeR bs i).2.2.2 = 0) (hn : (takeR bs i).2.2.1 ≤ m) : takeR (bs.take m) i = takeR bs i := by
  have hl : (bs.take m).length = m := by rw [List.length_take]; omega
  have hg : ∀ j, j < m → (bs.take m).getD j 0 = bs.getD j 0 := fun j hj => by simp [List.getD_eq_getElem?_getD, hj]
  have h0 : ¬ ((i : Int) < 0 ∨ (bs.length : Int) ≤ i) := by omega
  have h0' : ¬ ((i : Int) < 0 ∨ (m : Int) ≤ i) := by omega
  unfold takeR at he hn ⊢
  rw [hl, Int.toNat_natCast, hg i hi]
  rw [Int.toNat_natCast] at he hn
  simp only [if_neg h0, if_neg h0'] at he hn ⊢
  by_cases h1 : bs.getD i 0 < 1 ∨ 41 < bs.getD i 0
  · simp only [if_pos h1]
  simp only [if_neg h1] at he hn ⊢
  by_cases h2 : (bs.length : Int) - i ≤ widthT (numT (bs.getD i 0).toNat 0)
  · simp only [if_pos h2] at he
    cases he
  simp only [if_neg h2] at he hn ⊢
  by_cases h3 : mostT (numT (bs.getD i 0).toNat 0) < argB bs i (widthT (numT (bs.getD i 0).toNat 0))
  · simp only [if_pos h3] at he
    cases he
  simp only [if_neg h3] at hn ⊢
  have h2' : ¬ ((m : Int) - i ≤ widthT (numT (bs.getD i 0).toNat 0)) := by omega
  have hA : argB (bs.take m) i (widthT (numT (bs.getD i 0).toNat 0)) = argB bs i (widthT (numT (bs.getD i 0).toNat 0)) := by
    rcases width_012 (numT (bs.getD i 0).toNat 0) with e | e | e
    · rw [e]; rfl
    · rw [e] at hn ⊢
      show (bs.take m).getD (i + 1) 0 = bs.getD (i + 1) 0
      exact hg _ (by omega)
    · rw [e] at hn ⊢
      show (bs.take m).getD (i + 1) 0 * 256 + (bs.take m).getD (i + 2) 0 = bs.getD (i + 1) 0 * 256 + bs.getD (i + 2) 0
      rw [hg _ (by omega), hg _ (by omega)]
  simp only [if_neg h2', hA, if_neg h3]

/-- Where List stops: Take refuses there, and all ahead of it is read. -/
theorem run_err (bs : List Int) : ∀ (f i : Nat), i ≤ bs.length → bs.length + 1 ≤ i + f → (runL bs f i).2.2.2 ≠ 0 →
    ∃ k : Nat, (runL bs f i).1 = [] ∧ (runL bs f i).2.1 = [] ∧ (runL bs f i).2.2.1 = k ∧ i ≤ k ∧ k < bs.length ∧ (takeR bs k).2.2.2 = (runL bs f i).2.2.2 ∧ ∀ f', k + 1 ≤ i + f' → (runL (bs.take k) f' i).2.2.2 = 0 := by
  intro f
  induction f with
  | zero => intro i h1 h2; omega
  | succ f ih =>
    intro i h1 h2 he
    simp only [runL] at he ⊢
    split at he
    · exact absurd rfl he
    · rename_i h
      rw [if_neg h]
      split at he
      · rename_i h3
        rw [if_pos h3]
        refine ⟨i, rfl, rfl, rfl, Nat.le_refl _, by omega, rfl, fun f' hf' => ?_⟩
        cases f' with
        | zero => rfl
        | succ f' =>
          rw [runL, if_pos (by rw [List.length_take]; omega)]
      · rename_i h3
        rw [if_neg h3]
        have h3' : (takeR bs i).2.2.2 = 0 := by simpa using h3
        obtain ⟨j, hj, hj1, hj2, _⟩ := take_next bs i (by omega) h3'
        rw [hj, Int.toNat_natCast] at he ⊢
        split at he
        · rename_i h4
          rw [if_pos h4]
          obtain ⟨k, r1, r2, r3, r4, r5, r6, r7⟩ := ih j (by omega) (by omega) h4
          refine ⟨k, rfl, rfl, r3, by omega, r5, r6, fun f' hf' => ?_⟩
          cases f' with
          | zero => omega
          | succ f' =>
            have hp := take_prefix bs i k (by omega) (by omega) h3' (by omega)
            rw [runL, if_neg (by rw [List.length_take]; omega), hp, if_neg h3, hj, Int.toNat_natCast]
            have := r7 f' (by omega)
            rw [if_neg (by simp [this])]
        · rename_i h4
          exact absurd rfl he
end Go.Proofs.YthpfndbhibbkmaaDoor
