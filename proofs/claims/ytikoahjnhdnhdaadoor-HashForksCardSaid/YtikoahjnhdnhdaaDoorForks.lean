/- THE WALK of 'scruplelaw02.HashForks': it returns true for all texts, over a world that holds the table of the rounds. -/
import Derived.Test.YtikoahjnhdnhdaaDoorEq
import Derived.WalkLawsBesides
import Derived.Deep.RegionHeld3
namespace Go.Proofs.YtikoahjnhdnhdaaDoor.hashForks
open Go.ChangeShapes Go.WideShapes Go.ChangeAt Go.RowKit Go.Proofs.YtikoahjnhdnhdaaDoorW.PrintWords Go.Deep Go.Proofs.YtikoahjnhdnhdaaDoor
set_option linter.unusedVariables false
set_option linter.unusedSimpArgs false

attribute [local go_sem ↓] loadAt_23 storeAt_23 alloc_23
attribute [local go_sem] run_alloc23

theorem bytes_append (a b : ByteArray) : bytesOf (a ++ b) = bytesOf a ++ bytesOf b := by
  unfold bytesOf
  rw [ByteArray.data_append, Array.toList_append, List.map_append]

/-- Write of []byte(s). -/
theorem write_str (m : List Int) (s : ByteArray) (g : Nat) (W : World) (T : Tabs W) (S : Hs W g m) (hg : 0 < g) (hs : s.size ≤ 1152921504606846976) (hm : m.length ≤ 1152921504606846976) :
    Calls Tryd.prog 14 #[.pointer (some ⟨g, 0, none⟩), .slice (some ⟨W.heap.size, 0, none⟩) s.size (grownCap W s.size 0 5)] (Lib.bytesWorld W 5 s) fun e w' => e = .returned (.int .i64 ((m.length + s.size : Nat) : Int)) ∧ Hs w' g (m ++ bytesOf s) ∧ (Lib.bytesWorld W 5 s).grownBy w' (some g) :=
  write_any m (bytesOf s) g _ _ _ (Lib.bytesWorld W 5 s) (T.below (bytes_below (Below.refl _ _) (Nat.le_refl _) 5 s)) (S.below (bytes_below (Below.refl _ _) (Nat.le_refl _) 5 s)) hg
    ((bytes_in W s (by omega)).src (fun ad he => by injection he with he; subst he; have := S.lt; show W.heap.size ≠ g; omega)) (bytes_in W s (by omega)).cap (by omega)

set_option maxRecDepth 100000 in
set_option maxHeartbeats 4000000 in
theorem good (sa sb sc : ByteArray) (w : World) (T : Tabs w) (ha : sa.size ≤ 140737488351232) (hb : sb.size ≤ 140737488351232) (hc : sc.size ≤ 140737488351232) :
    Calls Tryd.prog 6 #[.string sa, .string sb, .string sc] w fun e w' => e = .returned (.bool true) ∧ Below w.heap.size w w' := by
  have kb := fun (t : ByteArray) (W : World) => print_bytes (P := Tryd.prog) 9 25 5 Tryd.underlying9 Tryd.underlying25 Tryd.underlying5 t W
  have hla := bytesOf_length sa
  have hlb := bytesOf_length sb
  have hlc := bytesOf_length sc
  have HT := Lib.hid T
  have hp := HT.out.lt
  have HLA := Lib.hid hla
  have HLB := Lib.hid hlb
  have HLC := Lib.hid hlc
  clear T hla hlb hlc
  go_enter Tryd.func6, Tryd.ntmps6
  go_wp2_with fail
  refine (new_any w).mono ?_
  rintro e w1 ⟨rfl, S1, q1, hs1⟩
  have l1 : w.heap.size < w1.heap.size := S1.lt
  have h14 := write_str [] sa w.heap.size w1 (HT.out.below q1) S1 hp (by omega) (by simp)
  rw [List.nil_append] at h14
  have H14 := Lib.hid h14
  clear S1 h14 hs1
  go_wp2_with fail
  refine H14.out.mono ?_
  rintro e w2 ⟨rfl, S2, G2⟩
  have q2 : Below w.heap.size w w2 := (keep_bytes q1 sa).grown G2 (keep_bytes q1 sa).size (fun j hj => by injection hj with hj; omega)
  have HS2 := Lib.hid S2
  have hl2 : w.heap.size < w2.heap.size := S2.lt
  clear S2 G2 H14
  go_wp2_with fail
  refine (copy_any (bytesOf sa) w.heap.size w2 HS2.out).mono ?_
  rintro e w3 ⟨rfl, P3, b3, hs3⟩
  have q3 : Below w.heap.size w w3 := q2.trans (b3.mono q2.size)
  have S3 := HS2.out.below b3
  have l3 : w2.heap.size < w3.heap.size := P3.lt
  have HP3 := Lib.hid P3
  have H14 := Lib.hid (write_str (bytesOf sa) sb w.heap.size w3 (HT.out.below q3) S3 hp (by omega) (by rw [HLA.out]; omega))
  clear P3 b3 hs3 S3 HS2
  go_wp2_with fail
  refine H14.out.mono ?_
  rintro e w4 ⟨rfl, S4, G4⟩
  have q4 : Below w.heap.size w w4 := (keep_bytes q3 sb).grown G4 (keep_bytes q3 sb).size (fun j hj => by injection hj with hj; omega)
  have P4 : Hid (Hs w4 w2.heap.size (bytesOf sa)) := (HP3.out.below (keep_bytes (Below.refl _ _) sb)).other G4 (by omega)
  have HS4 := Lib.hid S4
  have hl4 : (bytesOf sa ++ bytesOf sb).length = sa.size + sb.size := by rw [List.length_append, HLA.out, HLB.out]
  have HL4 := Lib.hid hl4
  have H15 := Lib.hid (sum_any (bytesOf sa ++ bytesOf sb) w.heap.size w4 (HT.out.below q4) S4 hp (by rw [hl4]; omega))
  clear S4 G4 H14 HP3 hl4
  go_wp2_with fail
  refine H15.out.mono ?_
  rintro e w5 ⟨rfl, b5⟩
  have q5 : Below w.heap.size w w5 := q4.trans (b5.mono q4.size)
  have S5 := Lib.hid (HS4.out.below b5)
  have P5 := Lib.hid (P4.out.below b5)
  have l5 : w4.heap.size ≤ w5.heap.size := b5.size
  have hlP : w2.heap.size < w5.heap.size := P5.out.lt
  have hGA32 : (nums .u8 (shaF (bytesOf sa ++ bytesOf sb))).toArray.size = 32 := by simp [nums, shaF_length]
  obtain ⟨w6, hst6, D6, g6, z6⟩ := (Bk.new 23 w5 z23).store_whole (ty := 23) (nums .u8 (shaF (bytesOf sa ++ bytesOf sb))).toArray (by rw [hGA32, z23_size]) (by rw [hGA32]; exact size23) (nums_one .u8 _)
  have hst6' : (store23 (.pointer (some ⟨w5.heap.size, 0, none⟩)) (.agg (nums .u8 (shaF (bytesOf sa ++ bytesOf sb))).toArray)).run Tryd.prog (w5.alloc (.cells z23 23)) = .ok () w6 := hst6
  have b6 : Below w5.heap.size w5 w6 := ((Below.refl _ _).alloc (Nat.le_refl _) (.cells z23 23)).trans (below_of_grown g6 (Nat.le_refl _) (by simp))
  have q6 : Below w.heap.size w w6 := q5.trans (b6.mono q5.size)
  have S6 := Lib.hid (S5.out.below b6)
  have P6 := Lib.hid (P5.out.below b6)
  have HD6 := Lib.hid D6
  have hl6 : w5.heap.size < w6.heap.size := D6.lt
  have H14 := Lib.hid (write_str (bytesOf sa) sc w2.heap.size w6 (HT.out.below q6) P6.out (by omega) (by omega) (by rw [HLA.out]; omega))
  have HEA := Lib.hid (fun W => eq23 (shaF (bytesOf sa ++ bytesOf sb)) (shaF_length _) W)
  have HQA : Hid (∀ W A c, Tabs W → In W A (sa ++ sb).size c (bytesOf (sa ++ sb)) → Calls Tryd.prog 7 #[.slice A (sa ++ sb).size c] W fun e w' => e = .returned (.agg (nums .u8 (shaF (bytesOf sa ++ bytesOf sb))).toArray) ∧ Below W.heap.size W w') := fun W A c T hi => by
    have h1 := hsum_any (bytesOf (sa ++ sb)) A _ c W T hi (by rw [ByteArray.size_append]; omega)
    rw [bytes_append] at h1
    exact h1
  have HQS : Hid (∀ W, Tabs W → Hs W w.heap.size (bytesOf sa ++ bytesOf sb) → Calls Tryd.prog 15 #[.pointer (some ⟨w.heap.size, 0, none⟩)] W fun e w' => e = .returned (.agg (nums .u8 (shaF (bytesOf sa ++ bytesOf sb))).toArray) ∧ Below W.heap.size W w') := fun W T S => sum_any _ w.heap.size W T S hp (by rw [HL4.out]; omega)
  generalize (nums .u8 (shaF (bytesOf sa ++ bytesOf sb))).toArray = GA at *
  have HGA := Lib.hid hGA32
  clear hst6 D6 g6 z6 b6 b5 H15 hGA32 S5 P5 HS4 P4
  go_wp2_with fail
  refine H14.out.mono ?_
  rintro e w7 ⟨rfl, P7, G7⟩
  have q7 : Below w.heap.size w w7 := (keep_bytes q6 sc).grown G7 (keep_bytes q6 sc).size (fun j hj => by injection hj with hj; omega)
  have S7 : Hid (Hs w7 w.heap.size (bytesOf sa ++ bytesOf sb)) := (S6.out.below (keep_bytes (Below.refl _ _) sc)).other G7 (by omega)
  have D7 : Hid (Bk 23 w7 w5.heap.size GA) := (HD6.out.below (keep_bytes (Below.refl _ _) sc)).other G7 (by omega)
  have HP7 := Lib.hid P7
  have hl7 : (bytesOf sa ++ bytesOf sc).length = sa.size + sc.size := by rw [List.length_append, HLA.out, HLC.out]
  have HL7 := Lib.hid hl7
  have H15 := Lib.hid (sum_any (bytesOf sa ++ bytesOf sc) w2.heap.size w7 (HT.out.below q7) P7 (by omega) (by rw [hl7]; omega))
  clear P7 G7 H14 S6 P6 HD6 hl7
  go_wp2_with fail
  refine H15.out.mono ?_
  rintro e w8 ⟨rfl, b8⟩
  have q8 : Below w.heap.size w w8 := q7.trans (b8.mono q7.size)
  have S8 := Lib.hid (S7.out.below b8)
  have P8 := Lib.hid (HP7.out.below b8)
  have D8 := Lib.hid (D7.out.below b8)
  have hGB32 : (nums .u8 (shaF (bytesOf sa ++ bytesOf sc))).toArray.size = 32 := by simp [nums, shaF_length]
  obtain ⟨w9, hst9, E9, g9, z9⟩ := (Bk.new 23 w8 z23).store_whole (ty := 23) (nums .u8 (shaF (bytesOf sa ++ bytesOf sc))).toArray (by rw [hGB32, z23_size]) (by rw [hGB32]; exact size23) (nums_one .u8 _)
  have hst9' : (store23 (.pointer (some ⟨w8.heap.size, 0, none⟩)) (.agg (nums .u8 (shaF (bytesOf sa ++ bytesOf sc))).toArray)).run Tryd.prog (w8.alloc (.cells z23 23)) = .ok () w9 := hst9
  have b9 : Below w8.heap.size w8 w9 := ((Below.refl _ _).alloc (Nat.le_refl _) (.cells z23 23)).trans (below_of_grown g9 (Nat.le_refl _) (by simp))
  have q9 : Below w.heap.size w w9 := q8.trans (b9.mono q8.size)
  have S9 := Lib.hid (S8.out.below b9)
  have P9 := Lib.hid (P8.out.below b9)
  have D9 := Lib.hid (D8.out.below b9)
  have E9' := Lib.hid E9
  have HEB := Lib.hid (fun W => eq23 (shaF (bytesOf sa ++ bytesOf sc)) (shaF_length _) W)
  have HQB : Hid (∀ W A c, Tabs W → In W A (sa ++ sc).size c (bytesOf (sa ++ sc)) → Calls Tryd.prog 7 #[.slice A (sa ++ sc).size c] W fun e w' => e = .returned (.agg (nums .u8 (shaF (bytesOf sa ++ bytesOf sc))).toArray) ∧ Below W.heap.size W w') := fun W A c T hi => by
    have h1 := hsum_any (bytesOf (sa ++ sc)) A _ c W T hi (by rw [ByteArray.size_append]; omega)
    rw [bytes_append] at h1
    exact h1
  have HQW : Hid (∀ W, Tabs W → Hs W w2.heap.size (bytesOf sa ++ bytesOf sc) → Calls Tryd.prog 14 #[.pointer (some ⟨w2.heap.size, 0, none⟩), .slice none 0 0] W fun e w' => e = .returned (.int .i64 ((sa.size : Int) + (sc.size : Int))) ∧ W.grownBy w' (some w2.heap.size)) := fun W T S => by
    have h1 := write_any (bytesOf sa ++ bytesOf sc) [] w2.heap.size none 0 0 W T S (by omega) ((In.nil W).src (fun ad he => by cases he)) (Nat.le_refl _) (by rw [HL7.out]; omega)
    rw [HL7.out] at h1
    exact h1.mono fun e w' ⟨h2, h3, h4⟩ => ⟨by rw [h2]; congr 2, h4⟩
  generalize (nums .u8 (shaF (bytesOf sa ++ bytesOf sc))).toArray = GB at *
  have HGB := Lib.hid hGB32
  clear hst9 E9 g9 z9 b9 b8 H15 hGB32 S8 P8 S7 D7 HP7
  go_wp2_with fail
  have hadd1 := fun W : World => run_string_add_sum (P := Tryd.prog) W sa sb (by omega)
  have hadd2 := fun W : World => run_string_add_sum (P := Tryd.prog) W sa sc (by omega)
  have hsab : (sa ++ sb).size ≤ 9223372036854775807 := by rw [ByteArray.size_append]; omega
  have hsac : (sa ++ sc).size ≤ 9223372036854775807 := by rw [ByteArray.size_append]; omega
  generalize sa ++ sb = ab at *
  generalize sa ++ sc = ac at *
  have HL1 : Hid (∀ W, Bk 23 W w5.heap.size GA → (load23 (.pointer (some ⟨w5.heap.size, 0, none⟩))).run Tryd.prog W = .ok (.agg GA) W) := fun W h => by
    have h1 := run_load23 W w5.heap.size 0 GA.toList (by rw [Array.length_toList]; exact HGA.out) h.range
    simpa using h1
  have HL2 : Hid (∀ W, Bk 23 W w8.heap.size GB → (load23 (.pointer (some ⟨w8.heap.size, 0, none⟩))).run Tryd.prog W = .ok (.agg GB) W) := fun W h => by
    have h1 := run_load23 W w8.heap.size 0 GB.toList (by rw [Array.length_toList]; exact HGB.out) h.range
    simpa using h1
  have HT9 : Hid (∀ W, Below w9.heap.size w9 W → Tabs W) := fun W h => HT.out.below (q9.trans (h.mono q9.size))
  have hwac : IntKind.i64.wrap ((sa.size : Int) + (sc.size : Int)) = (sa.size : Int) + (sc.size : Int) := IntWalk.i64_in _ (by omega)
  have HBI := Lib.hid (fun W t h => bytes_in W t h)
  have hea := HEA.out
  have heb := HEB.out
  have HSAB := Lib.hid hsab
  have HSAC := Lib.hid hsac
  have hr12 : w8.heap.size < w9.heap.size := E9'.out.lt
  have hr58 : w5.heap.size < w8.heap.size := by have := D8.out.lt; omega
  clear HGA HGB HEA HEB D8 hst6' HL4 HL7 HLA HLB HLC hsab hsac hst9'
  refine wp_region_held_drew (S := fun w' => Bk 23 w' w5.heap.size GA ∧ Bk 23 w' w8.heap.size GB) (by kernel_rfl) ?_ (fun hHeld => ?_)
  · exact ⟨D9.out.below (keep_drew1 w9), E9'.out.below (keep_drew1 w9)⟩
  refine wpAnyH_take (i := 0) (v := .agg GA) rfl (by kernel_rfl) (by kernel_rfl) (by kernel_rfl) (fun _ _ _ h => h) (Or.inl ⟨by kernel_rfl, fun W hSw => by have hl := HL1.out W hSw.1; go_simp⟩) (by assumption) ?_
  simp only [Act.put, List.getElem_toArray, List.getElem_cons_succ, List.getElem_cons_zero, List.setIfInBounds_toArray, List.set_cons_zero, List.set_cons_succ]
  refine wpAnyH_take (i := 1) (v := .string sa) rfl (by kernel_rfl) (by kernel_rfl) (by kernel_rfl) (fun _ _ _ h => h) (Or.inl ⟨by kernel_rfl, fun W hSw => by go_simp⟩) (by assumption) ?_
  simp only [Act.put, List.getElem_toArray, List.getElem_cons_succ, List.getElem_cons_zero, List.setIfInBounds_toArray, List.set_cons_zero, List.set_cons_succ]
  refine wpAnyH_take (i := 2) (v := .string sb) rfl (by kernel_rfl) (by kernel_rfl) (by kernel_rfl) (fun _ _ _ h => h) (Or.inl ⟨by kernel_rfl, fun W hSw => by go_simp⟩) (by assumption) ?_
  simp only [Act.put, List.getElem_toArray, List.getElem_cons_succ, List.getElem_cons_zero, List.setIfInBounds_toArray, List.set_cons_zero, List.set_cons_succ]
  refine wpAnyH_take (i := 3) (v := .string ab) rfl (by kernel_rfl) (by kernel_rfl) (by kernel_rfl) (fun _ _ _ h => h) (Or.inl ⟨by kernel_rfl, fun W hSw => by go_simp⟩) (by assumption) ?_
  simp only [Act.put, List.getElem_toArray, List.getElem_cons_succ, List.getElem_cons_zero, List.setIfInBounds_toArray, List.set_cons_zero, List.set_cons_succ]
  refine wpAnyH_ready (rs := [4]) (by kernel_rfl) (by simp) ?_
  refine AllReadyH.cons rfl (fun K hK => ?_) AllReadyH.nil
  go_simp
  refine hK.out _ _ ?_ (fun hHeld => ?_)
  · exact ⟨D9.out.below (keep_bytes (keep_drew1 w9) ab), E9'.out.below (keep_bytes (keep_drew1 w9) ab)⟩
  clear hK K
  try simp only [Act.put, List.setIfInBounds_toArray, List.set_cons_zero, List.set_cons_succ]
  refine wpAnyH_ready (rs := [5]) (by kernel_rfl) (by simp) ?_
  refine AllReadyH.cons rfl (fun K hK => ?_) AllReadyH.nil
  go_simp
  go_at_call 7
  refine (HQA.out _ _ _ (HT9.out _ (keep_bytes (keep_drew1 w9) ab)) (HBI.out _ _ HSAB.out)).mono ?_
  rintro e wa ⟨rfl, ba⟩
  have BA : Below w9.heap.size w9 wa := keep_call ba (keep_bytes (keep_drew1 w9) ab)
  go_wp2_with fail
  refine hK.out _ _ ?_ (fun hHeld => ?_)
  · exact ⟨D9.out.below (BA), E9'.out.below (BA)⟩
  clear hK K
  try simp only [Act.put, List.setIfInBounds_toArray, List.set_cons_zero, List.set_cons_succ]
  refine wpAnyH_take (i := 6) (v := .bool true) rfl (by kernel_rfl) (by kernel_rfl) (by kernel_rfl) (fun _ _ _ h => h) (Or.inl ⟨by kernel_rfl, fun W hSw => by go_simp⟩) (by assumption) ?_
  simp only [Act.put, List.getElem_toArray, List.getElem_cons_succ, List.getElem_cons_zero, List.setIfInBounds_toArray, List.set_cons_zero, List.set_cons_succ]
  refine wpAnyH_take (i := 7) (v := .bool true) rfl (by kernel_rfl) (by kernel_rfl) (by kernel_rfl) (fun _ _ _ h => h) (Or.inl ⟨by kernel_rfl, fun W hSw => by go_simp⟩) (by assumption) ?_
  simp only [Act.put, List.getElem_toArray, List.getElem_cons_succ, List.getElem_cons_zero, List.setIfInBounds_toArray, List.set_cons_zero, List.set_cons_succ]
  refine wpAnyH_take (i := 8) (v := .agg GB) rfl (by kernel_rfl) (by kernel_rfl) (by kernel_rfl) (fun _ _ _ h => h) (Or.inl ⟨by kernel_rfl, fun W hSw => by have hl := HL2.out W hSw.2; go_simp⟩) (by assumption) ?_
  simp only [Act.put, List.getElem_toArray, List.getElem_cons_succ, List.getElem_cons_zero, List.setIfInBounds_toArray, List.set_cons_zero, List.set_cons_succ]
  refine wpAnyH_take (i := 9) (v := .string sa) rfl (by kernel_rfl) (by kernel_rfl) (by kernel_rfl) (fun _ _ _ h => h) (Or.inl ⟨by kernel_rfl, fun W hSw => by go_simp⟩) (by assumption) ?_
  simp only [Act.put, List.getElem_toArray, List.getElem_cons_succ, List.getElem_cons_zero, List.setIfInBounds_toArray, List.set_cons_zero, List.set_cons_succ]
  refine wpAnyH_take (i := 10) (v := .string sc) rfl (by kernel_rfl) (by kernel_rfl) (by kernel_rfl) (fun _ _ _ h => h) (Or.inl ⟨by kernel_rfl, fun W hSw => by go_simp⟩) (by assumption) ?_
  simp only [Act.put, List.getElem_toArray, List.getElem_cons_succ, List.getElem_cons_zero, List.setIfInBounds_toArray, List.set_cons_zero, List.set_cons_succ]
  refine wpAnyH_take (i := 11) (v := .string ac) rfl (by kernel_rfl) (by kernel_rfl) (by kernel_rfl) (fun _ _ _ h => h) (Or.inl ⟨by kernel_rfl, fun W hSw => by go_simp⟩) (by assumption) ?_
  simp only [Act.put, List.getElem_toArray, List.getElem_cons_succ, List.getElem_cons_zero, List.setIfInBounds_toArray, List.set_cons_zero, List.set_cons_succ]
  refine wpAnyH_ready (rs := [12]) (by kernel_rfl) (by simp) ?_
  refine AllReadyH.cons rfl (fun K hK => ?_) AllReadyH.nil
  go_simp
  refine hK.out _ _ ?_ (fun hHeld => ?_)
  · exact ⟨D9.out.below (keep_bytes BA ac), E9'.out.below (keep_bytes BA ac)⟩
  clear hK K
  try simp only [Act.put, List.setIfInBounds_toArray, List.set_cons_zero, List.set_cons_succ]
  refine wpAnyH_ready (rs := [13]) (by kernel_rfl) (by simp) ?_
  refine AllReadyH.cons rfl (fun K hK => ?_) AllReadyH.nil
  go_simp
  go_at_call 7
  refine (HQB.out _ _ _ (HT9.out _ (keep_bytes BA ac)) (HBI.out _ _ HSAC.out)).mono ?_
  rintro e wb ⟨rfl, bb⟩
  have BB : Below w9.heap.size w9 wb := keep_call bb (keep_bytes BA ac)
  go_wp2_with fail
  refine hK.out _ _ ?_ (fun hHeld => ?_)
  · exact ⟨D9.out.below (BB), E9'.out.below (BB)⟩
  clear hK K
  try simp only [Act.put, List.setIfInBounds_toArray, List.set_cons_zero, List.set_cons_succ]
  refine wpAnyH_take (i := 14) (v := .bool true) rfl (by kernel_rfl) (by kernel_rfl) (by kernel_rfl) (fun _ _ _ h => h) (Or.inl ⟨by kernel_rfl, fun W hSw => by go_simp⟩) (by assumption) ?_
  simp only [Act.put, List.getElem_toArray, List.getElem_cons_succ, List.getElem_cons_zero, List.setIfInBounds_toArray, List.set_cons_zero, List.set_cons_succ]
  refine wpAnyH_take (i := 15) (v := .bool true) rfl (by kernel_rfl) (by kernel_rfl) (by kernel_rfl) (fun _ _ _ h => h) (Or.inl ⟨by kernel_rfl, fun W hSw => by go_simp⟩) (by assumption) ?_
  simp only [Act.put, List.getElem_toArray, List.getElem_cons_succ, List.getElem_cons_zero, List.setIfInBounds_toArray, List.set_cons_zero, List.set_cons_succ]
  refine wpAnyH_take (i := 16) (v := .bool true) rfl (by kernel_rfl) (by kernel_rfl) (by kernel_rfl) (fun _ _ _ h => h) (Or.inl ⟨by kernel_rfl, fun W hSw => by go_simp⟩) (by assumption) ?_
  simp only [Act.put, List.getElem_toArray, List.getElem_cons_succ, List.getElem_cons_zero, List.setIfInBounds_toArray, List.set_cons_zero, List.set_cons_succ]
  refine wpAnyH_take (i := 17) (v := .pointer (some ⟨w.heap.size, 0, none⟩)) rfl (by kernel_rfl) (by kernel_rfl) (by kernel_rfl) (fun _ _ _ h => h) (Or.inl ⟨by kernel_rfl, fun W hSw => by go_simp⟩) (by assumption) ?_
  simp only [Act.put, List.getElem_toArray, List.getElem_cons_succ, List.getElem_cons_zero, List.setIfInBounds_toArray, List.set_cons_zero, List.set_cons_succ]
  refine wpAnyH_take (i := 19) (v := .agg GA) rfl (by kernel_rfl) (by kernel_rfl) (by kernel_rfl) (fun _ _ _ h => h) (Or.inl ⟨by kernel_rfl, fun W hSw => by have hl := HL1.out W hSw.1; go_simp⟩) (by assumption) ?_
  simp only [Act.put, List.getElem_toArray, List.getElem_cons_succ, List.getElem_cons_zero, List.setIfInBounds_toArray, List.set_cons_zero, List.set_cons_succ]
  refine wpAnyH_ready (rs := [18]) (by kernel_rfl) (by simp) ?_
  refine AllReadyH.cons rfl (fun K hK => ?_) AllReadyH.nil
  go_simp
  go_at_call 15
  refine (HQS.out _ (HT9.out _ BB) (S9.out.below BB)).mono ?_
  rintro e ws ⟨rfl, bs⟩
  have BS : Below w9.heap.size w9 ws := keep_call bs BB
  go_wp2_with fail
  refine hK.out _ _ ?_ (fun hHeld => ?_)
  · exact ⟨D9.out.below (BS), E9'.out.below (BS)⟩
  clear hK K
  try simp only [Act.put, List.setIfInBounds_toArray, List.set_cons_zero, List.set_cons_succ]
  refine wpAnyH_take (i := 20) (v := .bool true) rfl (by kernel_rfl) (by kernel_rfl) (by kernel_rfl) (fun _ _ _ h => h) (Or.inl ⟨by kernel_rfl, fun W hSw => by go_simp⟩) (by assumption) ?_
  simp only [Act.put, List.getElem_toArray, List.getElem_cons_succ, List.getElem_cons_zero, List.setIfInBounds_toArray, List.set_cons_zero, List.set_cons_succ]
  refine wpAnyH_take (i := 21) (v := .bool true) rfl (by kernel_rfl) (by kernel_rfl) (by kernel_rfl) (fun _ _ _ h => h) (Or.inl ⟨by kernel_rfl, fun W hSw => by go_simp⟩) (by assumption) ?_
  simp only [Act.put, List.getElem_toArray, List.getElem_cons_succ, List.getElem_cons_zero, List.setIfInBounds_toArray, List.set_cons_zero, List.set_cons_succ]
  refine wpAnyH_take (i := 22) (v := .bool true) rfl (by kernel_rfl) (by kernel_rfl) (by kernel_rfl) (fun _ _ _ h => h) (Or.inl ⟨by kernel_rfl, fun W hSw => by go_simp⟩) (by assumption) ?_
  simp only [Act.put, List.getElem_toArray, List.getElem_cons_succ, List.getElem_cons_zero, List.setIfInBounds_toArray, List.set_cons_zero, List.set_cons_succ]
  refine wpAnyH_take (i := 23) (v := .pointer (some ⟨w2.heap.size, 0, none⟩)) rfl (by kernel_rfl) (by kernel_rfl) (by kernel_rfl) (fun _ _ _ h => h) (Or.inl ⟨by kernel_rfl, fun W hSw => by go_simp⟩) (by assumption) ?_
  simp only [Act.put, List.getElem_toArray, List.getElem_cons_succ, List.getElem_cons_zero, List.setIfInBounds_toArray, List.set_cons_zero, List.set_cons_succ]
  refine wpAnyH_take (i := 25) (v := .string sa) rfl (by kernel_rfl) (by kernel_rfl) (by kernel_rfl) (fun _ _ _ h => h) (Or.inl ⟨by kernel_rfl, fun W hSw => by go_simp⟩) (by assumption) ?_
  simp only [Act.put, List.getElem_toArray, List.getElem_cons_succ, List.getElem_cons_zero, List.setIfInBounds_toArray, List.set_cons_zero, List.set_cons_succ]
  refine wpAnyH_take (i := 26) (v := .int .i64 (sa.size : Int)) rfl (by kernel_rfl) (by kernel_rfl) (by kernel_rfl) (fun _ _ _ h => h) (Or.inl ⟨by kernel_rfl, fun W hSw => by go_simp⟩) (by assumption) ?_
  simp only [Act.put, List.getElem_toArray, List.getElem_cons_succ, List.getElem_cons_zero, List.setIfInBounds_toArray, List.set_cons_zero, List.set_cons_succ]
  refine wpAnyH_take (i := 27) (v := .string sc) rfl (by kernel_rfl) (by kernel_rfl) (by kernel_rfl) (fun _ _ _ h => h) (Or.inl ⟨by kernel_rfl, fun W hSw => by go_simp⟩) (by assumption) ?_
  simp only [Act.put, List.getElem_toArray, List.getElem_cons_succ, List.getElem_cons_zero, List.setIfInBounds_toArray, List.set_cons_zero, List.set_cons_succ]
  refine wpAnyH_take (i := 28) (v := .int .i64 (sc.size : Int)) rfl (by kernel_rfl) (by kernel_rfl) (by kernel_rfl) (fun _ _ _ h => h) (Or.inl ⟨by kernel_rfl, fun W hSw => by go_simp⟩) (by assumption) ?_
  simp only [Act.put, List.getElem_toArray, List.getElem_cons_succ, List.getElem_cons_zero, List.setIfInBounds_toArray, List.set_cons_zero, List.set_cons_succ]
  refine wpAnyH_take (i := 29) (v := .int .i64 ((sa.size : Int) + (sc.size : Int))) rfl (by kernel_rfl) (by kernel_rfl) (by kernel_rfl) (fun _ _ _ h => h) (Or.inl ⟨by kernel_rfl, fun W hSw => by go_simp⟩) (by assumption) ?_
  simp only [Act.put, List.getElem_toArray, List.getElem_cons_succ, List.getElem_cons_zero, List.setIfInBounds_toArray, List.set_cons_zero, List.set_cons_succ]
  refine wpAnyH_ready (rs := [24]) (by kernel_rfl) (by simp) ?_
  refine AllReadyH.cons rfl (fun K hK => ?_) AllReadyH.nil
  go_simp
  go_at_call 14
  refine (HQW.out _ (HT9.out _ BS) (P9.out.below BS)).mono ?_
  rintro e ww ⟨rfl, gw⟩
  go_wp2_with fail
  refine hK.out _ _ ?_ (fun hHeld => ?_)
  · exact ⟨(D9.out.below BS).other gw (by omega), (E9'.out.below BS).other gw (by omega)⟩
  clear hK K
  try simp only [Act.put, List.setIfInBounds_toArray, List.set_cons_zero, List.set_cons_succ]
  refine wpAnyH_take (i := 30) (v := .bool true) rfl (by kernel_rfl) (by kernel_rfl) (by kernel_rfl) (fun _ _ _ h => h) (Or.inl ⟨by kernel_rfl, fun W hSw => by go_simp⟩) (by assumption) ?_
  simp only [Act.put, List.getElem_toArray, List.getElem_cons_succ, List.getElem_cons_zero, List.setIfInBounds_toArray, List.set_cons_zero, List.set_cons_succ]
  refine wpAnyH_take (i := 31) (v := .bool true) rfl (by kernel_rfl) (by kernel_rfl) (by kernel_rfl) (fun _ _ _ h => h) (Or.inl ⟨by kernel_rfl, fun W hSw => by go_simp⟩) (by assumption) ?_
  simp only [Act.put, List.getElem_toArray, List.getElem_cons_succ, List.getElem_cons_zero, List.setIfInBounds_toArray, List.set_cons_zero, List.set_cons_succ]
  refine wpAnyH_take (i := 32) (v := .bool true) rfl (by kernel_rfl) (by kernel_rfl) (by kernel_rfl) (fun _ _ _ h => h) (Or.inl ⟨by kernel_rfl, fun W hSw => by go_simp⟩) (by assumption) ?_
  simp only [Act.put, List.getElem_toArray, List.getElem_cons_succ, List.getElem_cons_zero, List.setIfInBounds_toArray, List.set_cons_zero, List.set_cons_succ]
  refine wpAnyH_done (by kernel_rfl) ?_ _
  have qs : Below w.heap.size w ws := q9.trans (BS.mono q9.size)
  have qF : Below w.heap.size w ww := qs.grown gw qs.size (fun j hj => by injection hj with hj; omega)
  clear HL1 HL2 HT9 HBI hea heb kb hadd1 hadd2 HQA HQB HQS HQW D9 E9' HSAB HSAC
  go_wp2
  go_ret
  exact ⟨by first | rfl | simp, qF⟩

theorem walk {w : World} (sa : ByteArray) (ha : sa.size ≤ 140737488351232) (sb : ByteArray) (hb : sb.size ≤ 140737488351232) (sc : ByteArray) (hc : sc.size ≤ 140737488351232) (T : Tabs w) :
    Calls Tryd.prog 6 #[.string sa, .string sb, .string sc] w fun e w' => e = .returned (.bool true) ∧ Below w.heap.size w w' := good sa sb sc w T ha hb hc
end Go.Proofs.YtikoahjnhdnhdaaDoor.hashForks
