/- THE WALK of 'scruplelaw08.CodeBack': it returns true for all instructions, over a world that holds the operations' table. -/
import Derived.Test.YthpfndbhibbkmaaDoorBackLaw
import Derived.Test.YthpfndbhibbkmaaDoorOne
namespace Go.Proofs.YthpfndbhibbkmaaDoor.codeBack
open Go.ChangeShapes Go.WideShapes Go.ChangeAt Go.RowKit Go.Proofs.YthpfndbhibbkmaaDoorW.PrintWords Go.Proofs.YthpfndbhibbkmaaDoor Go.Proofs.YthpfndbhibbkmaaDoor.codeOne
set_option linter.unusedVariables false
set_option linter.unusedSimpArgs false

theorem enc_mem (k A : Int) (h : putOk k A = true) : ∀ x ∈ encB k.toNat A, 0 ≤ x ∧ x ≤ 255 := by
  unfold putOk at h
  simp only [Bool.and_eq_true, decide_eq_true_eq] at h
  have hA2 : A ≤ 3999 := by
    have h4 := h.2
    unfold mostT at h4
    repeat (first | omega | split at h4)
  unfold encB
  rcases width_012 (numT k.toNat 0) with e | e | e
  · rw [e]
    intro x hx
    simp [tailB] at hx
    omega
  · rw [e]
    intro x hx
    simp [tailB] at hx
    rcases hx with rfl | rfl <;> omega
  · rw [e]
    intro x hx
    simp [tailB] at hx
    rcases hx with rfl | rfl | rfl <;> omega
theorem enc_byte {L : Nat → Int × Int} {n : Nat} (h : allOk L n = true) (i : Nat) : 0 ≤ (encTo L n).getD i 0 ∧ (encTo L n).getD i 0 ≤ 255 := by
  rw [List.getD_eq_getElem?_getD]
  cases e : (encTo L n)[i]? with
  | none => simp
  | some x =>
    have hm := List.mem_of_getElem? e
    unfold encTo at hm
    rw [List.mem_flatMap] at hm
    obtain ⟨j, hj, hx⟩ := hm
    exact enc_mem _ _ (allOk_iff.1 h j (List.mem_range.1 hj)) x hx
theorem enc_bound (L : Nat → Int × Int) (n : Nat) : (encTo L n).length ≤ 3 * n := by
  induction n with
  | zero => simp [encTo]
  | succ n ih =>
    rw [encTo_succ, List.length_append]
    have := encB_len (L n).1.toNat (L n).2
    omega
theorem insF_range (L : Nat → Int × Int) {n i : Nat} (h : i < n) : insF ((List.range n).map L) i = L i := by
  unfold insF
  simp [List.getD_eq_getElem?_getD, h]

set_option maxRecDepth 100000 in
set_option maxHeartbeats 2000000 in
theorem good_ok (a : Option Addr) (n c : Nat) (L : Nat → Int × Int) (w : World) (T : Tabs w) (R : RdIns w a n L) (hn : n * 16 ≤ 140737488351232) (hall : allOk L n = true) :
    Calls Tryd.prog 9 #[.slice a n c] w fun e w' => e = .returned (.bool true) ∧ Below w.heap.size w w' := by
  have hbl : bytesL L n = encTo L n := by unfold bytesL; rw [hall]; rfl
  have hfe := firstE_ok hall
  have hb3 := enc_bound L n
  obtain ⟨N, hN⟩ : ∃ N, (encTo L n).length = N := ⟨_, rfl⟩
  have h25 := Bytes_any a n c L w T R (by omega) (fun k hk _ => by have := enc_bound L k; omega) N (by show _ = _; rw [hbl]; exact hN)
  rw [hfe, hbl] at h25
  have H25 := Lib.hid h25
  have HR := Lib.hid R
  have HA := Lib.hid hall
  have HLL := Lib.hid (list_laid hall)
  clear h25 R hbl hfe
  go_enter Tryd.func9, Tryd.ntmps9
  go_wp2_with fail
  refine H25.out.mono ?_
  rintro e w1 ⟨ap, cp, rfl, OB⟩
  have hs1 := OB.below.size
  have ho := OB.own
  rw [hN] at ho
  have BB : BytesIn w1 ap N N (encTo L n) := by
    obtain ⟨a', c', he, hcp, hnil⟩ := own_cap ho
    injection he with e1 e2 e3
    subst e1
    exact ⟨⟨own_reads' ho, by omega, fun h => by have := hnil h; omega, Nat.le_refl _⟩, enc_byte HA.out⟩
  have HBB := Lib.hid BB
  have q1 := OB.below
  have HP := Lib.hid (shown_any w1 (T.below q1))
  clear OB ho BB H25
  go_wp2_with fail
  refine HP.out.mono ?_
  rintro e w2 ⟨rfl, hb2⟩
  have q2 := q1.trans (hb2.mono hs1)
  have HBB2 := Lib.hid (HBB.out.under hb2)
  have h28 := List_any ap N N (encTo L n) w2 (T.below q2) HBB2.out 8796093022000 (by omega) (.inr (by rw [HLL.out]; exact ⟨rfl, by simp; omega⟩)) _ _ _ _ n HLL.out (by simp)
  have H28 := Lib.hid h28
  clear h28 HP hb2 HBB
  go_wp2_with fail
  refine H28.out.mono ?_
  rintro e w3 ⟨a1, c1, a2, c2, rfl, LI⟩
  have q3 := q2.trans (LI.below.mono q2.size)
  have RM := Lib.hid (own_rd LI.ins (by simp))
  have RP := Lib.hid (own_reads' LI.places)
  have HBB3 := Lib.hid (HBB2.out.under LI.below)
  clear LI H28 HBB2
  go_wp2_with fail
  go_loopw [13, 14] (fun at_ i wr => ∃ k : Nat, k ≤ n ∧ i = .int .i64 k ∧ at_ = .int .i64 (placeL L k : Int) ∧ Below w3.heap.size w3 wr) (fun _ i _ => n - (intOf i).toNat)
  case atStart => exact ⟨0, by omega, rfl, rfl, Below.refl _ _⟩
  case round =>
    obtain ⟨k, hk, rfl, rfl, hB⟩ := hrel
    have hbs := hB.size
    by_cases hlt : k < n
    · obtain ⟨b, o, rfl, hbw, hcell⟩ := ((HR.out.below q3).below hB) (by omega)
      obtain ⟨l0, l1⟩ := hcell k hlt
      obtain ⟨b1, o1, rfl, hbw1, hcell1⟩ := (RM.out.below hB) (by omega)
      obtain ⟨m0, m1⟩ := hcell1 k hlt
      rw [insF_range L hlt] at m0 m1
      obtain ⟨ad2, rfl, hcell2⟩ := (RP.out.below hB).2.2 (by omega)
      obtain ⟨b2, o2, rfl⟩ : ∃ b o, ad2 = ⟨b, o, none⟩ := by
        obtain ⟨b, o, sp⟩ := ad2
        have := World.cell?_spot (hcell2 0 (by omega))
        have hs : sp = none := by simpa [Addr.add] using this
        subst hs
        exact ⟨b, o, rfl⟩
      have p0 := hcell2 k hlt
      rw [Go.WideShapes.add_plain] at p0
      have e2 : ((List.range n).map (fun i => (placeL L i : Int))).getD k 0 = placeL L k := by simp [List.getD_eq_getElem?_getD, hlt]
      rw [e2] at p0
      have hbw2 : b2 < wr.heap.size := World.block_lt_of_cell? wr _ p0
      have h23 := take_any ap N N (placeL L k) (encTo L n) wr (T.below (q3.trans (hB.mono q3.size))) (HBB3.out.under hB)
      rw [take_at hlt (allOk_iff.1 HA.out k hlt)] at h23
      unfold takeV at h23
      simp only at h23
      have hps := place_succ L k
      have hpp := encB_pos (L k).1.toNat (L k).2
      have hpb := place_lt (L := L) hlt
      have hnx : placeL L k < placeL L (k + 1) := by omega
      have hd1 : decide (placeL L (k + 1) ≤ placeL L k) = false := decide_eq_false (by omega)
      clear hcell hcell1 hcell2 e2 hps hpp
      generalize hpk : placeL L k = pk at *
      generalize hpk1 : placeL L (k + 1) = pk1 at *
      generalize (L k).1 = op at *
      generalize (L k).2 = A at *
      have HPK1 := Lib.hid hpk1
      have H23 := Lib.hid h23
      clear h23 hpk hpk1
      go_wp2_with fail
      refine H23.out.mono ?_
      rintro e w4 ⟨rfl, hb4⟩
      have hs4 := hb4.size
      obtain ⟨gc, gf⟩ := bcell hb4
      have hbv : b < w4.heap.size := by omega
      have hbv1 : b1 < w4.heap.size := by omega
      have hbv2 : b2 < w4.heap.size := by omega
      have l0' : (w4.alloc (.cells #[.int .i64 op, .int .i64 A] 41)).cell? ⟨b, o + k * 2, none⟩ = some (.int .i64 op) := by rw [← l0, ← gc _ _ hbw]; go_simp
      have l1' : (w4.alloc (.cells #[.int .i64 op, .int .i64 A] 41)).cell? ⟨b, o + k * 2 + 1, none⟩ = some (.int .i64 A) := by rw [← l1, ← gc _ _ hbw]; go_simp
      have m0' : (w4.alloc (.cells #[.int .i64 op, .int .i64 A] 41)).cell? ⟨b1, o1 + k * 2, none⟩ = some (.int .i64 op) := by rw [← m0, ← gc _ _ hbw1]; go_simp
      have m1' : (w4.alloc (.cells #[.int .i64 op, .int .i64 A] 41)).cell? ⟨b1, o1 + k * 2 + 1, none⟩ = some (.int .i64 A) := by rw [← m1, ← gc _ _ hbw1]; go_simp
      have p0' : (w4.alloc (.cells #[.int .i64 op, .int .i64 A] 41)).cell? ⟨b2, o2 + k, none⟩ = some (.int .i64 pk) := by rw [← p0, ← gc _ _ hbw2]; go_simp
      have q4 : Below w3.heap.size w3 (w4.alloc (.cells #[.int .i64 op, .int .i64 A] 41)) := (hB.trans (hb4.mono hbs)).alloc (by omega) _
      clear gc gf l0 l1 m0 m1 p0 hb4 H23
      go_wp2_with fail
      go_quiet (fail)
      go_wp2
      go_roundw
      case rel => exact ⟨k + 1, by omega, by go_num, by rw [HPK1.out], ⟨q4.os, q4.tape, q4.output, q4.size, q4.block⟩⟩
      case measure => simp [intOf]; omega
    · obtain rfl : k = n := by omega
      have hpe : ((placeL L k : Int) == (N : Int)) = true := by rw [beq_iff_eq]; unfold placeL; omega
      go_wp2_with fail
      go_ret
      exact ⟨rfl, q3.trans (hB.mono q3.size)⟩

set_option maxRecDepth 100000 in
set_option maxHeartbeats 2000000 in
theorem good_bad (a : Option Addr) (n c : Nat) (L : Nat → Int × Int) (w : World) (T : Tabs w) (R : RdIns w a n L) (hn : n * 16 ≤ 140737488351232) (j : Nat) (hj : j < n) (hall : allOk L j = true) (hbad : putOk (L j).1 (L j).2 = false) :
    Calls Tryd.prog 9 #[.slice a n c] w fun e w' => e = .returned (.bool true) ∧ Below w.heap.size w w' := by
  have hno := allOk_no hj hbad
  have hbl : bytesL L n = [] := by unfold bytesL; rw [hno]; rfl
  have hfe := firstE_at hj hall hbad
  have hpe := putE_bad hbad
  have h25 := Bytes_any a n c L w T R (by omega) (fun k hk _ => by have := enc_bound L k; omega) 0 (by show _ = _; rw [hbl]; rfl)
  rw [hfe] at h25
  have hpj : putL [] (L j).1 (L j).2 = [] := by unfold putL; rw [hbad]; rfl
  have HJ : Hid (∀ w' : World, Tabs w' → Calls Tryd.prog 17 #[.slice none 0 0, .agg #[.int .i64 (L j).1, .int .i64 (L j).2]] w' fun e w'' => ∃ a' c', e = .returned (.tuple #[.slice a' 0 0, .int .i64 (putE (L j).1 (L j).2)]) ∧ OwnedS w'.heap.size w' w'' a' c' []) := by
    intro w' T'
    have := Put_any (L j).1 (L j).2 none 0 0 [] w' T' (bytes_none w') 0 (by rw [hpj]; rfl)
    rw [hpj] at this
    exact this
  have HK : Hid (∀ k, k < j → ∀ w' : World, Tabs w' → Calls Tryd.prog 17 #[.slice none 0 0, .agg #[.int .i64 (L k).1, .int .i64 (L k).2]] w' fun e w'' => ∃ a' c' M, e = .returned (.tuple #[.slice a' M M, .int .i64 0]) ∧ OwnedS w'.heap.size w' w'' a' c' (putL [] (L k).1 (L k).2)) := by
    intro k hk w' T'
    have hok := allOk_iff.1 hall k hk
    have hz : putE (L k).1 (L k).2 = 0 := by
      unfold putE
      rw [if_neg (by unfold putOk at hok; simp only [Bool.and_eq_true, decide_eq_true_eq] at hok; omega), if_pos hok]
    refine (Put_any (L k).1 (L k).2 none 0 0 [] w' T' (bytes_none w') _ rfl).mono ?_
    rintro e w'' ⟨a', c', he, hO⟩
    rw [hz] at he
    exact ⟨a', c', _, he, hO⟩
  generalize putE (L j).1 (L j).2 = er at *
  have hne : (er == 0) = false := by rcases hpe with rfl | rfl <;> rfl
  have hne2 : (er != 0) = true := by simp [bne, hne]
  have H25 := Lib.hid h25
  have HR := Lib.hid R
  clear h25 R hbl hfe hno hpj hpe hbad hall
  go_enter Tryd.func9, Tryd.ntmps9
  go_wp2_with fail
  refine H25.out.mono ?_
  rintro e w1 ⟨ap, cp, rfl, OB⟩
  have q1 := OB.below
  have HP := Lib.hid (shown_any w1 (T.below q1))
  clear OB H25
  go_wp2_with fail
  refine HP.out.mono ?_
  rintro e w2 ⟨rfl, hb2⟩
  have q2 := q1.trans (hb2.mono q1.size)
  clear HP hb2
  go_wp2_with fail
  go_loopw [6] (fun i wr => ∃ k : Nat, k ≤ j ∧ i = .int .i64 k ∧ Below w.heap.size w wr) (fun i _ => n - (intOf i).toNat)
  case atStart => exact ⟨0, by omega, rfl, q2⟩
  case round =>
    obtain ⟨k, hk, rfl, hB⟩ := hrel
    have hlt : k < n := by omega
    have hbs := hB.size
    obtain ⟨b, o, rfl, hbw, hcell⟩ := (HR.out.below hB) (by omega)
    obtain ⟨l0, l1⟩ := hcell k hlt
    clear hcell
    by_cases hkj : k < j
    · have h17 := HK.out k hkj wr (T.below hB)
      generalize (L k).1 = op at *
      generalize (L k).2 = A at *
      have H17 := Lib.hid h17
      clear h17
      go_wp2_with fail
      refine H17.out.mono ?_
      rintro e w4 ⟨a', c', M, rfl, hO⟩
      have q4 := hB.trans (hO.below.mono hbs)
      clear hO H17
      go_wp2_with fail
      go_roundw
      case rel => exact ⟨k + 1, by omega, by go_num, q4⟩
      case measure => simp [intOf]; omega
    · obtain rfl : k = j := by omega
      have h17 := HJ.out wr (T.below hB)
      generalize (L k).1 = op at *
      generalize (L k).2 = A at *
      have H17 := Lib.hid h17
      clear h17
      go_wp2_with fail
      refine H17.out.mono ?_
      rintro e w4 ⟨a', c', rfl, hO⟩
      have q4 := hB.trans (hO.below.mono hbs)
      clear hO H17
      go_wp2_with fail
      go_ret
      exact ⟨by simp, q4⟩

theorem walk {w : World} (a : Option Addr) (len cap b off : Nat) (L : Nat → Int × Int) (h : InsIn w a len cap b off L) (_ : True) (hm : len * 16 ≤ 140737488351232) (T : Tabs w) :
    Calls Tryd.prog 9 #[.slice a len cap] w fun e w' => e = .returned (.bool true) ∧ Below w.heap.size w w' := by
  cases hall : allOk L len with
  | true => exact good_ok a len cap L w T h.rd hm hall
  | false =>
    have hex : ∃ j, j < len ∧ allOk L j = true ∧ putOk (L j).1 (L j).2 = false := by
      clear h hm
      induction len with
      | zero => cases hall
      | succ len ih =>
        cases h2 : allOk L len with
        | true =>
          rw [allOk_succ, h2] at hall
          exact ⟨len, by omega, h2, by simpa using hall⟩
        | false =>
          obtain ⟨j, h3, h4⟩ := ih h2
          exact ⟨j, by omega, h4⟩
    obtain ⟨j, h3, h4, h5⟩ := hex
    exact good_bad a len cap L w T h.rd hm j h3 h4 h5
end Go.Proofs.YthpfndbhibbkmaaDoor.codeBack
