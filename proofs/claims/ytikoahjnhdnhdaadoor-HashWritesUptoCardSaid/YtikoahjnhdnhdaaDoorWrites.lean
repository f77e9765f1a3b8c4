/- THE WALK of 'scruplelaw02.HashWrites': it returns true, over a world that holds the table of the rounds. -/
import Derived.Test.YtikoahjnhdnhdaaDoorDid
import Derived.Test.YtikoahjnhdnhdaaDoorOpenP
namespace Go.Proofs.YtikoahjnhdnhdaaDoor
open Go.ChangeShapes Go.WideShapes Go.ChangeAt Go.RowKit Go.Proofs.YtikoahjnhdnhdaaDoorW.PrintWords Go.Deep
set_option linter.unusedVariables false
set_option linter.unusedSimpArgs false

theorem wf_i64 {n : Int} (h : (Lit.int .i64 n).wf = true) : -9223372036854775808 ≤ n ∧ n ≤ 9223372036854775807 := by
  simp [Lit.wf, IntKind.min, IntKind.max, IntKind.signed, IntKind.bits] at h
  omega
/-- The first book. -/
theorem Books.one {w : World} {base g : Nat} (S : Hs w g []) (hge : base ≤ g) :
    Books (w.alloc (.cells #[.pointer (some ⟨g, 0, none⟩), .string ⟨#[]⟩] 41)) base w.heap.size 1 1 0 (fun _ => (g, ⟨#[]⟩)) := by
  have hl := S.lt
  have q : Below w.heap.size w (w.alloc (.cells #[.pointer (some ⟨g, 0, none⟩), .string ⟨#[]⟩] 41)) := (Below.refl _ _).alloc (Nat.le_refl _) _
  refine ⟨Nat.le_refl _, ⟨rfl, .inr ⟨w.heap.size, 1, _, rfl, by omega, heap_alloc_new w _, Nat.le_refl _, by simp [maxLen], rfl, rfl⟩⟩, fun i hi => S.below q, fun i j hi hj h => absurd (show i = j by omega) h, fun i hi => hge, fun i hi => Nat.le_refl _⟩
/-- A Write of nothing. -/
theorem Books.again {w w1 : World} {base gr N c M : Nat} {L : Nat → Nat × ByteArray} (B : Books w base gr N c M L) (i : Nat) (hi : i < N) (hg : w.grownBy w1 (some (L i).1)) (hs : Hs w1 (L i).1 (bytesOf (L i).2)) : Books w1 base gr N c M L :=
  ⟨B.pos, own_other B.row hg (.inr (fun e => B.ne i hi (by simp [Value.ownBlock] at e; exact e.symm))), fun j hj => if h : j = i then h ▸ hs else (B.st j hj).other hg (B.apart j i hj hi h), B.apart, B.ge, B.size⟩
end Go.Proofs.YtikoahjnhdnhdaaDoor
namespace Go.Proofs.YtikoahjnhdnhdaaDoor.hashWrites
open Go.ChangeShapes Go.WideShapes Go.ChangeAt Go.RowKit Go.Proofs.YtikoahjnhdnhdaaDoorW.PrintWords Go.Deep Go.Proofs.YtikoahjnhdnhdaaDoor
set_option linter.unusedVariables false
set_option linter.unusedSimpArgs false

set_option maxRecDepth 100000 in
set_option maxHeartbeats 4000000 in
theorem good (a : Option Addr) (len cap b o : Nat) (L : Nat → Int × Int × ByteArray) (w : World) (T : Tabs w) (I : OpsIn w a len b o L) (hm : len ≤ 1048576) :
    Calls Tryd.prog 5 #[.slice a len cap] w fun e w' => e = .returned (.bool true) ∧ Below w.heap.size w w' := by
  have hp := T.lt
  have HT := Lib.hid T
  have HI := Lib.hid I
  clear T I
  go_enter Tryd.func5, Tryd.ntmps5
  go_wp2_with fail
  refine (new_any w).mono ?_
  rintro e w1 ⟨rfl, S1, q1, hs1⟩
  have HS1 := Lib.hid S1
  have l1 : w.heap.size < w1.heap.size := S1.lt
  clear S1 hs1
  go_wp2_with fail
  refine (none_any w1).mono ?_
  rintro e w2 ⟨rfl, b2⟩
  have q2 : Below w.heap.size w w2 := q1.trans (b2.mono q1.size)
  have HS2 := Lib.hid (HS1.out.below b2)
  clear b2 HS1
  go_wp2_with fail
  refine (sum_any [] w.heap.size w2 (HT.out.below q2) HS2.out hp (by simp)).mono ?_
  rintro e w3 ⟨rfl, b3⟩
  have q3 : Below w.heap.size w w3 := q2.trans (b3.mono q2.size)
  have HS3 := Lib.hid (HS2.out.below b3)
  have heq := fun W => eq23 (shaF []) (shaF_length _) W
  have H8 := Lib.hid (rsum_any [] none 0 0 w3 (In.nil w3) (by omega))
  generalize (nums .u8 (shaF [])).toArray = GZ at *
  clear b3 HS2
  go_wp2_with fail
  refine H8.out.mono ?_
  rintro e w4 ⟨rfl, b4⟩
  have q4 : Below w.heap.size w w4 := q3.trans (b4.mono q3.size)
  have HS4 := Lib.hid (HS3.out.below b4)
  have q5 : Hid (Below w.heap.size w (w4.alloc (.cells #[.pointer (some ⟨w.heap.size, 0, none⟩), .string ⟨#[]⟩] 41))) := q4.alloc q4.size _
  have HB5 := Lib.hid (Books.one HS4.out (Nat.le_refl w.heap.size))
  clear b4 HS3 H8
  go_wp2_with fail
  clear heq
  go_loopw [5, 6] (fun l v wr => ∃ (j gr N c : Nat) (B : Nat → Nat × ByteArray), j ≤ len ∧ N ≤ j + 1 ∧ l = .slice (some ⟨gr, 0, none⟩) N c ∧ v = .int .i64 j ∧ Hid (Books wr w.heap.size gr N c (j * 1048576) B) ∧ Hid (Below w.heap.size w wr)) (fun _ v _ => len - (intOf v).toNat)
  case atStart => exact ⟨0, _, 1, 1, _, by omega, by omega, rfl, rfl, HB5, q5⟩
  case round =>
    clear HB5 q5
    obtain ⟨j, gr, N, c, B, hj, hN, rfl, rfl, HB, hB⟩ := hrel
    by_cases hlt : j < len
    · obtain ⟨ha, hbw⟩ := HI.out.place (by omega)
      subst ha
      have HJ := HI.out.below hB.out
      have c0 := HJ.kind j hlt
      have c1 := HJ.which j hlt
      have c2 := HJ.text j hlt
      have hs := HJ.size j hlt
      obtain ⟨w0, w1'⟩ := HJ.wf j hlt
      have hk := wf_i64 w0
      have hh := wf_i64 w1'
      have hj1 : j * 1048576 + 1048576 = (j + 1) * 1048576 := by omega
      have H17 := Lib.hid (did_any (L j).1 (L j).2.1 (L j).2.2 wr w.heap.size gr N c (j * 1048576) B (HT.out.below hB.out) HB.out hp hk hh hs (by omega) (by omega))
      clear HJ w0 w1' hk hh HB
      generalize (L j).1 = kk at *
      generalize (L j).2.1 = hh at *
      generalize (L j).2.2 = ss at *
      go_wp2_with fail
      refine H17.out.mono ?_
      rintro e w6 ⟨⟨gr', N', c', B', rfl, hN', HB'⟩, b6⟩
      have HB6 : Hid (Books w6 w.heap.size gr' N' c' ((j + 1) * 1048576) B') := HB'.more (by omega)
      have q6 : Hid (Below w.heap.size w w6) := hB.out.trans b6
      clear HB' b6 H17 c0 c1 c2
      go_wp2_with fail
      go_roundw
      case rel => exact ⟨j + 1, gr', N', c', B', by omega, by omega, rfl, by go_num, HB6, q6⟩
      case measure => simp [intOf]; omega
    · have hN2 : (N : Int) ≤ 1048577 := by omega
      have HB1 : Hid (Books wr w.heap.size gr N c 1099511627776 B) := HB.out.more (by omega)
      clear HI HB
      go_wp2_with fail
      clear HS4 l1 q1 q2 q3 q4
      go_loopw [9] (fun v wr => ∃ i : Nat, i ≤ N ∧ v = .int .i64 i ∧ Hid (Books wr w.heap.size gr N c 1099511627776 B) ∧ Hid (Below w.heap.size w wr)) (fun v _ => N - (intOf v).toNat)
      case atStart => exact ⟨0, by omega, rfl, HB1, hB⟩
      case round =>
        clear HB1 hB
        obtain ⟨i, hi, rfl, HB2, hB2⟩ := hrel
        by_cases hlt2 : i < N
        · have kb := fun (t : ByteArray) (W : World) => print_bytes (P := Tryd.prog) 9 25 5 Tryd.underlying9 Tryd.underlying25 Tryd.underlying5 t W
          have hiN : (i : Int) < (N : Int) := by omega
          have hsL := HB2.out.size i hlt2
          have hgp : 0 < (B i).1 := Nat.lt_of_lt_of_le hp (HB2.out.ge i hlt2)
          have hbl := bytesOf_length (B i).2
          have TW := Lib.hid (HT.out.below hB2.out)
          have HQS : Hid (∀ W', Below wr.heap.size wr W' → Calls Tryd.prog 15 #[.pointer (some ⟨(B i).1, 0, none⟩)] W' fun e w' => e = .returned (.agg (nums .u8 (shaF (bytesOf (B i).2))).toArray) ∧ Below W'.heap.size W' w') := fun W' hb' => sum_any _ _ W' (TW.out.below hb') ((HB2.out.below hb').st i hlt2) hgp (by omega)
          have HQR : Hid (∀ W' A c', In W' A (B i).2.size c' (bytesOf (B i).2) → Calls Tryd.prog 8 #[.slice A (B i).2.size c'] W' fun e w' => e = .returned (.agg (nums .u8 (shaF (bytesOf (B i).2))).toArray) ∧ Below W'.heap.size W' w') := fun W' A c' hin => rsum_any _ A _ c' W' hin (by omega)
          have HQW : Hid (∀ W', Below wr.heap.size wr W' → Calls Tryd.prog 14 #[.pointer (some ⟨(B i).1, 0, none⟩), .slice none 0 0] W' fun e w' => e = .returned (.int .i64 ((B i).2.size : Int)) ∧ W'.grownBy w' (some (B i).1) ∧ Hs w' (B i).1 (bytesOf (B i).2)) := fun W' hb' => by
            have h1 := write_any (bytesOf (B i).2) [] (B i).1 none 0 0 W' (TW.out.below hb') ((HB2.out.below hb').st i hlt2) hgp ((In.nil W').src (fun ad he => by cases he)) (Nat.le_refl _) (by omega)
            rw [hbl, List.append_nil, Nat.add_zero] at h1
            exact h1.mono fun e w' ⟨h2, h3, h4⟩ => ⟨h2, h4, h3⟩
          have HEQ := Lib.hid (fun W => eq23 (shaF (bytesOf (B i).2)) (shaF_length _) W)
          have heq := HEQ.out
          have HBI := Lib.hid (fun W => bytes_in W (B i).2 (by omega))
          have hts : (B i).2.size ≤ 9223372036854775807 := by omega
          generalize (nums .u8 (shaF (bytesOf (B i).2))).toArray = GA at *
          clear hbl
          go_wp2_with fail
          refine wp_region_held_drew (S := fun w' => Books w' w.heap.size gr N c 1099511627776 B) (by kernel_rfl) ?_ (fun hHeld => ?_)
          · exact HB2.out.below (keep_drew1 wr)
          refine wpAnyH_take (i := 0) (v := .slice (some ⟨gr, 0, none⟩) N c) rfl (by kernel_rfl) (by kernel_rfl) (by kernel_rfl) (fun _ _ _ h => h) (Or.inl ⟨by kernel_rfl, fun W2 hSw => by go_simp⟩) (by assumption) ?_
          simp only [Act.put, List.getElem_toArray, List.getElem_cons_succ, List.getElem_cons_zero, List.setIfInBounds_toArray, List.set_cons_zero, List.set_cons_succ]
          refine wpAnyH_take (i := 1) (v := .int .i64 (i : Int)) rfl (by kernel_rfl) (by kernel_rfl) (by kernel_rfl) (fun _ _ _ h => h) (Or.inl ⟨by kernel_rfl, fun W2 hSw => by go_simp⟩) (by assumption) ?_
          simp only [Act.put, List.getElem_toArray, List.getElem_cons_succ, List.getElem_cons_zero, List.setIfInBounds_toArray, List.set_cons_zero, List.set_cons_succ]
          refine wpAnyH_take (i := 2) (v := .pointer (some ⟨gr, i * 2, none⟩)) rfl (by kernel_rfl) (by kernel_rfl) (by kernel_rfl) (fun _ _ _ h => h) (Or.inl ⟨by kernel_rfl, fun W2 hSw => by go_simp⟩) (by assumption) ?_
          simp only [Act.put, List.getElem_toArray, List.getElem_cons_succ, List.getElem_cons_zero, List.setIfInBounds_toArray, List.set_cons_zero, List.set_cons_succ]
          refine wpAnyH_take (i := 3) (v := .pointer (some ⟨gr, i * 2, none⟩)) rfl (by kernel_rfl) (by kernel_rfl) (by kernel_rfl) (fun _ _ _ h => h) (Or.inl ⟨by kernel_rfl, fun W2 hSw => by go_simp⟩) (by assumption) ?_
          simp only [Act.put, List.getElem_toArray, List.getElem_cons_succ, List.getElem_cons_zero, List.setIfInBounds_toArray, List.set_cons_zero, List.set_cons_succ]
          refine wpAnyH_take (i := 4) (v := .pointer (some ⟨(B i).1, 0, none⟩)) rfl (by kernel_rfl) (by kernel_rfl) (by kernel_rfl) (fun _ _ _ h => h) (Or.inl ⟨by kernel_rfl, fun W2 hSw => by have hl := hSw.ptr i hlt2; go_simp⟩) (by assumption) ?_
          simp only [Act.put, List.getElem_toArray, List.getElem_cons_succ, List.getElem_cons_zero, List.setIfInBounds_toArray, List.set_cons_zero, List.set_cons_succ]
          refine wpAnyH_take (i := 5) (v := .bool false) rfl (by kernel_rfl) (by kernel_rfl) (by kernel_rfl) (fun _ _ _ h => h) (Or.inl ⟨by kernel_rfl, fun W2 hSw => by go_simp⟩) (by assumption) ?_
          simp only [Act.put, List.getElem_toArray, List.getElem_cons_succ, List.getElem_cons_zero, List.setIfInBounds_toArray, List.set_cons_zero, List.set_cons_succ]
          refine wpAnyH_take (i := 6) (v := .bool false) rfl (by kernel_rfl) (by kernel_rfl) (by kernel_rfl) (fun _ _ _ h => h) (Or.inl ⟨by kernel_rfl, fun W2 hSw => by go_simp⟩) (by assumption) ?_
          simp only [Act.put, List.getElem_toArray, List.getElem_cons_succ, List.getElem_cons_zero, List.setIfInBounds_toArray, List.set_cons_zero, List.set_cons_succ]
          refine wpAnyH_take (i := 7) (v := .slice (some ⟨gr, 0, none⟩) N c) rfl (by kernel_rfl) (by kernel_rfl) (by kernel_rfl) (fun _ _ _ h => h) (Or.inl ⟨by kernel_rfl, fun W2 hSw => by go_simp⟩) (by assumption) ?_
          simp only [Act.put, List.getElem_toArray, List.getElem_cons_succ, List.getElem_cons_zero, List.setIfInBounds_toArray, List.set_cons_zero, List.set_cons_succ]
          refine wpAnyH_take (i := 8) (v := .int .i64 (i : Int)) rfl (by kernel_rfl) (by kernel_rfl) (by kernel_rfl) (fun _ _ _ h => h) (Or.inl ⟨by kernel_rfl, fun W2 hSw => by go_simp⟩) (by assumption) ?_
          simp only [Act.put, List.getElem_toArray, List.getElem_cons_succ, List.getElem_cons_zero, List.setIfInBounds_toArray, List.set_cons_zero, List.set_cons_succ]
          refine wpAnyH_take (i := 9) (v := .pointer (some ⟨gr, i * 2, none⟩)) rfl (by kernel_rfl) (by kernel_rfl) (by kernel_rfl) (fun _ _ _ h => h) (Or.inl ⟨by kernel_rfl, fun W2 hSw => by go_simp⟩) (by assumption) ?_
          simp only [Act.put, List.getElem_toArray, List.getElem_cons_succ, List.getElem_cons_zero, List.setIfInBounds_toArray, List.set_cons_zero, List.set_cons_succ]
          refine wpAnyH_take (i := 10) (v := .pointer (some ⟨gr, i * 2, none⟩)) rfl (by kernel_rfl) (by kernel_rfl) (by kernel_rfl) (fun _ _ _ h => h) (Or.inl ⟨by kernel_rfl, fun W2 hSw => by go_simp⟩) (by assumption) ?_
          simp only [Act.put, List.getElem_toArray, List.getElem_cons_succ, List.getElem_cons_zero, List.setIfInBounds_toArray, List.set_cons_zero, List.set_cons_succ]
          refine wpAnyH_take (i := 11) (v := .pointer (some ⟨(B i).1, 0, none⟩)) rfl (by kernel_rfl) (by kernel_rfl) (by kernel_rfl) (fun _ _ _ h => h) (Or.inl ⟨by kernel_rfl, fun W2 hSw => by have hl := hSw.ptr i hlt2; go_simp⟩) (by assumption) ?_
          simp only [Act.put, List.getElem_toArray, List.getElem_cons_succ, List.getElem_cons_zero, List.setIfInBounds_toArray, List.set_cons_zero, List.set_cons_succ]
          refine wpAnyH_take (i := 13) (v := .slice (some ⟨gr, 0, none⟩) N c) rfl (by kernel_rfl) (by kernel_rfl) (by kernel_rfl) (fun _ _ _ h => h) (Or.inl ⟨by kernel_rfl, fun W2 hSw => by go_simp⟩) (by assumption) ?_
          simp only [Act.put, List.getElem_toArray, List.getElem_cons_succ, List.getElem_cons_zero, List.setIfInBounds_toArray, List.set_cons_zero, List.set_cons_succ]
          refine wpAnyH_take (i := 14) (v := .int .i64 (i : Int)) rfl (by kernel_rfl) (by kernel_rfl) (by kernel_rfl) (fun _ _ _ h => h) (Or.inl ⟨by kernel_rfl, fun W2 hSw => by go_simp⟩) (by assumption) ?_
          simp only [Act.put, List.getElem_toArray, List.getElem_cons_succ, List.getElem_cons_zero, List.setIfInBounds_toArray, List.set_cons_zero, List.set_cons_succ]
          refine wpAnyH_take (i := 15) (v := .pointer (some ⟨gr, i * 2, none⟩)) rfl (by kernel_rfl) (by kernel_rfl) (by kernel_rfl) (fun _ _ _ h => h) (Or.inl ⟨by kernel_rfl, fun W2 hSw => by go_simp⟩) (by assumption) ?_
          simp only [Act.put, List.getElem_toArray, List.getElem_cons_succ, List.getElem_cons_zero, List.setIfInBounds_toArray, List.set_cons_zero, List.set_cons_succ]
          refine wpAnyH_take (i := 16) (v := .pointer (some ⟨gr, i * 2 + 1, none⟩)) rfl (by kernel_rfl) (by kernel_rfl) (by kernel_rfl) (fun _ _ _ h => h) (Or.inl ⟨by kernel_rfl, fun W2 hSw => by go_simp⟩) (by assumption) ?_
          simp only [Act.put, List.getElem_toArray, List.getElem_cons_succ, List.getElem_cons_zero, List.setIfInBounds_toArray, List.set_cons_zero, List.set_cons_succ]
          refine wpAnyH_take (i := 17) (v := .string (B i).2) rfl (by kernel_rfl) (by kernel_rfl) (by kernel_rfl) (fun _ _ _ h => h) (Or.inl ⟨by kernel_rfl, fun W2 hSw => by have hl := hSw.txt i hlt2; go_simp⟩) (by assumption) ?_
          simp only [Act.put, List.getElem_toArray, List.getElem_cons_succ, List.getElem_cons_zero, List.setIfInBounds_toArray, List.set_cons_zero, List.set_cons_succ]
          refine wpAnyH_ready (rs := [12, 18]) (by kernel_rfl) (by simp) ?_
          refine AllReadyH.cons rfl (fun K hK => ?_) (AllReadyH.cons rfl (fun K hK => ?_) AllReadyH.nil)
          · go_simp
            go_at_call 15
            refine (HQS.out _ (keep_drew1 wr)).mono ?_
            rintro e ws ⟨rfl, bs⟩
            have BS : Below wr.heap.size wr ws := keep_call bs (keep_drew1 wr)
            go_wp2_with fail
            refine hK.out _ _ ?_ (fun hHeld => ?_)
            · exact HB2.out.below BS
            clear hK K
            try simp only [Act.put, List.setIfInBounds_toArray, List.set_cons_zero, List.set_cons_succ]
            refine wpAnyH_ready (rs := [18]) (by kernel_rfl) (by simp) ?_
            refine AllReadyH.cons rfl (fun K hK => ?_) AllReadyH.nil
            go_simp
            refine hK.out _ _ ?_ (fun hHeld => ?_)
            · exact HB2.out.below (keep_bytes BS (B i).2)
            clear hK K
            try simp only [Act.put, List.setIfInBounds_toArray, List.set_cons_zero, List.set_cons_succ]
            refine wpAnyH_ready (rs := [19]) (by kernel_rfl) (by simp) ?_
            refine AllReadyH.cons rfl (fun K hK => ?_) AllReadyH.nil
            go_simp
            go_at_call 8
            refine (HQR.out _ _ _ (HBI.out _)).mono ?_
            rintro e wq ⟨rfl, bq⟩
            have BR : Below wr.heap.size wr wq := keep_call bq (keep_bytes BS (B i).2)
            go_wp2_with fail
            refine hK.out _ _ ?_ (fun hHeld => ?_)
            · exact HB2.out.below BR
            clear hK K
            try simp only [Act.put, List.setIfInBounds_toArray, List.set_cons_zero, List.set_cons_succ]
            refine wpAnyH_take (i := 20) (v := .bool false) rfl (by kernel_rfl) (by kernel_rfl) (by kernel_rfl) (fun _ _ _ h => h) (Or.inl ⟨by kernel_rfl, fun W2 hSw => by go_simp⟩) (by assumption) ?_
            simp only [Act.put, List.getElem_toArray, List.getElem_cons_succ, List.getElem_cons_zero, List.setIfInBounds_toArray, List.set_cons_zero, List.set_cons_succ]
            refine wpAnyH_take (i := 21) (v := .bool false) rfl (by kernel_rfl) (by kernel_rfl) (by kernel_rfl) (fun _ _ _ h => h) (Or.inl ⟨by kernel_rfl, fun W2 hSw => by go_simp⟩) (by assumption) ?_
            simp only [Act.put, List.getElem_toArray, List.getElem_cons_succ, List.getElem_cons_zero, List.setIfInBounds_toArray, List.set_cons_zero, List.set_cons_succ]
            refine wpAnyH_take (i := 22) (v := .bool false) rfl (by kernel_rfl) (by kernel_rfl) (by kernel_rfl) (fun _ _ _ h => h) (Or.inl ⟨by kernel_rfl, fun W2 hSw => by go_simp⟩) (by assumption) ?_
            simp only [Act.put, List.getElem_toArray, List.getElem_cons_succ, List.getElem_cons_zero, List.setIfInBounds_toArray, List.set_cons_zero, List.set_cons_succ]
            refine wpAnyH_take (i := 23) (v := .slice (some ⟨gr, 0, none⟩) N c) rfl (by kernel_rfl) (by kernel_rfl) (by kernel_rfl) (fun _ _ _ h => h) (Or.inl ⟨by kernel_rfl, fun W2 hSw => by go_simp⟩) (by assumption) ?_
            simp only [Act.put, List.getElem_toArray, List.getElem_cons_succ, List.getElem_cons_zero, List.setIfInBounds_toArray, List.set_cons_zero, List.set_cons_succ]
            refine wpAnyH_take (i := 24) (v := .int .i64 (i : Int)) rfl (by kernel_rfl) (by kernel_rfl) (by kernel_rfl) (fun _ _ _ h => h) (Or.inl ⟨by kernel_rfl, fun W2 hSw => by go_simp⟩) (by assumption) ?_
            simp only [Act.put, List.getElem_toArray, List.getElem_cons_succ, List.getElem_cons_zero, List.setIfInBounds_toArray, List.set_cons_zero, List.set_cons_succ]
            refine wpAnyH_take (i := 25) (v := .pointer (some ⟨gr, i * 2, none⟩)) rfl (by kernel_rfl) (by kernel_rfl) (by kernel_rfl) (fun _ _ _ h => h) (Or.inl ⟨by kernel_rfl, fun W2 hSw => by go_simp⟩) (by assumption) ?_
            simp only [Act.put, List.getElem_toArray, List.getElem_cons_succ, List.getElem_cons_zero, List.setIfInBounds_toArray, List.set_cons_zero, List.set_cons_succ]
            refine wpAnyH_take (i := 26) (v := .pointer (some ⟨gr, i * 2, none⟩)) rfl (by kernel_rfl) (by kernel_rfl) (by kernel_rfl) (fun _ _ _ h => h) (Or.inl ⟨by kernel_rfl, fun W2 hSw => by go_simp⟩) (by assumption) ?_
            simp only [Act.put, List.getElem_toArray, List.getElem_cons_succ, List.getElem_cons_zero, List.setIfInBounds_toArray, List.set_cons_zero, List.set_cons_succ]
            refine wpAnyH_take (i := 27) (v := .pointer (some ⟨(B i).1, 0, none⟩)) rfl (by kernel_rfl) (by kernel_rfl) (by kernel_rfl) (fun _ _ _ h => h) (Or.inl ⟨by kernel_rfl, fun W2 hSw => by have hl := hSw.ptr i hlt2; go_simp⟩) (by assumption) ?_
            simp only [Act.put, List.getElem_toArray, List.getElem_cons_succ, List.getElem_cons_zero, List.setIfInBounds_toArray, List.set_cons_zero, List.set_cons_succ]
            refine wpAnyH_take (i := 29) (v := .slice (some ⟨gr, 0, none⟩) N c) rfl (by kernel_rfl) (by kernel_rfl) (by kernel_rfl) (fun _ _ _ h => h) (Or.inl ⟨by kernel_rfl, fun W2 hSw => by go_simp⟩) (by assumption) ?_
            simp only [Act.put, List.getElem_toArray, List.getElem_cons_succ, List.getElem_cons_zero, List.setIfInBounds_toArray, List.set_cons_zero, List.set_cons_succ]
            refine wpAnyH_take (i := 30) (v := .int .i64 (i : Int)) rfl (by kernel_rfl) (by kernel_rfl) (by kernel_rfl) (fun _ _ _ h => h) (Or.inl ⟨by kernel_rfl, fun W2 hSw => by go_simp⟩) (by assumption) ?_
            simp only [Act.put, List.getElem_toArray, List.getElem_cons_succ, List.getElem_cons_zero, List.setIfInBounds_toArray, List.set_cons_zero, List.set_cons_succ]
            refine wpAnyH_take (i := 31) (v := .pointer (some ⟨gr, i * 2, none⟩)) rfl (by kernel_rfl) (by kernel_rfl) (by kernel_rfl) (fun _ _ _ h => h) (Or.inl ⟨by kernel_rfl, fun W2 hSw => by go_simp⟩) (by assumption) ?_
            simp only [Act.put, List.getElem_toArray, List.getElem_cons_succ, List.getElem_cons_zero, List.setIfInBounds_toArray, List.set_cons_zero, List.set_cons_succ]
            refine wpAnyH_take (i := 32) (v := .pointer (some ⟨gr, i * 2 + 1, none⟩)) rfl (by kernel_rfl) (by kernel_rfl) (by kernel_rfl) (fun _ _ _ h => h) (Or.inl ⟨by kernel_rfl, fun W2 hSw => by go_simp⟩) (by assumption) ?_
            simp only [Act.put, List.getElem_toArray, List.getElem_cons_succ, List.getElem_cons_zero, List.setIfInBounds_toArray, List.set_cons_zero, List.set_cons_succ]
            refine wpAnyH_take (i := 33) (v := .string (B i).2) rfl (by kernel_rfl) (by kernel_rfl) (by kernel_rfl) (fun _ _ _ h => h) (Or.inl ⟨by kernel_rfl, fun W2 hSw => by have hl := hSw.txt i hlt2; go_simp⟩) (by assumption) ?_
            simp only [Act.put, List.getElem_toArray, List.getElem_cons_succ, List.getElem_cons_zero, List.setIfInBounds_toArray, List.set_cons_zero, List.set_cons_succ]
            refine wpAnyH_take (i := 34) (v := .int .i64 ((B i).2.size : Int)) rfl (by kernel_rfl) (by kernel_rfl) (by kernel_rfl) (fun _ _ _ h => h) (Or.inl ⟨by kernel_rfl, fun W2 hSw => by go_simp⟩) (by assumption) ?_
            simp only [Act.put, List.getElem_toArray, List.getElem_cons_succ, List.getElem_cons_zero, List.setIfInBounds_toArray, List.set_cons_zero, List.set_cons_succ]
            refine wpAnyH_ready (rs := [28]) (by kernel_rfl) (by simp) ?_
            refine AllReadyH.cons rfl (fun K hK => ?_) AllReadyH.nil
            go_simp
            go_at_call 14
            refine (HQW.out _ BR).mono ?_
            rintro e ww ⟨rfl, gw, sw⟩
            have BW : Hid (Books ww w.heap.size gr N c 1099511627776 B) := (HB2.out.below BR).again i hlt2 gw sw
            have qw : Hid (Below w.heap.size w ww) := (hB2.out.trans (BR.mono HB2.out.base_le)).trans (below_of_grown gw (HB2.out.ge i hlt2) (Nat.le_trans HB2.out.base_le BR.size))
            go_wp2_with fail
            refine hK.out _ _ ?_ (fun hHeld => ?_)
            · exact BW.out
            clear hK K
            try simp only [Act.put, List.setIfInBounds_toArray, List.set_cons_zero, List.set_cons_succ]
            refine wpAnyH_take (i := 35) (v := .bool false) rfl (by kernel_rfl) (by kernel_rfl) (by kernel_rfl) (fun _ _ _ h => h) (Or.inl ⟨by kernel_rfl, fun W2 hSw => by go_simp⟩) (by assumption) ?_
            simp only [Act.put, List.getElem_toArray, List.getElem_cons_succ, List.getElem_cons_zero, List.setIfInBounds_toArray, List.set_cons_zero, List.set_cons_succ]
            refine wpAnyH_take (i := 36) (v := .bool false) rfl (by kernel_rfl) (by kernel_rfl) (by kernel_rfl) (fun _ _ _ h => h) (Or.inl ⟨by kernel_rfl, fun W2 hSw => by go_simp⟩) (by assumption) ?_
            simp only [Act.put, List.getElem_toArray, List.getElem_cons_succ, List.getElem_cons_zero, List.setIfInBounds_toArray, List.set_cons_zero, List.set_cons_succ]
            refine wpAnyH_done (by kernel_rfl) ?_ _
            clear heq HQS HQR HEQ HBI HQW kb
            go_wp2
            go_roundw
            case rel => exact ⟨i + 1, by omega, by go_num, BW, qw⟩
            case measure => simp [intOf]; omega
          · go_simp
            refine hK.out _ _ ?_ (fun hHeld => ?_)
            · exact HB2.out.below (keep_bytes (keep_drew1 wr) (B i).2)
            clear hK K
            try simp only [Act.put, List.setIfInBounds_toArray, List.set_cons_zero, List.set_cons_succ]
            refine wpAnyH_ready (rs := [12]) (by kernel_rfl) (by simp) ?_
            refine AllReadyH.cons rfl (fun K hK => ?_) AllReadyH.nil
            go_simp
            go_at_call 15
            refine (HQS.out _ (keep_bytes (keep_drew1 wr) (B i).2)).mono ?_
            rintro e ws ⟨rfl, bs⟩
            have BS : Below wr.heap.size wr ws := keep_call bs (keep_bytes (keep_drew1 wr) (B i).2)
            have HIN := (HBI.out wr.drew).below bs
            go_wp2_with fail
            refine hK.out _ _ ?_ (fun hHeld => ?_)
            · exact HB2.out.below BS
            clear hK K
            try simp only [Act.put, List.setIfInBounds_toArray, List.set_cons_zero, List.set_cons_succ]
            refine wpAnyH_ready (rs := [19]) (by kernel_rfl) (by simp) ?_
            refine AllReadyH.cons rfl (fun K hK => ?_) AllReadyH.nil
            go_simp
            go_at_call 8
            refine (HQR.out _ _ _ (HIN)).mono ?_
            rintro e wq ⟨rfl, bq⟩
            have BR : Below wr.heap.size wr wq := keep_call bq (BS)
            go_wp2_with fail
            refine hK.out _ _ ?_ (fun hHeld => ?_)
            · exact HB2.out.below BR
            clear hK K
            try simp only [Act.put, List.setIfInBounds_toArray, List.set_cons_zero, List.set_cons_succ]
            refine wpAnyH_take (i := 20) (v := .bool false) rfl (by kernel_rfl) (by kernel_rfl) (by kernel_rfl) (fun _ _ _ h => h) (Or.inl ⟨by kernel_rfl, fun W2 hSw => by go_simp⟩) (by assumption) ?_
            simp only [Act.put, List.getElem_toArray, List.getElem_cons_succ, List.getElem_cons_zero, List.setIfInBounds_toArray, List.set_cons_zero, List.set_cons_succ]
            refine wpAnyH_take (i := 21) (v := .bool false) rfl (by kernel_rfl) (by kernel_rfl) (by kernel_rfl) (fun _ _ _ h => h) (Or.inl ⟨by kernel_rfl, fun W2 hSw => by go_simp⟩) (by assumption) ?_
            simp only [Act.put, List.getElem_toArray, List.getElem_cons_succ, List.getElem_cons_zero, List.setIfInBounds_toArray, List.set_cons_zero, List.set_cons_succ]
            refine wpAnyH_take (i := 22) (v := .bool false) rfl (by kernel_rfl) (by kernel_rfl) (by kernel_rfl) (fun _ _ _ h => h) (Or.inl ⟨by kernel_rfl, fun W2 hSw => by go_simp⟩) (by assumption) ?_
            simp only [Act.put, List.getElem_toArray, List.getElem_cons_succ, List.getElem_cons_zero, List.setIfInBounds_toArray, List.set_cons_zero, List.set_cons_succ]
            refine wpAnyH_take (i := 23) (v := .slice (some ⟨gr, 0, none⟩) N c) rfl (by kernel_rfl) (by kernel_rfl) (by kernel_rfl) (fun _ _ _ h => h) (Or.inl ⟨by kernel_rfl, fun W2 hSw => by go_simp⟩) (by assumption) ?_
            simp only [Act.put, List.getElem_toArray, List.getElem_cons_succ, List.getElem_cons_zero, List.setIfInBounds_toArray, List.set_cons_zero, List.set_cons_succ]
            refine wpAnyH_take (i := 24) (v := .int .i64 (i : Int)) rfl (by kernel_rfl) (by kernel_rfl) (by kernel_rfl) (fun _ _ _ h => h) (Or.inl ⟨by kernel_rfl, fun W2 hSw => by go_simp⟩) (by assumption) ?_
            simp only [Act.put, List.getElem_toArray, List.getElem_cons_succ, List.getElem_cons_zero, List.setIfInBounds_toArray, List.set_cons_zero, List.set_cons_succ]
            refine wpAnyH_take (i := 25) (v := .pointer (some ⟨gr, i * 2, none⟩)) rfl (by kernel_rfl) (by kernel_rfl) (by kernel_rfl) (fun _ _ _ h => h) (Or.inl ⟨by kernel_rfl, fun W2 hSw => by go_simp⟩) (by assumption) ?_
            simp only [Act.put, List.getElem_toArray, List.getElem_cons_succ, List.getElem_cons_zero, List.setIfInBounds_toArray, List.set_cons_zero, List.set_cons_succ]
            refine wpAnyH_take (i := 26) (v := .pointer (some ⟨gr, i * 2, none⟩)) rfl (by kernel_rfl) (by kernel_rfl) (by kernel_rfl) (fun _ _ _ h => h) (Or.inl ⟨by kernel_rfl, fun W2 hSw => by go_simp⟩) (by assumption) ?_
            simp only [Act.put, List.getElem_toArray, List.getElem_cons_succ, List.getElem_cons_zero, List.setIfInBounds_toArray, List.set_cons_zero, List.set_cons_succ]
            refine wpAnyH_take (i := 27) (v := .pointer (some ⟨(B i).1, 0, none⟩)) rfl (by kernel_rfl) (by kernel_rfl) (by kernel_rfl) (fun _ _ _ h => h) (Or.inl ⟨by kernel_rfl, fun W2 hSw => by have hl := hSw.ptr i hlt2; go_simp⟩) (by assumption) ?_
            simp only [Act.put, List.getElem_toArray, List.getElem_cons_succ, List.getElem_cons_zero, List.setIfInBounds_toArray, List.set_cons_zero, List.set_cons_succ]
            refine wpAnyH_take (i := 29) (v := .slice (some ⟨gr, 0, none⟩) N c) rfl (by kernel_rfl) (by kernel_rfl) (by kernel_rfl) (fun _ _ _ h => h) (Or.inl ⟨by kernel_rfl, fun W2 hSw => by go_simp⟩) (by assumption) ?_
            simp only [Act.put, List.getElem_toArray, List.getElem_cons_succ, List.getElem_cons_zero, List.setIfInBounds_toArray, List.set_cons_zero, List.set_cons_succ]
            refine wpAnyH_take (i := 30) (v := .int .i64 (i : Int)) rfl (by kernel_rfl) (by kernel_rfl) (by kernel_rfl) (fun _ _ _ h => h) (Or.inl ⟨by kernel_rfl, fun W2 hSw => by go_simp⟩) (by assumption) ?_
            simp only [Act.put, List.getElem_toArray, List.getElem_cons_succ, List.getElem_cons_zero, List.setIfInBounds_toArray, List.set_cons_zero, List.set_cons_succ]
            refine wpAnyH_take (i := 31) (v := .pointer (some ⟨gr, i * 2, none⟩)) rfl (by kernel_rfl) (by kernel_rfl) (by kernel_rfl) (fun _ _ _ h => h) (Or.inl ⟨by kernel_rfl, fun W2 hSw => by go_simp⟩) (by assumption) ?_
            simp only [Act.put, List.getElem_toArray, List.getElem_cons_succ, List.getElem_cons_zero, List.setIfInBounds_toArray, List.set_cons_zero, List.set_cons_succ]
            refine wpAnyH_take (i := 32) (v := .pointer (some ⟨gr, i * 2 + 1, none⟩)) rfl (by kernel_rfl) (by kernel_rfl) (by kernel_rfl) (fun _ _ _ h => h) (Or.inl ⟨by kernel_rfl, fun W2 hSw => by go_simp⟩) (by assumption) ?_
            simp only [Act.put, List.getElem_toArray, List.getElem_cons_succ, List.getElem_cons_zero, List.setIfInBounds_toArray, List.set_cons_zero, List.set_cons_succ]
            refine wpAnyH_take (i := 33) (v := .string (B i).2) rfl (by kernel_rfl) (by kernel_rfl) (by kernel_rfl) (fun _ _ _ h => h) (Or.inl ⟨by kernel_rfl, fun W2 hSw => by have hl := hSw.txt i hlt2; go_simp⟩) (by assumption) ?_
            simp only [Act.put, List.getElem_toArray, List.getElem_cons_succ, List.getElem_cons_zero, List.setIfInBounds_toArray, List.set_cons_zero, List.set_cons_succ]
            refine wpAnyH_take (i := 34) (v := .int .i64 ((B i).2.size : Int)) rfl (by kernel_rfl) (by kernel_rfl) (by kernel_rfl) (fun _ _ _ h => h) (Or.inl ⟨by kernel_rfl, fun W2 hSw => by go_simp⟩) (by assumption) ?_
            simp only [Act.put, List.getElem_toArray, List.getElem_cons_succ, List.getElem_cons_zero, List.setIfInBounds_toArray, List.set_cons_zero, List.set_cons_succ]
            refine wpAnyH_ready (rs := [28]) (by kernel_rfl) (by simp) ?_
            refine AllReadyH.cons rfl (fun K hK => ?_) AllReadyH.nil
            go_simp
            go_at_call 14
            refine (HQW.out _ BR).mono ?_
            rintro e ww ⟨rfl, gw, sw⟩
            have BW : Hid (Books ww w.heap.size gr N c 1099511627776 B) := (HB2.out.below BR).again i hlt2 gw sw
            have qw : Hid (Below w.heap.size w ww) := (hB2.out.trans (BR.mono HB2.out.base_le)).trans (below_of_grown gw (HB2.out.ge i hlt2) (Nat.le_trans HB2.out.base_le BR.size))
            go_wp2_with fail
            refine hK.out _ _ ?_ (fun hHeld => ?_)
            · exact BW.out
            clear hK K
            try simp only [Act.put, List.setIfInBounds_toArray, List.set_cons_zero, List.set_cons_succ]
            refine wpAnyH_take (i := 35) (v := .bool false) rfl (by kernel_rfl) (by kernel_rfl) (by kernel_rfl) (fun _ _ _ h => h) (Or.inl ⟨by kernel_rfl, fun W2 hSw => by go_simp⟩) (by assumption) ?_
            simp only [Act.put, List.getElem_toArray, List.getElem_cons_succ, List.getElem_cons_zero, List.setIfInBounds_toArray, List.set_cons_zero, List.set_cons_succ]
            refine wpAnyH_take (i := 36) (v := .bool false) rfl (by kernel_rfl) (by kernel_rfl) (by kernel_rfl) (fun _ _ _ h => h) (Or.inl ⟨by kernel_rfl, fun W2 hSw => by go_simp⟩) (by assumption) ?_
            simp only [Act.put, List.getElem_toArray, List.getElem_cons_succ, List.getElem_cons_zero, List.setIfInBounds_toArray, List.set_cons_zero, List.set_cons_succ]
            refine wpAnyH_done (by kernel_rfl) ?_ _
            clear heq HQS HQR HEQ HBI HQW kb
            go_wp2
            go_roundw
            case rel => exact ⟨i + 1, by omega, by go_num, BW, qw⟩
            case measure => simp [intOf]; omega
        · go_wp2_with fail
          go_ret
          exact ⟨rfl, hB2.out⟩

theorem walk {w : World} (a : Option Addr) (len cap b o : Nat) (L : Nat → Int × Int × ByteArray) (I : OpsIn w a len b o L) (hm : len ≤ 1048576) (T : Tabs w) :
    Calls Tryd.prog 5 #[.slice a len cap] w fun e w' => e = .returned (.bool true) ∧ Below w.heap.size w w' := good a len cap b o L w T I hm
end Go.Proofs.YtikoahjnhdnhdaaDoor.hashWrites
