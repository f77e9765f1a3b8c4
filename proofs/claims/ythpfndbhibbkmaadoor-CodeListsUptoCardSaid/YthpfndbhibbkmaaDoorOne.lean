/- THE WALK of 'scruplelaw08.CodeOne': it returns true for all bytes up to a length, over a world that holds the operations' table. -/
import Derived.Test.YthpfndbhibbkmaaDoorOneLaw
import Derived.Test.YthpfndbhibbkmaaDoorListA
import Derived.Test.YthpfndbhibbkmaaDoorShown
import Derived.Deep.QuietTactic
import Derived.BigQuiet
namespace Go.Proofs.YthpfndbhibbkmaaDoor.codeOne
open Go.ChangeShapes Go.WideShapes Go.ChangeAt Go.RowKit Go.Proofs.YthpfndbhibbkmaaDoorW.PrintWords Go.Proofs.YthpfndbhibbkmaaDoor
set_option linter.unusedVariables false
set_option linter.unusedSimpArgs false

theorem own_rd {w : World} {base N c : Nat} {a : Option Addr} {ps : List (Int × Int)} (h : OwnRow RI 41 2 w base (.slice a N c) ps) (hN : ps.length = N) : RdIns w a N (insF ps) := by
  obtain ⟨A, c', he, _, hr⟩ := h.reads
  injection he with e1 e2 e3
  subst e1
  intro hp
  obtain ⟨ad, rfl, hc⟩ := hr.2.2 (by omega)
  have get : ∀ i, i < N → w.cell? (ad.add (i * 2 + 0)) = some (.int .i64 (insF ps i).1) ∧ w.cell? (ad.add (i * 2 + 1)) = some (.int .i64 (insF ps i).2) := by
    intro i hi
    have hip : i < ps.length := by omega
    obtain ⟨cs, hl, hR, hcell⟩ := hc i _ (List.getElem?_eq_getElem hip)
    unfold RI at hR
    subst hR
    have e : insF ps i = ps[i] := by unfold insF; rw [List.getD_eq_getElem?_getD, List.getElem?_eq_getElem hip]; rfl
    rw [e]
    exact ⟨hcell 0 _ rfl, hcell 1 _ rfl⟩
  obtain ⟨b, o, sp⟩ := ad
  have := World.cell?_spot (get 0 hp).1
  have hs : sp = none := by simpa [Addr.add] using this
  subst hs
  have get' : ∀ i, i < N → w.cell? ⟨b, o + i * 2, none⟩ = some (.int .i64 (insF ps i).1) ∧ w.cell? ⟨b, o + i * 2 + 1, none⟩ = some (.int .i64 (insF ps i).2) := by
    intro i hi
    have := get i hi
    rw [Go.WideShapes.add_plain, Go.WideShapes.add_plain] at this
    exact this
  exact ⟨b, o, rfl, World.block_lt_of_cell? w _ (get' 0 hp).1, get'⟩

theorem firstn {w : World} {a : Option Addr} {n c k : Nat} {bs : List Int} (B : BytesIn w a n c bs) (hk : k ≤ n) : BytesIn w a k c (bs.take k) := by
  have hl := B.len
  have hc := B.cap
  have hm := B.max
  refine ⟨⟨⟨by rw [List.length_take]; omega, by omega, fun hp => ?_⟩, by omega, B.nil, by omega⟩, fun i => ?_⟩
  · obtain ⟨ad, ha, h⟩ := B.reads.2.2 (by omega)
    refine ⟨ad, ha, fun j hj => ?_⟩
    rw [h j (by omega)]
    simp [List.getD_eq_getElem?_getD, hj]
  · by_cases hi : i < k
    · have : (bs.take k).getD i 0 = bs.getD i 0 := by simp [List.getD_eq_getElem?_getD, hi]
      rw [this]
      exact B.byte i
    · rw [List.getD_eq_getElem?_getD, List.getElem?_eq_none (by rw [List.length_take]; omega)]
      simp

theorem encs_len (ps : List (Int × Int)) : ps.length ≤ (encs ps).length := by
  unfold encs
  induction ps with
  | nil => simp
  | cons p ps ih =>
    rw [List.flatMap_cons, List.length_append, List.length_cons]
    have : 1 ≤ (encB p.1.toNat p.2).length := by unfold encB; simp
    omega

set_option maxRecDepth 100000 in
set_option maxHeartbeats 2000000 in
theorem good (a : Option Addr) (n c : Nat) (bs : List Int) (w : World) (T : Tabs w) (B : BytesIn w a n c bs) (hn : n ≤ 1048576) :
    Calls Tryd.prog 10 #[.slice a n c] w fun e w' => e = .returned (.bool true) ∧ Below w.heap.size w w' := by
  have hl := B.len
  have hby := B.byte
  have hRO := run_ok bs hby (bs.length + 1) 0 (by omega) (by omega)
  have hRE := run_err bs (bs.length + 1) 0 (by omega) (by omega)
  obtain ⟨ps, pl, at0, er, hr⟩ : ∃ ps pl at0 er, listR bs = (ps, pl, at0, er) := ⟨_, _, _, _, rfl⟩
  have hr2 := hr
  unfold listR at hr2
  rw [hr2] at hRO hRE
  simp only at hRO hRE
  have h28 := List_any a n c bs w T B 8796093022000 (by omega) (.inl (by omega)) ps pl at0 er _ hr rfl
  have HB := Lib.hid B
  have hSb := string_of_reads (P := Tryd.prog) (dst := 9) (c := c) Tryd.underlying34 Tryd.underlying5 Tryd.underlying9 B.reads
  by_cases he : er = 0
  · subst he
    obtain ⟨r1, r2, r3, r4⟩ := hRO rfl
    subst r3
    have hall := allOk_list r1
    have henc : encTo (insF ps) ps.length = bs := by rw [encTo_all, r2, List.drop_zero]
    have hbl : Hid (bytesL (insF ps) ps.length = bs) := by show _ = _; unfold bytesL; rw [hall, if_pos rfl, henc]
    have hfe : Hid (firstE (insF ps) ps.length = 0) := firstE_ok hall
    have hbnd : Hid (∀ k, k ≤ ps.length → allOk (insF ps) k = true → (encTo (insF ps) k).length ≤ 140737488354000) := by
      intro k hk _
      have e2 := congrArg List.length henc
      rw [encTo_all] at e2
      rw [encTo_list ps k hk]
      have : (encs (ps.take k)).length ≤ (encs ps).length := by
        have e3 : encs ps = encs (ps.take k) ++ encs (ps.drop k) := by
          unfold encs
          rw [← List.flatMap_append, List.take_append_drop]
        rw [e3, List.length_append]
        omega
      omega
    have hps : ps.length ≤ 1048576 := by
      have e1 := encs_len ps
      rw [r2, List.drop_zero] at e1
      omega
    generalize hN : ps.length = N at *
    have HN := Lib.hid hN
    have H28 := Lib.hid h28
    clear h28 hr hr2 hRO hRE hN r1 r2 hall henc
    go_enter Tryd.func10, Tryd.ntmps10
    go_wp2_with fail
    refine H28.out.mono ?_
    rintro e w1 ⟨a1, c1, a2, c2, rfl, LI⟩
    have hs1 := LI.below.size
    have HP := Lib.hid (shown_any w1 (T.below LI.below))
    have HLI := Lib.hid LI
    clear LI H28
    go_wp2_with fail
    refine HP.out.mono ?_
    rintro e w2 ⟨rfl, hb2⟩
    have q2 := HLI.out.below.trans (hb2.mono hs1)
    go_wp2_with fail
    have h25 := Bytes_any a1 N N (insF ps) w2 (T.below q2) ((own_rd HLI.out.ins HN.out).below hb2) (by omega) hbnd.out n (by show _ = _; rw [hbl.out]; exact hl)
    rw [hfe.out, hbl.out] at h25
    refine h25.mono ?_
    clear h25
    rintro e w3 ⟨ap, cp, rfl, OB⟩
    have q3 := q2.trans (OB.below.mono q2.size)
    have ho := OB.own
    rw [hl] at ho
    have hp3 := string_of_reads (P := Tryd.prog) (dst := 9) (c := n) Tryd.underlying34 Tryd.underlying5 Tryd.underlying9 (own_reads' ho)
    have hb3 := string_of_reads (P := Tryd.prog) (dst := 9) (c := c) Tryd.underlying34 Tryd.underlying5 Tryd.underlying9 (HB.out.under q3).reads
    clear ho OB hSb
    generalize strOfNums bs = S at *
    have hSS : (S.toList == S.toList) = true := by simp
    go_wp2_with fail
    go_ret
    exact ⟨rfl, q3⟩
  · obtain ⟨k, e1, e2, e3, _, hk, hke, hpre⟩ := hRE he
    subst e1 e2 e3
    have hbad := take_bad_shape bs k (by rw [hke]; exact he)
    rw [hke] at hbad
    have hlk : (bs.take k).length = k := by rw [List.length_take]; omega
    have BK := firstn B (show k ≤ n by omega)
    have hRO2 := run_ok (bs.take k) BK.byte ((bs.take k).length + 1) 0 (by omega) (by omega) (hpre _ (by omega))
    obtain ⟨qs, ql, at1, er1, hq⟩ : ∃ ps pl at0 er, listR (bs.take k) = (ps, pl, at0, er) := ⟨_, _, _, _, rfl⟩
    have hz : er1 = 0 := by
      have := hpre ((bs.take k).length + 1) (by omega)
      unfold listR at hq
      rw [hq] at this
      exact this
    subst hz
    have hq2 := hq
    unfold listR at hq2
    rw [hq2] at hRO2
    simp only at hRO2
    obtain ⟨r1, r2, r3, r4⟩ := hRO2
    subst r3
    have hall := allOk_list r1
    rw [List.drop_zero] at r2
    have henc : encTo (insF qs) qs.length = bs.take k := by rw [encTo_all, r2]
    have hbl : Hid (bytesL (insF qs) qs.length = bs.take k) := by show _ = _; unfold bytesL; rw [hall, if_pos rfl, henc]
    have hfe : Hid (firstE (insF qs) qs.length = 0) := firstE_ok hall
    have hql : qs.length ≤ 1048576 := by
      have e1 := encs_len qs
      rw [r2, hlk] at e1
      omega
    have hbnd : Hid (∀ j, j ≤ qs.length → allOk (insF qs) j = true → (encTo (insF qs) j).length ≤ 140737488354000) := by
      intro j hj _
      rw [encTo_list qs j hj]
      have : (encs (qs.take j)).length ≤ (encs qs).length := by
        have e3 : encs qs = encs (qs.take j) ++ encs (qs.drop j) := by
          unfold encs
          rw [← List.flatMap_append, List.take_append_drop]
        rw [e3, List.length_append]
        omega
      rw [r2, hlk] at this
      omega
    have h23 := fun (w' : World) (T' : Tabs w') (B' : BytesIn w' a n c bs) => take_any a n c k bs w' T' B'
    rw [hbad] at h23
    unfold takeV at h23
    simp only at h23
    have h28b := fun (w' : World) (T' : Tabs w') (B' : BytesIn w' a k c (bs.take k)) => List_any a k c (bs.take k) w' T' B' 8796093022000 (by omega) (.inl (by omega)) qs ql 0 0 _ hq rfl
    generalize hN : qs.length = N at *
    have HN := Lib.hid hN
    have H28 := Lib.hid h28
    have H28B := Lib.hid h28b
    have H23 := Lib.hid h23
    have HE : Hid (er ≠ 0) := he
    have he1 : (er == 0) = false := by simpa using he
    have he2 : (er != 0) = true := by simp [bne, he1]
    have hkn : (k : Int) < n := by omega
    have hkc : k ≤ c := by have := HB.out.cap; omega
    have hSB : Hid (∀ w' a c, ReadsInt w' .u8 a k (bs.take k) → (convert 34 9 (.slice a k c)).run Tryd.prog w' = .ok (.string (strOfNums (bs.take k))) w') := fun w' a c h => string_of_reads (P := Tryd.prog) (dst := 9) (c := c) Tryd.underlying34 Tryd.underlying5 Tryd.underlying9 h
    generalize strOfNums (bs.take k) = S at *
    have hSS : (S.toList == S.toList) = true := by simp
    clear h28 h28b h23 hr hr2 hRO hRE hN r1 r2 r4 hall henc hq hq2 hbad hpre he hke hSb
    go_enter Tryd.func10, Tryd.ntmps10
    go_wp2_with fail
    refine H28.out.mono ?_
    rintro e w1 ⟨a1, c1, a2, c2, rfl, LI⟩
    have hs1 := LI.below.size
    have q1 := LI.below
    have HP := Lib.hid (shown_any w1 (T.below q1))
    clear LI H28
    go_wp2_with fail
    refine HP.out.mono ?_
    rintro e w2 ⟨rfl, hb2⟩
    have q2 := q1.trans (hb2.mono hs1)
    clear HP hb2
    go_wp2_with fail
    refine (H23.out w2 (T.below q2) (HB.out.under q2)).mono ?_
    rintro e w3 ⟨rfl, hb3⟩
    have q3 := q2.trans (hb3.mono q2.size)
    have q3x := q3.alloc q3.size (.cells #[.int .i64 0, .int .i64 0] 41)
    clear H23 hb3
    go_wp2_with fail
    refine (H28B.out _ (T.below q3x) (firstn (HB.out.under q3x) (by omega))).mono ?_
    rintro e w4 ⟨a3, c3, a4, c4, rfl, LJ⟩
    have q4 := q3x.trans (LJ.below.mono q3x.size)
    have hs4 : w3.heap.size < w4.heap.size := by have := LJ.below.size; simp at this; omega
    obtain ⟨gc, gf⟩ := bcell LJ.below
    have x0 : w4.cell? ⟨w3.heap.size, 0, none⟩ = some (.int .i64 0) := by rw [gc _ _ (by simp)]; go_simp
    have x1 : w4.cell? ⟨w3.heap.size, 1, none⟩ = some (.int .i64 0) := by rw [gc _ _ (by simp)]; go_simp
    have RD := own_rd LJ.ins HN.out
    have h25 := Bytes_any a3 N N (insF qs) w4 (T.below q4) RD (by omega) hbnd.out k (by show _ = _; rw [hbl.out]; exact hlk)
    rw [hfe.out, hbl.out] at h25
    have H25 := Lib.hid h25
    clear gc gf h25 LJ H28B RD
    go_wp2_with fail
    refine H25.out.mono ?_
    rintro e w5 ⟨ap, cp, rfl, OB⟩
    have q5 := q4.trans (OB.below.mono q4.size)
    have y0 := (OB.below.cell (p := ⟨w3.heap.size, 0, none⟩) hs4).trans x0
    have y1 := (OB.below.cell (p := ⟨w3.heap.size, 1, none⟩) hs4).trans x1
    have ho := OB.own
    rw [hlk] at ho
    have hp5 : ∀ m, (convert 34 9 (.slice ap k k)).run Tryd.prog (w5.drewN m) = .ok (.string S) (w5.drewN m) := fun m => hSB.out _ ap k ((own_reads' ho).drewN m)
    have hb5 : ∀ m, (convert 34 9 (.slice a k c)).run Tryd.prog (w5.drewN m) = .ok (.string S) (w5.drewN m) := fun m => hSB.out _ a c ((firstn (HB.out.under q5) (by omega)).reads.drewN m)
    clear ho OB H25
    go_wp2_with fail
    go_quiet (fail)
    go_wp2
    go_ret
    exact ⟨rfl, ⟨q5.os, q5.tape, q5.output, q5.size, q5.block⟩⟩

theorem walk {w : World} (a : Option Addr) (n c : Nat) (bs : List Int) (B : BytesIn w a n c bs) (hn : n ≤ 1048576) (T : Tabs w) :
    Calls Tryd.prog 10 #[.slice a n c] w fun e w' => e = .returned (.bool true) ∧ Below w.heap.size w w' := good a n c bs w T B hn
end Go.Proofs.YthpfndbhibbkmaaDoor.codeOne
