/- CONTRACT of scrupleref08.List: it answers listR. -/
import Derived.Test.YthpfndbhibbkmaaDoorListA
import Derived.Test.YthpfndbhibbkmaaDoorTakeRef
namespace Go.Proofs.YthpfndbhibbkmaaDoor
open Go.ChangeShapes Go.WideShapes Go.ChangeAt Go.RowKit Go.Proofs.YthpfndbhibbkmaaDoorW.PrintWords
set_option linter.unusedVariables false
set_option linter.unusedSimpArgs false

set_option maxHeartbeats 1000000 in
/-- ████ scrupleref08.List ████ -/
theorem rList_any (a : Option Addr) (n c : Nat) (bs : List Int) (w : World) (B : BytesIn w a n c bs) (M : Nat) (hM : M ≤ 8796093022000) (hfew : fewL bs M) (ps0 : List (Int × Int)) (pl0 : List Int) (at0 er0 : Int) (N : Nat) (hr : listR bs = (ps0, pl0, at0, er0)) (hN : ps0.length = N) :
    Calls Tryd.prog 36 #[.slice a n c] w fun e w' => ∃ a1 c1 a2 c2, e = .returned (.tuple #[.slice a1 N c1, .slice a2 N c2, .int .i64 at0, .int .i64 er0]) ∧ Listed w w' a1 c1 a2 c2 N ps0 pl0 := by
  have hlen := B.len
  have hmax := B.max
  have HB := Lib.hid B
  have HR := Lib.hid hr
  have HN := Lib.hid hN
  have HF := Lib.hid hfew
  clear B hr hN hfew
  go_enter Tryd.func36, Tryd.ntmps36
  go_wp2_with fail

  go_loopw [6, 7, 8] (fun v u i wr => ∃ (k f : Nat) (ps : List (Int × Int)) (pl : List Int), k ≤ n ∧ n + 1 ≤ k + f ∧ i = .int .i64 k ∧ Hid (listR bs = preL ps pl (runL bs f k)) ∧ Hid (OwnRow RI 41 2 wr w.heap.size v ps) ∧ Hid (wr.ownsRow w.heap.size 3 1 u pl.length (nums .i64 pl)) ∧ ps.length = pl.length ∧ pl.length ≤ k ∧ Below w.heap.size w wr) (fun _ _ i _ => n - (intOf i).toNat)
  case atStart => exact ⟨0, n + 1, [], [], by omega, by omega, rfl, by show _ = _; rw [preL_nil]; unfold listR; rw [hlen], OwnRow.none_ _ _ _ _ _, own_nil _ _ 3 1, rfl, Nat.le_refl _, Below.refl _ _⟩
  case round =>
    obtain ⟨k, f, ps, pl, hk, hf, rfl, HL, HO, HU, hpl, hlk, hB⟩ := hrel
    have hbs := hB.size
    obtain ⟨f, rfl⟩ : ∃ g, f = g + 1 := ⟨f - 1, by omega⟩
    by_cases hlt : k < n
    · have hkb : k < bs.length := by omega
      have h23 := rtake_any a n c k bs wr (HB.out.under hB)
      unfold takeV at h23
      rcases take_err bs k with he | he
      · obtain ⟨j, hj, hj1, hj2, _⟩ := take_next bs k hkb he
        have hst := preL_step bs ps pl f k hkb he
        rw [hj, Int.toNat_natCast] at hst
        rw [he, hj] at h23
        generalize (takeR bs k).1 = op at *
        generalize (takeR bs k).2.1 = A at *
        have HL2 : Hid (listR bs = preL (ps ++ [(op, A)]) (pl ++ [(k : Int)]) (runL bs f j)) := HL.out.trans hst
        have hfw : ps.length + 1 ≤ M := few_step HF.out hkb (by omega) (op, A) (HL.out.trans hst)
        have H23 := Lib.hid h23
        clear h23 hst he hj
        go_wp2_with fail
        refine H23.out.mono ?_
        rintro e w1 ⟨rfl, hb1⟩
        have q1 : Below w.heap.size w w1 := hB.trans (hb1.mono hbs)
        have q1x := q1.alloc q1.size (.cells #[.int .i64 op, .int .i64 A] 41)
        have hs1 := q1.size
        have HO1 : OwnRow RI 41 2 (w1.alloc (.cells #[.int .i64 op, .int .i64 A] 41)) w.heap.size u6 ps := (HO.out.below hb1).below ((Below.refl _ _).alloc (Nat.le_refl _) _)
        have HU1 : (w1.alloc (.cells #[.int .i64 op, .int .i64 A] 41)).ownsRow w.heap.size 3 1 u7 pl.length (nums .i64 pl) := pw_own_below (pw_own_below HU.out hb1) ((Below.refl _ _).alloc (Nat.le_refl _) _)
        have hs1x : w.heap.size ≤ (w1.alloc (.cells #[.int .i64 op, .int .i64 A] 41)).heap.size := q1x.size
        clear hb1 hs1 H23
        go_wp2_with (first
          | (at_builtin; refine OwnRow.append w.heap.size rfl _ _ 35 41 _ 2 16 rfl Tryd.underlying35 info41 rfl (by decide) (by decide) u6 ps (op, A) [.int .i64 op, .int .i64 A] rfl (by simp [Act.eval]) rfl rfl (one_ins_cells op A) HO1 q1x hs1x (by omega) ?_; intro v1 w2 HO2 HB2 hg2 hp2; have HU2 : w2.ownsRow w.heap.size 3 1 u7 pl.length (nums .i64 pl) := own_other HU1 hg2 (own_type_ne HU1 HO1.choose_spec.1 (by decide)); have hs2 := HB2.size; clear HU1 HO1 hg2 hp2 q1x hs1x)
          | (at_builtin; refine print_append_num w.heap.size rfl _ _ 45 3 .i64 8 rfl Tryd.underlying45 info3 (by decide) u7 pl (k : Int) rfl rfl HU2 HB2 hs2 (by omega) ?_; intro v2 w3 HO3 HB3 hg3 hp3; have HI3 : OwnRow RI 41 2 w3 w.heap.size v1 (ps ++ [(op, A)]) := HO2.other hg3 (own_type_ne HO2.choose_spec.1 HU2 (by decide))))
        have HI := Lib.hid HI3
        have HP : Hid (w3.ownsRow w.heap.size 3 1 v2 (pl ++ [(k : Int)]).length (nums .i64 (pl ++ [(k : Int)]))) := HO3
        have hl2 : (ps ++ [(op, A)]).length = (pl ++ [(k : Int)]).length := by simp; omega
        have hl3 : (pl ++ [(k : Int)]).length ≤ j := by simp; omega
        clear HO3 HI3 HO2 HU2 hg3 hp3 HB2
        go_roundw
        case rel => exact ⟨j, f, ps ++ [(op, A)], pl ++ [(k : Int)], by omega, by omega, by go_num, HL2, HI, HP, hl2, hl3, HB3⟩
        case measure => simp [intOf]; omega
      · have hne : (takeR bs k).2.2.2 ≠ 0 := by rcases he with h | h | h <;> rw [h] <;> decide
        have hst := preL_err bs ps pl f k hkb hne
        have hall : Hid ((ps0, pl0, at0, er0) = (([] : List (Int × Int)), ([] : List Int), (k : Int), (takeR bs k).2.2.2)) := HR.out.symm.trans (HL.out.trans hst)
        generalize (takeR bs k).1 = op at *
        generalize (takeR bs k).2.1 = A at *
        generalize (takeR bs k).2.2.1 = nx at *
        generalize (takeR bs k).2.2.2 = er at *
        have hq : (er == 0) = false := by simpa using hne
        have hq2 : (er != 0) = true := by simp [bne, hq]
        have H23 := Lib.hid h23
        clear h23 hst hne he
        go_wp2_with fail
        refine H23.out.mono ?_
        rintro e w1 ⟨rfl, hb1⟩
        have q1 : Below w.heap.size w w1 := hB.trans (hb1.mono hbs)
        have q1x := q1.alloc q1.size (.cells #[.int .i64 op, .int .i64 A] 41)
        clear H23
        go_wp2_with fail
        have hh := hall.out
        simp only [Prod.mk.injEq] at hh
        obtain ⟨e1, e2, e3, e4⟩ := hh
        have hN0 : N = 0 := by have := HN.out; rw [e1] at this; exact this.symm
        refine bodyPost_ret (v := .tuple #[.slice none 0 0, .slice none 0 0, .int .i64 (k : Int), .int .i64 er]) (by simp [results, Tryd.results36, go_sem]) rfl ⟨none, 0, none, 0, by rw [hN0, e3, e4], ?_⟩
        rw [hN0, e1, e2]
        exact ⟨OwnRow.none_ _ _ _ _ _, own_nil _ _ 3 1, rfl, Nat.le_refl _, Nat.le_refl _, q1x⟩
    · have hst := preL_end bs ps pl f k (by omega)
      have hall : Hid ((ps0, pl0, at0, er0) = (ps, pl, (0 : Int), (0 : Int))) := HR.out.symm.trans (HL.out.trans hst)
      have hh := hall.out
      simp only [Prod.mk.injEq] at hh
      obtain ⟨e1, e2, e3, e4⟩ := hh
      have hpN : ps.length = N := by rw [← e1]; exact HN.out
      have hlN : pl.length = N := by omega
      obtain ⟨A1, C1, hv6, hc1⟩ := HO.out.slice_
      have HO1 := HO.out
      have HU1 := HU.out
      rw [hv6] at HO1
      rw [hpN] at hv6 HO1 hc1
      rw [hlN] at HU1
      obtain ⟨A2, C2, hv7, hc2, _⟩ := own_cap HU1
      rw [hv7] at HU1
      have HLI : Hid (Listed w wr A1 C1 A2 C2 N ps0 pl0) := by
        rw [e1, e2]
        exact ⟨HO1, HU1, hpN, hc1, hc2, hB⟩
      have HV6 := Lib.hid hv6
      have HV7 := Lib.hid hv7
      have HE3 := Lib.hid e3
      have HE4 := Lib.hid e4
      clear hst e1 e2 e3 e4 HO1 HU1 hv6 hv7 hpN hlN hpl hlk
      go_wp2_with fail
      rw [HV6.out, HV7.out]
      exact bodyPost_ret (v := .tuple #[.slice A1 N C1, .slice A2 N C2, .int .i64 0, .int .i64 0]) (by simp [results, Tryd.results36, go_sem]) rfl ⟨A1, C1, A2, C2, by rw [HE3.out, HE4.out], HLI.out⟩
end Go.Proofs.YthpfndbhibbkmaaDoor
