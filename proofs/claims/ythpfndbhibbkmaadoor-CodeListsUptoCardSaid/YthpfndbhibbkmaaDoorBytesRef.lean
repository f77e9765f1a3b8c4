/- CONTRACT of scrupleref08.Bytes: it answers as code.Bytes does. -/
import Derived.Test.YthpfndbhibbkmaaDoorBytes
namespace Go.Proofs.YthpfndbhibbkmaaDoor
open Go.ChangeShapes Go.WideShapes Go.ChangeAt Go.RowKit Go.Proofs.YthpfndbhibbkmaaDoorW.PrintWords
set_option linter.unusedVariables false
set_option linter.unusedSimpArgs false

theorem bytes_none (w : World) : BytesArg w none 0 0 [] := ⟨⟨rfl, by omega, fun h => absurd h (by omega)⟩, by omega, fun _ => rfl, Nat.le_refl _⟩

set_option maxHeartbeats 1000000 in
/-- ████ scrupleref08.Bytes ████ -/
theorem rBytes_any (a : Option Addr) (n c : Nat) (L : Nat → Int × Int) (w : World) (R : RdIns w a n L) (hn : n ≤ 140737488354000) (hlen : ∀ k, k ≤ n → allOk L k = true → (encTo L k).length ≤ 140737488354000) (N : Nat) (HN : Hid ((bytesL L n).length = N)) :
    Calls Tryd.prog 26 #[.slice a n c] w fun e w' => ∃ a' c', e = .returned (.tuple #[.slice a' N c', .int .i64 (firstE L n)]) ∧ OwnedS w.heap.size w w' a' c' (bytesL L n) := by
  have HR := Lib.hid R
  have HL := Lib.hid hlen
  clear R hlen
  go_enter Tryd.func26, Tryd.ntmps26
  go_wp2_with fail

  go_loopw [4, 5] (fun v i wr => ∃ k : Nat, k ≤ n ∧ i = .int .i64 k ∧ Hid (allOk L k = true) ∧ Hid (wr.ownsRow w.heap.size 5 1 v (encTo L k).length (nums .u8 (encTo L k))) ∧ Below w.heap.size w wr) (fun _ i _ => n - (intOf i).toNat)
  case atStart => exact ⟨0, by omega, rfl, rfl, own_nil _ _ 5 1, Below.refl _ _⟩
  case round =>
    obtain ⟨k, hk, rfl, HA, HO, hB⟩ := hrel
    have hbs := hB.size
    by_cases hlt : k < n
    · obtain ⟨b, o, rfl, hbw, hcell⟩ := (HR.out.below hB) (by omega)
      obtain ⟨c0, c1⟩ := hcell k hlt
      clear hcell
      have hE := encTo_succ L k
      have hA1 := allOk_succ L k
      have hfe := fun h => firstE_at (L := L) hlt HA.out h
      generalize (L k).1 = op at *
      generalize (L k).2 = A at *
      have h18 := rPut_any op A none 0 0 [] wr (bytes_none wr) _ rfl
      cases hok : putOk op A with
      | false =>
        have hno : allOk L n = false := by
          cases e : allOk L n with
          | false => rfl
          | true =>
            have := allOk_iff.1 e
            have h2 : allOk L (k + 1) = true := allOk_iff.2 fun j hj => this j (by omega)
            rw [hA1, hok] at h2
            simp at h2
        have hF : Hid (firstE L n = putE op A) := hfe hok
        have hZ : Hid (bytesL L n = []) := by show _ = _; unfold bytesL; rw [hno]; rfl
        have hpe := putE_bad hok
        have hN0 : Hid (N = 0) := by
          have := HN.out
          rw [hZ.out] at this
          exact this.symm
        generalize putE op A = er at *
        have hne : (er == 0) = false := by rcases hpe with rfl | rfl <;> rfl
        have hne2 : (er != 0) = true := by simp [bne, hne]
        generalize (putL [] op A).length = M at *
        have H18 := Lib.hid h18
        clear h18 hfe hE hA1 hok hno hpe
        go_wp2_with fail
        refine H18.out.mono ?_
        rintro e w1 ⟨a', c', rfl, hO⟩
        have q1 : Below w.heap.size w w1 := hB.trans (hO.below.mono hbs)
        clear hO
        go_wp2_with fail
        go_ret2
        exact ⟨none, 0, by rw [hN0.out, hF.out]; rfl, by rw [hZ.out]; exact owned_nil _ q1⟩
      | true =>
        have hpl : putL [] op A = encB op.toNat A := by unfold putL; rw [if_pos hok, List.nil_append]
        have hpe : putE op A = 0 := by
          unfold putE
          rw [if_neg (by unfold putOk at hok; simp only [Bool.and_eq_true, decide_eq_true_eq] at hok; omega), if_pos hok]
        rw [hpl, hpe] at h18
        have hll := HL.out k hk HA.out
        have hl3 := encB_len op.toNat A
        have HA2 : Hid (allOk L (k + 1) = true) := by show _ = _; rw [hA1, hok, HA.out]; rfl
        generalize encB op.toNat A = E at *
        have HE := Lib.hid hE
        generalize hM : E.length = M at *
        have HM := Lib.hid hM
        have H18 := Lib.hid h18
        clear h18 hfe hE hA1 hok hM hpl hpe
        go_wp2_with fail
        refine H18.out.mono ?_
        rintro e w1 ⟨a', c', rfl, hO⟩
        have q1 : Below w.heap.size w w1 := hB.trans (hO.below.mono hbs)
        have hs1 := hO.below.size
        have hr := hO.own
        rw [HM.out] at hr
        have HRD := Lib.hid (own_reads' hr)
        have HO1 := Lib.hid (pw_own_below HO.out hO.below)
        clear hO hr H18
        go_wp2_with (at_builtin; refine print_append_row w.heap.size rfl _ _ 34 5 .u8 1 rfl Tryd.underlying34 info5 (by decide) u4 (encTo L k) E a' M c' rfl rfl HO1.out HRD.out q1 (by omega) (by omega) ?_; intro v1 w2 HO2 HB2 hg2 hp2)
        have hO3 : Hid (w2.ownsRow w.heap.size 5 1 v1 (encTo L (k + 1)).length (nums .u8 (encTo L (k + 1)))) := by show World.ownsRow _ _ _ _ _ _ _; rw [HE.out]; exact HO2
        clear HO2 hg2 hp2 HRD HO1 HE
        go_wp2_with fail
        go_roundw
        case rel => exact ⟨k + 1, by omega, by go_num, HA2, hO3, HB2⟩
        case measure => simp [intOf]; omega
    · obtain rfl : k = n := by omega
      have hZ : Hid (bytesL L k = encTo L k) := by show _ = _; unfold bytesL; rw [HA.out]; rfl
      have hlN : (encTo L k).length = N := by have := HN.out; rw [hZ.out] at this; exact this
      have hF : Hid (firstE L k = 0) := firstE_ok HA.out
      have HO' := HO.out
      rw [hlN] at HO'
      obtain ⟨a2, c2, hv, hc, _⟩ := own_cap HO'
      rw [hv] at HO'
      have HF : OwnedS w.heap.size w wr a2 c2 (encTo L k) := ⟨by rw [hlN]; exact HO', by omega, hB⟩
      have HFF := Lib.hid HF
      clear HF HO' hlN HN
      have HV := Lib.hid hv
      clear hv
      go_wp2_with fail
      rw [HV.out]
      go_ret2
      exact ⟨a2, c2, by rw [hF.out]; rfl, by rw [hZ.out]; exact HFF.out⟩
end Go.Proofs.YthpfndbhibbkmaaDoor
