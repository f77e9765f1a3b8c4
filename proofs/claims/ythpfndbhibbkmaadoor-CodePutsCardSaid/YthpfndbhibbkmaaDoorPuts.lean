/- THE WALK of 'scruplelaw08.CodePuts': it returns true for all bytes and all instructions, over a world that holds the operations' table. -/
import Derived.Test.YthpfndbhibbkmaaDoorPutRef
import Derived.Test.YthpfndbhibbkmaaDoorShown
namespace Go.Proofs.YthpfndbhibbkmaaDoor.codePuts
open Go.ChangeShapes Go.WideShapes Go.ChangeAt Go.RowKit Go.Proofs.YthpfndbhibbkmaaDoorW.PrintWords Go.Proofs.YthpfndbhibbkmaaDoor
set_option linter.unusedVariables false
set_option linter.unusedSimpArgs false

theorem lent_in {w w1 : World} {a : Option Addr} {n c g : Nat} {bs : List Int} (BW : BytesIn w a n c bs) (L : Lent w w1 bs g) : BytesIn w1 (some ⟨g, 0, none⟩) n (n + 40) bs := by
  have h1 := L.row.reads n (by rw [lentL_length, BW.len]; omega) (by have := BW.max; omega)
  have h2 : (lentL bs).take n = bs := by
    unfold lentL
    rw [List.take_append_of_le_length (by rw [BW.len]; omega), List.take_of_length_le (by rw [BW.len]; omega)]
  rw [h2] at h1
  exact ⟨⟨h1, BW.max, (fun h => by cases h), by omega⟩, BW.byte⟩

set_option maxRecDepth 100000 in
set_option maxHeartbeats 2000000 in
theorem good (a : Option Addr) (n c : Nat) (bs : List Int) (a2 : Option Addr) (len cap b2 o2 : Nat) (Z : Nat → Int × Int) (w : World) (T : Tabs w) (B : BytesIn w a n c bs) (h : InsIn w a2 len cap b2 o2 Z) (hm : len * 16 ≤ 140737488351232) :
    Calls Tryd.prog 5 #[.slice a n c, .slice a2 len cap] w fun e w' => e = .returned (.bool true) ∧ Below w.heap.size w w' := by
  have H := Lib.hid h
  have HB := Lib.hid B
  clear h B
  go_enter Tryd.func5, Tryd.ntmps5
  go_wp2_with fail
  go_loopw [5] (fun i wr => ∃ k : Nat, k ≤ len ∧ i = .int .i64 k ∧ Below w.heap.size w wr) (fun i _ => len - (intOf i).toNat)
  case atStart => exact ⟨0, by omega, rfl, Below.refl _ _⟩
  case round =>
    obtain ⟨k, hk, rfl, hB⟩ := hrel
    by_cases hlt : k < len
    · obtain ⟨ha, hbw⟩ := H.out.place (by omega)
      subst ha
      have HI := H.out.below hB
      have hc0 := HI.op k hlt
      have hc1 := HI.arg k hlt
      generalize (Z k).1 = op at *
      generalize (Z k).2 = A at *
      have hbs := hB.size
      have BW := HB.out.under hB
      have hp17 := fun (a : Option Addr) (c : Nat) (w : World) (T : Tabs w) (B : BytesArg w a n c bs) => Put_any op A a n c bs w T B _ rfl
      have hp18 := fun (a : Option Addr) (c : Nat) (w : World) (B : BytesArg w a n c bs) => rPut_any op A a n c bs w B _ rfl
      have hxl := putL_length bs op A
      have hbl := BW.len
      have hbm := BW.max
      generalize putE op A = er at *
      generalize hxs : putL bs op A = xs at *
      generalize hN : xs.length = N at *
      have H17 := Lib.hid hp17
      have H18 := Lib.hid hp18
      have HN := Lib.hid hN
      clear hp17 hp18 HI hxs hN
      go_wp2_with fail
      refine (lent_any a n c bs wr BW.toBytesArg).mono ?_
      rintro e w1 ⟨g, rfl, L⟩
      have hb1 := L.below
      have BR := lent_in BW L
      have HL := Lib.hid L
      have HBR := Lib.hid BR
      clear L BR
      have hs1 := hb1.size
      have hbw1 : b2 < w1.heap.size := by omega
      have d0 : w1.cell? ⟨b2, o2 + k * 2, none⟩ = some (.int .i64 op) := (hb1.cell (p := ⟨b2, o2 + k * 2, none⟩) (show b2 < wr.heap.size by omega)).trans hc0
      have d1 : w1.cell? ⟨b2, o2 + k * 2 + 1, none⟩ = some (.int .i64 A) := (hb1.cell (p := ⟨b2, o2 + k * 2 + 1, none⟩) (show b2 < wr.heap.size by omega)).trans hc1
      go_wp2_with fail
      refine (H17.out _ _ w1 ((T.below hB).below hb1) HBR.out.toBytesArg).mono ?_
      rintro e w2 ⟨ap, cp, rfl, OP⟩
      have hs2 := OP.below.size
      have hbw2 : b2 < w2.heap.size := by omega
      have p0 : w2.cell? ⟨b2, o2 + k * 2, none⟩ = some (.int .i64 op) := (OP.below.cell (p := ⟨b2, o2 + k * 2, none⟩) (show b2 < w1.heap.size by omega)).trans d0
      have p1 : w2.cell? ⟨b2, o2 + k * 2 + 1, none⟩ = some (.int .i64 A) := (OP.below.cell (p := ⟨b2, o2 + k * 2 + 1, none⟩) (show b2 < w1.heap.size by omega)).trans d1
      have q2 : Below w.heap.size w w2 := (hB.trans (hb1.mono hbs)).trans (OP.below.mono (by omega))
      have HOP := Lib.hid OP
      clear OP
      go_wp2_with fail
      refine (H17.out _ _ w2 (T.below q2) (HBR.out.toBytesArg.below HOP.out.below)).mono ?_
      rintro e w3 ⟨aq, cq, rfl, OQ⟩
      have hs3 := OQ.below.size
      have hbw3 : b2 < w3.heap.size := by omega
      have r0 : w3.cell? ⟨b2, o2 + k * 2, none⟩ = some (.int .i64 op) := (OQ.below.cell (p := ⟨b2, o2 + k * 2, none⟩) (show b2 < w2.heap.size by omega)).trans p0
      have r1 : w3.cell? ⟨b2, o2 + k * 2 + 1, none⟩ = some (.int .i64 A) := (OQ.below.cell (p := ⟨b2, o2 + k * 2 + 1, none⟩) (show b2 < w2.heap.size by omega)).trans p1
      have q3 : Below w.heap.size w w3 := q2.trans (OQ.below.mono q2.size)
      have HOQ := Lib.hid OQ
      clear OQ
      go_wp2_with fail
      refine (H18.out _ _ w3 (HB.out.under q3).toBytesArg).mono ?_
      rintro e w4 ⟨aw, cw, rfl, OW⟩
      have hs4 := OW.below.size
      have q4 : Below w.heap.size w w4 := q3.trans (OW.below.mono q3.size)
      have hrow : Row5 w4 g (lentL bs) := ((HL.out.row.below HOP.out.below).below HOQ.out.below).below OW.below
      have HOW := Lib.hid OW
      have HROW := Lib.hid hrow
      clear OW hrow
      go_wp2_with fail
      refine (still_any a n c g bs w4 (HB.out.under q4).toBytesArg HROW.out).mono ?_
      rintro e w5 ⟨rfl, hb5⟩
      have hs5 := hb5.size
      have q5 : Below w.heap.size w w5 := q4.trans (hb5.mono q4.size)
      -- what stands at w5
      have P5 : Hid (w5.ownsRow w1.heap.size 5 1 (.slice ap N cp) N (nums .u8 xs)) := by
        have h := HOP.out.own
        rw [HN.out] at h
        exact pw_own_below (pw_own_below (pw_own_below h HOQ.out.below) HOW.out.below) hb5
      have P5b : Hid (∀ g, ap = some ⟨g, 0, none⟩ → 0 < N → g < w2.heap.size) := by
        intro g hg hn
        have h := HOP.out.own
        rw [HN.out] at h
        subst hg
        exact (h.lt g rfl).2
      have Q5 : Hid (w5.ownsRow w2.heap.size 5 1 (.slice aq N cq) N (nums .u8 xs)) := by
        have h := HOQ.out.own
        rw [HN.out] at h
        exact pw_own_below (pw_own_below h HOW.out.below) hb5
      have W5 : Hid (w5.ownsRow w2.heap.size 5 1 (.slice aw N cw) N (nums .u8 xs)) := by
        have h := HOW.out.own
        rw [HN.out] at h
        exact own_lower (pw_own_below h hb5) hs3
      have R5 : Hid (Row5 w5 g (lentL bs)) := HROW.out.below hb5
      have Rg : Hid (g < w1.heap.size) := HL.out.row.lt
      have hcp := string_of_reads (P := Tryd.prog) (dst := 9) (c := N) Tryd.underlying34 Tryd.underlying5 Tryd.underlying9 (own_reads' P5.out)
      have hcw := string_of_reads (P := Tryd.prog) (dst := 9) (c := cw) Tryd.underlying34 Tryd.underlying5 Tryd.underlying9 (own_reads' W5.out)
      have HS : Hid (∀ w' : World, ∀ a c, ReadsInt w' .u8 a N xs → (convert 34 9 (.slice a N c)).run Tryd.prog w' = .ok (.string (strOfNums xs)) w') := fun w' a c h => string_of_reads (P := Tryd.prog) (dst := 9) (c := c) Tryd.underlying34 Tryd.underlying5 Tryd.underlying9 h
      generalize strOfNums xs = S at *
      have hSS : (S.toList == S.toList) = true := by simp
      clear hc0 hc1 d0 d1 p0 p1 r0 r1 H17 H18 HL HBR HOP HOQ HOW HROW q2 q3 q4 hb5 hb1
      -- LOOPS
      have hap : (ap = none ∧ N = 0) ∨ ∃ gp, ap = some ⟨gp, 0, none⟩ := by
        rcases P5.out.2 with ⟨h, _⟩ | ⟨gp, cap, cur, h, _⟩
        · injection h with h1 h2 h3
          exact .inl ⟨h1, h2⟩
        · injection h with h1 h2 h3
          exact .inr ⟨gp, h1⟩
      have hNm : N ≤ 140737488354003 := by omega
      rcases hap with ⟨rfl, hN0⟩ | ⟨gp, rfl⟩
      · have HN0 := Lib.hid hN0
        clear hN0
        go_wp2_with fail
        go_loopw [15] (fun i wx => ∃ j : Nat, j ≤ N ∧ i = .int .i64 j ∧ Below w5.heap.size w5 wx) (fun i _ => N - (intOf i).toNat)
        case atStart => exact ⟨0, by omega, rfl, Below.refl _ _⟩
        case round =>
          rename World => w6
          clear hcp hcw
          obtain ⟨j, hj, rfl, hb6⟩ := hrel
          obtain rfl : j = 0 := by have := HN0.out; omega
          have hjN : ¬ ((0 : Nat) : Int) < N := by have := HN0.out; omega
          have q6 : Below w.heap.size w w6 := q5.trans (hb6.mono q5.size)
          have Q6 : Hid (ReadsInt w6 .u8 aq N xs) := (own_reads' Q5.out).below hb6
          have W6 : Hid (ReadsInt w6 .u8 aw N xs) := (own_reads' W5.out).below hb6
          have R6 : Hid (Row5 w6 g (lentL bs)) := R5.out.below hb6
          have PS : Hid ((∃ gp, Value.slice none N N = .slice (some ⟨gp, 0, none⟩) N N ∧ ∃ ys, ReadsInt w6 .u8 (some ⟨gp, 0, none⟩) N ys) ∨ ∃ ys : List Int, ys.length ≤ N + 0 ∧ w6.ownsRow w6.heap.size 5 1 (.slice none N N) ys.length (nums .u8 ys)) := .inr ⟨[], by simp, by rw [HN0.out]; exact own_nil _ _ _ _⟩
          clear P5 P5b Q5 W5 R5 hb6
          go_wp2_with fail
          go_loopw [8, 16] (fun v i wx => ∃ j : Nat, j ≤ 20 ∧ i = .int .i64 j ∧ Hid ((∃ gp, v = .slice (some ⟨gp, 0, none⟩) N N ∧ ∃ ys, ReadsInt wx .u8 (some ⟨gp, 0, none⟩) N ys) ∨ ∃ ys, ys.length ≤ N + j ∧ wx.ownsRow w6.heap.size 5 1 v ys.length (nums .u8 ys)) ∧ Below w6.heap.size w6 wx) (fun _ i _ => 20 - (intOf i).toNat)
          case atStart => exact ⟨0, by omega, rfl, PS, Below.refl _ _⟩
          case round =>
            rename World => wx
            clear PS
            obtain ⟨j, hj, rfl, PS, hBx⟩ := hrel
            have hsx := hBx.size
            by_cases hj2 : j < 20
            · rcases PS.out with ⟨gq, rfl, ys, hrd⟩ | ⟨ys, hyl, HO⟩
              · go_wp2_with (at_builtin; refine print_append_clip w6.heap.size rfl _ _ rfl ⟨gq, 0, none⟩ N ys 200 rfl rfl hrd hsx (by omega) ?_; intro v1 w7 HO7 HB7)
                have B7 : Below w6.heap.size w6 w7 := hBx.trans (HB7.mono hsx)
                have P7 : Hid ((∃ gp, v1 = .slice (some ⟨gp, 0, none⟩) N N ∧ ∃ ys, ReadsInt w7 .u8 (some ⟨gp, 0, none⟩) N ys) ∨ ∃ ys, ys.length ≤ N + (j + 1) ∧ w7.ownsRow w6.heap.size 5 1 v1 ys.length (nums .u8 ys)) := .inr ⟨ys ++ [200], by have := hrd.1; simp only [List.length_append, List.length_singleton]; omega, by rw [List.length_append, hrd.1]; exact HO7⟩
                clear HO7 HB7 hrd PS
                go_wp2
                go_roundw
                case rel => exact ⟨j + 1, by omega, by go_num, P7, B7⟩
                case measure => simp [intOf]; omega
              · go_wp2_with (at_builtin; refine print_append_num w6.heap.size rfl _ _ 34 5 .u8 1 rfl Tryd.underlying34 info5 (by decide) u8 ys 200 rfl rfl HO hBx hsx (by omega) ?_; intro v1 w7 HO7 HB7 hg7 hp7)
                have P7 : Hid ((∃ gp, v1 = .slice (some ⟨gp, 0, none⟩) N N ∧ ∃ ys, ReadsInt w7 .u8 (some ⟨gp, 0, none⟩) N ys) ∨ ∃ ys, ys.length ≤ N + (j + 1) ∧ w7.ownsRow w6.heap.size 5 1 v1 ys.length (nums .u8 ys)) := .inr ⟨ys ++ [200], by simp only [List.length_append, List.length_singleton]; omega, HO7⟩
                clear HO7 hg7 hp7 PS HO
                go_wp2
                go_roundw
                case rel => exact ⟨j + 1, by omega, by go_num, P7, HB7⟩
                case measure => simp [intOf]; omega
            · have q8 : Below w.heap.size w wx := q6.trans (hBx.mono q6.size)
              have hcq := HS.out wx aq N (Q6.out.below hBx)
              have hcw2 := HS.out wx aw cw (W6.out.below hBx)
              have R8 : Hid (Row5 wx g (lentL bs)) := R6.out.below hBx
              clear PS
              go_wp2_with fail
              refine (still_any a n c g bs _ (HB.out.under q8).toBytesArg R8.out).mono ?_
              rintro e w9 ⟨rfl, hb9⟩
              have q9 : Below w.heap.size w w9 := q8.trans (hb9.mono q8.size)
              have hcq9 := HS.out w9 aq N ((Q6.out.below hBx).below hb9)
              have hcw9 := HS.out w9 aw cw ((W6.out.below hBx).below hb9)
              clear hcq hcw2
              go_wp2_with fail
              go_roundw
              case rel => exact ⟨k + 1, by omega, by go_num, q9⟩
              case measure => simp [intOf]; omega
      · go_wp2_with fail
        go_loopw [15] (fun i wx => ∃ j : Nat, j ≤ N ∧ i = .int .i64 j ∧ Hid (∃ ys, ys.length = N ∧ wx.ownsRow w1.heap.size 5 1 (.slice (some ⟨gp, 0, none⟩) N cp) N (nums .u8 ys)) ∧ Hid (w5.grownBy wx (some gp))) (fun i _ => N - (intOf i).toNat)
        case atStart => exact ⟨0, by omega, rfl, ⟨xs, HN.out, P5.out⟩, World.grownBy.refl _ _⟩
        case round =>
          rename World => w6
          clear hcp hcw
          obtain ⟨j, hj, rfl, HE, HG⟩ := hrel
          obtain ⟨ys, hys, HO⟩ := HE.out
          by_cases hjN : (j : Int) < N
          · have hat := own_at HO j (by omega) (by omega)
            have hst := own_store HO (j : Int) 200
            rw [Int.toNat_natCast] at hat hst
            obtain ⟨t0, t1⟩ := hat
            generalize rd ys (j : Int) = z at t0
            have HE2 : Hid (∃ ys, ys.length = N ∧ (w6.setCell ⟨gp, j, none⟩ (.int .u8 200)).ownsRow w1.heap.size 5 1 (.slice (some ⟨gp, 0, none⟩) N cp) N (nums .u8 ys)) := ⟨_, by rw [List.length_set]; exact hys, hst.1⟩
            have HG2 : Hid (w5.grownBy (w6.setCell ⟨gp, j, none⟩ (.int .u8 200)) (some gp)) := grown_then HG.out hst.2 (.inl rfl)
            clear hst HO HE HG
            go_wp2
            go_roundw
            case rel => exact ⟨j + 1, by omega, by go_num, HE2, HG2⟩
            case measure => simp [intOf]; omega
          · have hgp : gp < w5.heap.size ∧ w1.heap.size ≤ gp := by have := P5.out.lt gp rfl; exact ⟨this.2, this.1⟩
            have hgp2 : 0 < N → gp < w2.heap.size := P5b.out gp rfl
            have hG := HG.out
            have q6 : Below w.heap.size w w6 := q5.grown hG q5.size (fun k hk => by injection hk with hk; subst hk; have := q5.size; omega)
            have hfar : ∀ (ax : Option Addr) (cx : Nat), w5.ownsRow w2.heap.size 5 1 (.slice ax N cx) N (nums .u8 xs) → ReadsInt w6 .u8 ax N xs := by
              intro ax cx hO
              rcases Nat.eq_zero_or_pos N with h0 | hp
              · exact ⟨HN.out, by omega, fun h => absurd h (by omega)⟩
              · have hg2 := hgp2 hp
                have hne : (Value.slice ax N cx).ownBlock ≠ some gp := by
                  intro e
                  have := (hO.lt gp e).1
                  omega
                exact own_reads' (own_other hO hG (.inr hne))
            have Q6 : Hid (ReadsInt w6 .u8 aq N xs) := hfar aq cq Q5.out
            have W6 : Hid (ReadsInt w6 .u8 aw N xs) := hfar aw cw W5.out
            have R6 : Hid (Row5 w6 g (lentL bs)) := (hG.block g R5.out.lt (by intro e; injection e with e; have := Rg.out; omega)).trans R5.out
            have PS : Hid ((∃ gq, Value.slice (some ⟨gp, 0, none⟩) N N = .slice (some ⟨gq, 0, none⟩) N N ∧ ∃ ys, ReadsInt w6 .u8 (some ⟨gq, 0, none⟩) N ys) ∨ ∃ ys : List Int, ys.length ≤ N + 0 ∧ w6.ownsRow w6.heap.size 5 1 (.slice (some ⟨gp, 0, none⟩) N N) ys.length (nums .u8 ys)) := .inl ⟨gp, rfl, ys, own_reads' HO⟩
            clear P5 P5b Q5 W5 R5 hG HG HE HO hfar
            go_wp2_with fail
            go_loopw [8, 16] (fun v i wx => ∃ j : Nat, j ≤ 20 ∧ i = .int .i64 j ∧ Hid ((∃ gp, v = .slice (some ⟨gp, 0, none⟩) N N ∧ ∃ ys, ReadsInt wx .u8 (some ⟨gp, 0, none⟩) N ys) ∨ ∃ ys, ys.length ≤ N + j ∧ wx.ownsRow w6.heap.size 5 1 v ys.length (nums .u8 ys)) ∧ Below w6.heap.size w6 wx) (fun _ i _ => 20 - (intOf i).toNat)
            case atStart => exact ⟨0, by omega, rfl, PS, Below.refl _ _⟩
            case round =>
              rename World => wx
              clear PS
              obtain ⟨j, hj, rfl, PS, hBx⟩ := hrel
              have hsx := hBx.size
              by_cases hj2 : j < 20
              · rcases PS.out with ⟨gq, rfl, ys, hrd⟩ | ⟨ys, hyl, HO⟩
                · go_wp2_with (at_builtin; refine print_append_clip w6.heap.size rfl _ _ rfl ⟨gq, 0, none⟩ N ys 200 rfl rfl hrd hsx (by omega) ?_; intro v1 w7 HO7 HB7)
                  have B7 : Below w6.heap.size w6 w7 := hBx.trans (HB7.mono hsx)
                  have P7 : Hid ((∃ gp, v1 = .slice (some ⟨gp, 0, none⟩) N N ∧ ∃ ys, ReadsInt w7 .u8 (some ⟨gp, 0, none⟩) N ys) ∨ ∃ ys, ys.length ≤ N + (j + 1) ∧ w7.ownsRow w6.heap.size 5 1 v1 ys.length (nums .u8 ys)) := .inr ⟨ys ++ [200], by have := hrd.1; simp only [List.length_append, List.length_singleton]; omega, by rw [List.length_append, hrd.1]; exact HO7⟩
                  clear HO7 HB7 hrd PS
                  go_wp2
                  go_roundw
                  case rel => exact ⟨j + 1, by omega, by go_num, P7, B7⟩
                  case measure => simp [intOf]; omega
                · go_wp2_with (at_builtin; refine print_append_num w6.heap.size rfl _ _ 34 5 .u8 1 rfl Tryd.underlying34 info5 (by decide) u8 ys 200 rfl rfl HO hBx hsx (by omega) ?_; intro v1 w7 HO7 HB7 hg7 hp7)
                  have P7 : Hid ((∃ gp, v1 = .slice (some ⟨gp, 0, none⟩) N N ∧ ∃ ys, ReadsInt w7 .u8 (some ⟨gp, 0, none⟩) N ys) ∨ ∃ ys, ys.length ≤ N + (j + 1) ∧ w7.ownsRow w6.heap.size 5 1 v1 ys.length (nums .u8 ys)) := .inr ⟨ys ++ [200], by simp only [List.length_append, List.length_singleton]; omega, HO7⟩
                  clear HO7 hg7 hp7 PS HO
                  go_wp2
                  go_roundw
                  case rel => exact ⟨j + 1, by omega, by go_num, P7, HB7⟩
                  case measure => simp [intOf]; omega
              · have q8 : Below w.heap.size w wx := q6.trans (hBx.mono q6.size)
                have hcq := HS.out wx aq N (Q6.out.below hBx)
                have hcw2 := HS.out wx aw cw (W6.out.below hBx)
                have R8 : Hid (Row5 wx g (lentL bs)) := R6.out.below hBx
                clear PS
                go_wp2_with fail
                refine (still_any a n c g bs _ (HB.out.under q8).toBytesArg R8.out).mono ?_
                rintro e w9 ⟨rfl, hb9⟩
                have q9 : Below w.heap.size w w9 := q8.trans (hb9.mono q8.size)
                have hcq9 := HS.out w9 aq N ((Q6.out.below hBx).below hb9)
                have hcw9 := HS.out w9 aw cw ((W6.out.below hBx).below hb9)
                clear hcq hcw2
                go_wp2_with fail
                go_roundw
                case rel => exact ⟨k + 1, by omega, by go_num, q9⟩
                case measure => simp [intOf]; omega
    · clear H
      have HP := Lib.hid (shown_any wr (T.below hB))
      go_wp2_with fail
      refine HP.out.mono ?_
      rintro e w2 ⟨rfl, hb2⟩
      have q2 := hB.trans (hb2.mono hB.size)
      go_wp2_with fail
      go_ret
      exact ⟨rfl, q2⟩

theorem walk {w : World} (a : Option Addr) (n c : Nat) (bs : List Int) (B : BytesIn w a n c bs) (a2 : Option Addr) (len cap b2 o2 : Nat) (Z : Nat → Int × Int) (h : InsIn w a2 len cap b2 o2 Z) (_ : True) (hm : len * 16 ≤ 140737488351232) (T : Tabs w) :
    Calls Tryd.prog 5 #[.slice a n c, .slice a2 len cap] w fun e w' => e = .returned (.bool true) ∧ Below w.heap.size w w' := good a n c bs a2 len cap b2 o2 Z w T B h hm
end Go.Proofs.YthpfndbhibbkmaaDoor.codePuts
