/- CONTRACT of scruplelaw08.listed: it returns true for all bytes up to 2^22. -/
import Derived.Test.YthpfndbhibbkmaaDoorGrow
import Derived.Test.YthpfndbhibbkmaaDoorOne
namespace Go.Proofs.YthpfndbhibbkmaaDoor
open Go.ChangeShapes Go.WideShapes Go.ChangeAt Go.RowKit Go.Proofs.YthpfndbhibbkmaaDoorW.PrintWords Go.Proofs.YthpfndbhibbkmaaDoor.codeOne
set_option linter.unusedVariables false
set_option linter.unusedSimpArgs false

/-- A block of cells of a type, not frozen. -/
def Blk41 (w : World) (g : Nat) (t : TypeId) (cur : Array Value) : Prop := w.heap[g]? = some (.cells cur t (0, 0))
theorem Blk41.below {w w1 : World} {g : Nat} {t : TypeId} {cur : Array Value} (h : Blk41 w g t cur) (hb : Below w.heap.size w w1) : Blk41 w1 g t cur := (hb.block g (Array.getElem?_eq_some_iff.1 h).1).trans h
theorem own_blk {w : World} {base N c size : Nat} {t : TypeId} {a : Option Addr} {xs : List Value} (h : w.ownsRow base t size (.slice a N c) N xs) (hp : 0 < N) :
    ∃ g cur, a = some ⟨g, 0, none⟩ ∧ base ≤ g ∧ g < w.heap.size ∧ Blk41 w g t cur ∧ N * size ≤ cur.size := by
  rcases h.2 with ⟨h1, _⟩ | ⟨g, cap, cur, hv, hb, hg, hn, hm, hc, _⟩
  · injection h1 with _ h2 _
    omega
  · injection hv with h1 h2 h3
    exact ⟨g, cur, h1, hb, (Array.getElem?_eq_some_iff.1 hg).1, hg, by rw [hc]; exact Nat.mul_le_mul_right _ hn⟩
theorem own_addr {w : World} {base M N c size : Nat} {t : TypeId} {a : Option Addr} {xs : List Value} (h : w.ownsRow base t size (.slice a N c) M xs) : a = none ∨ ∃ g, a = some ⟨g, 0, none⟩ ∧ g < w.heap.size := by
  rcases h.2 with ⟨h1, _⟩ | ⟨g, cap, cur, hv, _, hg, _⟩
  · injection h1 with h1
    exact .inl h1
  · injection hv with h1
    exact .inr ⟨g, h1, (Array.getElem?_eq_some_iff.1 hg).1⟩
theorem rd_at {w : World} {k : IntKind} {a : Option Addr} {n i : Nat} {xs : List Int} (h : ReadsInt w k a n xs) (hi : i < n) : ∃ b o, a = some ⟨b, o, none⟩ ∧ w.cell? ⟨b, o + i, none⟩ = some (.int k (xs.getD i 0)) := by
  obtain ⟨ad, rfl, hc⟩ := h.2.2 (by omega)
  obtain ⟨b, o, sp⟩ := ad
  have := World.cell?_spot (hc 0 (by omega))
  have hs : sp = none := by simpa [Addr.add] using this
  subst hs
  have h1 := hc i hi
  rw [Go.WideShapes.add_plain] at h1
  exact ⟨b, o, rfl, h1⟩

set_option maxRecDepth 100000 in
set_option maxHeartbeats 2000000 in
theorem listed_any (a : Option Addr) (n c : Nat) (bs : List Int) (w : World) (T : Tabs w) (B : BytesIn w a n c bs) (hn : n ≤ 67108864) :
    Calls Tryd.prog 27 #[.slice a n c] w fun e w' => e = .returned (.bool true) ∧ Below w.heap.size w w' := by
  have hl := B.len
  obtain ⟨ps, pl, at0, er, hr⟩ : ∃ ps pl at0 er, listR bs = (ps, pl, at0, er) := ⟨_, _, _, _, rfl⟩
  have h28 := fun (w' : World) (T' : Tabs w') (B' : BytesIn w' a n c bs) => List_any a n c bs w' T' B' 8796093022000 (by omega) (.inl (by omega)) ps pl at0 er _ hr rfl
  have h36 := fun (w' : World) (B' : BytesIn w' a n c bs) => rList_any a n c bs w' B' 8796093022000 (by omega) (.inl (by omega)) ps pl at0 er _ hr rfl
  have hNb : ps.length ≤ 67108864 := by
    have hr2 := hr
    unfold listR at hr2
    have hRO := run_ok bs B.byte (bs.length + 1) 0 (by omega) (by omega)
    have hRE := run_err bs (bs.length + 1) 0 (by omega) (by omega)
    rw [hr2] at hRO hRE
    simp only at hRO hRE
    by_cases he : er = 0
    · have h1 := (hRO he).2.1
      have h2 := encs_len ps
      rw [h1, List.drop_zero] at h2
      omega
    · obtain ⟨_, h1, _⟩ := hRE he
      rw [h1]
      simp
  generalize hN : ps.length = N at *
  have HN := Lib.hid hN
  have H28 := Lib.hid h28
  have H36 := Lib.hid h36
  have HB := Lib.hid B
  clear h28 h36 B hN hr
  go_enter Tryd.func27, Tryd.ntmps27
  go_wp2_with fail
  refine (H28.out w T HB.out).mono ?_
  rintro e w1 ⟨a1, c1, a2, c2, rfl, L1⟩
  have q1 := L1.below
  have HL1 := Lib.hid L1
  clear L1
  go_wp2_with fail
  refine (H28.out w1 (T.below q1) (HB.out.under q1)).mono ?_
  rintro e w2 ⟨b1, d1, b2, d2, rfl, L2⟩
  have q2 := q1.trans (L2.below.mono q1.size)
  have HL2 := Lib.hid L2
  clear L2
  go_wp2_with fail
  refine (H36.out w2 (HB.out.under q2)).mono ?_
  rintro e w3 ⟨e1, f1, e2, f2, rfl, L3⟩
  have q3 := q2.trans (L3.below.mono q2.size)
  have HL3 := Lib.hid L3
  clear L3
  go_wp2_with fail
  have R1 := Lib.hid (((own_rd HL1.out.ins HN.out).below HL2.out.below).below HL3.out.below)
  have P1 := Lib.hid (((own_reads' HL1.out.places).below HL2.out.below).below HL3.out.below)
  have R3 := Lib.hid (own_rd HL3.out.ins HN.out)
  have P3 := Lib.hid (own_reads' HL3.out.places)
  go_loopw [15] (fun i wr => ∃ k : Nat, k ≤ N ∧ i = .int .i64 k ∧ Below w3.heap.size w3 wr) (fun i _ => N - (intOf i).toNat)
  case atStart => exact ⟨0, by omega, rfl, Below.refl _ _⟩
  case round =>
    obtain ⟨k, hk, rfl, hB⟩ := hrel
    by_cases hlt : k < N
    · obtain ⟨g1, o1, rfl, hbw1, hcell1⟩ := (R1.out.below hB) (by omega)
      obtain ⟨m0, m1⟩ := hcell1 k hlt
      obtain ⟨g3, o3, rfl, hbw3, hcell3⟩ := (R3.out.below hB) (by omega)
      obtain ⟨n0, n1⟩ := hcell3 k hlt
      obtain ⟨g2, o2, rfl, p0⟩ := rd_at (P1.out.below hB) hlt
      obtain ⟨g4, o4, rfl, p1⟩ := rd_at (P3.out.below hB) hlt
      generalize (insF ps k).1 = op at *
      generalize (insF ps k).2 = A at *
      generalize pl.getD k 0 = pk at *
      clear hcell1 hcell3
      go_wp2_with fail
      go_quiet (fail)
      go_wp2
      go_roundw
      case rel => exact ⟨k + 1, by omega, by go_num, ⟨hB.os, hB.tape, hB.output, hB.size, hB.block⟩⟩
      case measure => simp [intOf]; omega
    · rename World => wA
      have hBA := Lib.hid hB
      have RW1 : Hid (0 < N → ∃ g cur, a1 = some ⟨g, 0, none⟩ ∧ w.heap.size ≤ g ∧ g < w1.heap.size ∧ Blk41 wA g 41 cur ∧ N * 2 ≤ cur.size) := fun hp => by
        obtain ⟨inner, hi, _⟩ := HL1.out.ins
        rw [HN.out] at hi
        obtain ⟨g, cur, h1, h2, h3, h4, h5⟩ := own_blk hi hp
        exact ⟨g, cur, h1, h2, h3, ((Blk41.below h4 HL2.out.below).below HL3.out.below).below hB, h5⟩
      have RW2 : Hid (0 < N → ∃ g cur, a2 = some ⟨g, 0, none⟩ ∧ w.heap.size ≤ g ∧ g < w1.heap.size ∧ Blk41 wA g 3 cur ∧ N * 1 ≤ cur.size) := fun hp => by
        obtain ⟨g, cur, h1, h2, h3, h4, h5⟩ := own_blk HL1.out.places hp
        exact ⟨g, cur, h1, h2, h3, ((Blk41.below h4 HL2.out.below).below HL3.out.below).below hB, h5⟩
      have qA : Below w.heap.size w wA := q3.trans (hB.mono q3.size)
      have hsA : w1.heap.size ≤ wA.heap.size := by have := HL2.out.below.size; have := HL3.out.below.size; have := hB.size; omega
      clear hB
      go_wp2_with fail
      go_loopw [16] (fun i wr => ∃ j : Nat, j ≤ N ∧ i = .int .i64 j ∧ Hid (0 < N → ∃ g cur, a1 = some ⟨g, 0, none⟩ ∧ w.heap.size ≤ g ∧ g < w1.heap.size ∧ Blk41 wr g 41 cur ∧ N * 2 ≤ cur.size) ∧ Hid (0 < N → ∃ g cur, a2 = some ⟨g, 0, none⟩ ∧ w.heap.size ≤ g ∧ g < w1.heap.size ∧ Blk41 wr g 3 cur ∧ N * 1 ≤ cur.size) ∧ Hid (∀ g, w1.heap.size ≤ g → wr.heap[g]? = wA.heap[g]?) ∧ Hid (wA.heap.size ≤ wr.heap.size) ∧ Below w.heap.size w wr) (fun i _ => N - (intOf i).toNat)
      case atStart => exact ⟨0, by omega, rfl, RW1, RW2, fun _ _ => rfl, Nat.le_refl _, qA⟩
      case round =>
        clear RW1 RW2
        obtain ⟨j, hj, rfl, RW1, RW2, HK, HSZ, qr⟩ := hrel
        by_cases hjt : j < N
        · obtain ⟨g1, cur1, rfl, x1, x2, x3, x4⟩ := RW1.out (by omega)
          obtain ⟨g2, cur2, rfl, z1, z2, z3, z4⟩ := RW2.out (by omega)
          have hne : g1 ≠ g2 := by
            rintro rfl
            have e := x3.symm.trans z3
            injection e with e
            injection e with _ e2 _
            cases e2
          have i0 : j * 2 < cur1.size := by omega
          have i1 : j * 2 + 1 < cur1.size := by omega
          have i2 : j < cur2.size := by omega
          have t0 : wr.cell? ⟨g1, j * 2, none⟩ = some cur1[j * 2] := by rw [cell_of_row wr g1 _ _ _ _ x3]; exact Array.getElem?_eq_getElem i0
          have t1 : wr.cell? ⟨g1, j * 2 + 1, none⟩ = some cur1[j * 2 + 1] := by rw [cell_of_row wr g1 _ _ _ _ x3]; exact Array.getElem?_eq_getElem i1
          have t2 : wr.cell? ⟨g2, j, none⟩ = some cur2[j] := by rw [cell_of_row wr g2 _ _ _ _ z3]; exact Array.getElem?_eq_getElem i2
          have f0 : wr.frozen? ⟨g1, j * 2, none⟩ = false := blk_frozen x3 _
          have f1 : wr.frozen? ⟨g1, j * 2 + 1, none⟩ = false := blk_frozen x3 _
          have f2 : wr.frozen? ⟨g2, j, none⟩ = false := blk_frozen z3 _
          generalize cur1[j * 2] = y0 at *
          generalize cur1[j * 2 + 1] = y1 at *
          generalize cur2[j] = y2 at *
          have W1 : Hid (0 < N → ∃ g cur, some (⟨g1, 0, none⟩ : Addr) = some ⟨g, 0, none⟩ ∧ w.heap.size ≤ g ∧ g < w1.heap.size ∧ Blk41 (((wr.setCell ⟨g1, j * 2, none⟩ (.int .i64 (-5))).setCell ⟨g1, j * 2 + 1, none⟩ (.int .i64 0)).setCell ⟨g2, j, none⟩ (.int .i64 (-5))) g 41 cur ∧ N * 2 ≤ cur.size) := fun _ => ⟨g1, _, rfl, x1, x2, blk_far (blk_set (blk_set x3 _ _) _ _) (by simpa using hne) _, by simp; omega⟩
          have W2 : Hid (0 < N → ∃ g cur, some (⟨g2, 0, none⟩ : Addr) = some ⟨g, 0, none⟩ ∧ w.heap.size ≤ g ∧ g < w1.heap.size ∧ Blk41 (((wr.setCell ⟨g1, j * 2, none⟩ (.int .i64 (-5))).setCell ⟨g1, j * 2 + 1, none⟩ (.int .i64 0)).setCell ⟨g2, j, none⟩ (.int .i64 (-5))) g 3 cur ∧ N * 1 ≤ cur.size) := fun _ => ⟨g2, _, rfl, z1, z2, blk_set (blk_far (blk_far z3 (by simpa using Ne.symm hne) _) (by simpa using Ne.symm hne) _) _ _, by simp; omega⟩
          have WK : Hid (∀ g, w1.heap.size ≤ g → (((wr.setCell ⟨g1, j * 2, none⟩ (.int .i64 (-5))).setCell ⟨g1, j * 2 + 1, none⟩ (.int .i64 0)).setCell ⟨g2, j, none⟩ (.int .i64 (-5))).heap[g]? = wA.heap[g]?) := fun g hg => by
            rw [Below.heap_setCell _ _ _ g (by simp; omega), Below.heap_setCell _ _ _ g (by simp; omega), Below.heap_setCell _ _ _ g (by simp; omega)]
            exact HK.out g hg
          have qs := ((qr.setCell (p := ⟨g1, j * 2, none⟩) x1 (.int .i64 (-5))).setCell (p := ⟨g1, j * 2 + 1, none⟩) x1 (.int .i64 0)).setCell (p := ⟨g2, j, none⟩) z1 (.int .i64 (-5))
          have WS : Hid (wA.heap.size ≤ (((wr.setCell ⟨g1, j * 2, none⟩ (.int .i64 (-5))).setCell ⟨g1, j * 2 + 1, none⟩ (.int .i64 0)).setCell ⟨g2, j, none⟩ (.int .i64 (-5))).heap.size) := by
            show _ ≤ _
            have := HSZ.out
            simpa [World.setCell] using this
          go_wp2_with fail
          go_roundw
          case rel => exact ⟨j + 1, by omega, by go_num, W1, W2, WK, WS, qs⟩
          case measure => simp [intOf]; omega
        · rename World => wB
          have hBA3 := hBA.out
          have mv : ∀ {t : TypeId} {size : Nat} {v : Value} {xs : List Value}, wA.ownsRow w1.heap.size t size v N xs → wB.ownsRow w1.heap.size t size v N xs := fun h => own_move h (fun k hk => HK.out k (own_base h k hk))
          have K1 : Hid (RdIns wB b1 N (insF ps)) := by
            obtain ⟨inner, hi, hR⟩ := (HL2.out.ins.below HL3.out.below).below hBA3
            rw [HN.out] at hi
            exact own_rd (base := w1.heap.size) (c := d1) ⟨inner, by rw [HN.out]; exact mv hi, hR⟩ HN.out
          have K2 : Hid (ReadsInt wB .i64 b2 N pl) := own_reads' (mv (pw_own_below (pw_own_below HL2.out.places HL3.out.below) hBA3))
          have K3 : Hid (RdIns wB e1 N (insF ps)) := by
            obtain ⟨inner, hi, hR⟩ := (HL3.out.ins.lower HL2.out.below.size).below hBA3
            rw [HN.out] at hi
            exact own_rd (base := w1.heap.size) (c := f1) ⟨inner, by rw [HN.out]; exact mv hi, hR⟩ HN.out
          have K4 : Hid (ReadsInt wB .i64 e2 N pl) := own_reads' (mv (pw_own_below (own_lower HL3.out.places HL2.out.below.size) hBA3))
          have qB := qr
          have V1 : Hid (Grow wB wB.heap.size 41 2 N 0 (.slice a1 N N)) := by
            rcases Nat.eq_zero_or_pos N with h0 | hp
            · rcases own_addr HL1.out.ins.choose_spec.1 with h | ⟨g, h, hgl⟩
              · exact .inr ⟨0, [], Nat.zero_le _, by rw [h, h0]; exact own_nil _ _ _ _⟩
              · exact .inl ⟨g, by rw [h], by have := HSZ.out; omega, [], by rw [h0]; rfl, fun j v hv => by simp at hv⟩
            · obtain ⟨g, cur, h1, _, _, h4, h5⟩ := RW1.out hp
              refine .inl ⟨g, by rw [h1], (Array.getElem?_eq_some_iff.1 h4).1, cur.toList.take (N * 2), by simp; omega, fun i v hv => ?_⟩
              rw [cell_of_row wB g i _ _ _ h4]
              rw [List.getElem?_take] at hv
              split at hv
              · simpa using hv
              · cases hv
          have V2 : Hid (Grow wB wB.heap.size 3 1 N 0 (.slice a2 N N)) := by
            rcases Nat.eq_zero_or_pos N with h0 | hp
            · rcases own_addr HL1.out.places with h | ⟨g, h, hgl⟩
              · exact .inr ⟨0, [], Nat.zero_le _, by rw [h, h0]; exact own_nil _ _ _ _⟩
              · exact .inl ⟨g, by rw [h], by have := HSZ.out; omega, [], by rw [h0]; rfl, fun j v hv => by simp at hv⟩
            · obtain ⟨g, cur, h1, _, _, h4, h5⟩ := RW2.out hp
              refine .inl ⟨g, by rw [h1], (Array.getElem?_eq_some_iff.1 h4).1, cur.toList.take (N * 1), by simp; omega, fun i v hv => ?_⟩
              rw [cell_of_row wB g i _ _ _ h4]
              rw [List.getElem?_take] at hv
              split at hv
              · simpa using hv
              · cases hv
          go_wp2_with fail
          go_loopw [3, 4, 17] (fun v u i wx => ∃ j : Nat, j ≤ 9 ∧ i = .int .i64 j ∧ Hid (Grow wx wB.heap.size 41 2 N j v) ∧ Hid (Grow wx wB.heap.size 3 1 N j u) ∧ Below wB.heap.size wB wx) (fun _ _ i _ => 9 - (intOf i).toNat)
          case atStart => exact ⟨0, by omega, rfl, V1, V2, Below.refl _ _⟩
          case round =>
            rename World => wx
            clear V1 V2
            obtain ⟨j, hj, rfl, V1, V2, hBx⟩ := hrel
            have hsx := hBx.size
            by_cases hj2 : j < 9
            · have V1a := V1.out
              have V2a := V2.out
              go_wp2_with (first
                | (at_builtin; refine print_grow wB.heap.size rfl _ _ 35 41 _ 2 16 rfl Tryd.underlying35 info41 rfl (by decide) (by decide) N j u3 [.int .i64 (-5), .int .i64 0] rfl (one_ins_cells _ _) (V1a.below ((Below.refl _ _).alloc (Nat.le_refl _) _)) rfl (by simp [Act.eval]) (by simp; omega) (by omega) ?_; intro v1 w2 G1 B2 K2; have q2 : Below wB.heap.size wB w2 := (by first | exact hBx.trans B2 | exact (hBx.alloc hsx _).trans B2); have hs2 := q2.size; have V3 : Grow w2 wB.heap.size 3 1 N j u4 := (by first | exact K2 _ _ _ _ (by decide) V2a | exact K2 _ _ _ _ (by decide) (V2a.below ((Below.refl _ _).alloc (Nat.le_refl _) _))); clear K2 B2)
                | (at_builtin; refine print_grow wB.heap.size rfl _ _ 35 41 _ 2 16 rfl Tryd.underlying35 info41 rfl (by decide) (by decide) N j u3 [.int .i64 (-5), .int .i64 0] rfl (one_ins_cells _ _) V1a rfl (by simp [Act.eval]) (by omega) (by omega) ?_; intro v1 w2 G1 B2 K2; have q2 : Below wB.heap.size wB w2 := (by first | exact hBx.trans B2 | exact (hBx.alloc hsx _).trans B2); have hs2 := q2.size; have V3 : Grow w2 wB.heap.size 3 1 N j u4 := (by first | exact K2 _ _ _ _ (by decide) V2a | exact K2 _ _ _ _ (by decide) (V2a.below ((Below.refl _ _).alloc (Nat.le_refl _) _))); clear K2 B2)
                | (at_builtin; refine print_grow wB.heap.size rfl _ _ 45 3 _ 1 8 rfl Tryd.underlying45 info3 rfl (by decide) (by decide) N j u4 [.int .i64 (-5)] rfl (by intro u hu; simp at hu; subst hu; rfl) V3 rfl (by simp [Act.eval]) hs2 (by omega) ?_; intro v2 w3 G2 B3 K3; have q3 : Below wB.heap.size wB w3 := q2.trans B3; have G3 : Hid (Grow w3 wB.heap.size 41 2 N (j + 1) v1) := K3 _ _ _ _ (by decide) G1; have G4 := Lib.hid G2; clear K3 B3 G1 G2 V3))
              go_roundw
              case rel =>
                first
                | exact ⟨j + 1, by omega, by go_num, G3, G4, q3⟩
                | ((repeat apply Exists.intro); exact ⟨⟨j + 1, by omega, by go_num, G3, G4, q3⟩, rfl⟩)
              case measure => simp [intOf]; omega
            · have qX : Below w.heap.size w wx := qB.trans (hBx.mono qB.size)
              have K1x := Lib.hid (K1.out.below hBx)
              have K2x := Lib.hid (K2.out.below hBx)
              have K3x := Lib.hid (K3.out.below hBx)
              have K4x := Lib.hid (K4.out.below hBx)
              clear V1 V2 hBx hsx
              go_wp2_with fail
              go_loopw [18] (fun i wr => ∃ k : Nat, k ≤ N ∧ i = .int .i64 k ∧ Below wx.heap.size wx wr) (fun i _ => N - (intOf i).toNat)
              case atStart => exact ⟨0, by omega, rfl, Below.refl _ _⟩
              case round =>
                obtain ⟨k, hk, rfl, hB⟩ := hrel
                by_cases hlt : k < N
                · obtain ⟨g1, o1, rfl, hbw1, hcell1⟩ := (K1x.out.below hB) (by omega)
                  obtain ⟨m0, m1⟩ := hcell1 k hlt
                  obtain ⟨g3, o3, rfl, hbw3, hcell3⟩ := (K3x.out.below hB) (by omega)
                  obtain ⟨n0, n1⟩ := hcell3 k hlt
                  obtain ⟨g2, o2, rfl, p0⟩ := rd_at (K2x.out.below hB) hlt
                  obtain ⟨g4, o4, rfl, p1⟩ := rd_at (K4x.out.below hB) hlt
                  generalize (insF ps k).1 = op at *
                  generalize (insF ps k).2 = A at *
                  generalize pl.getD k 0 = pk at *
                  clear hcell1 hcell3
                  go_wp2_with fail
                  go_quiet (fail)
                  go_wp2
                  go_roundw
                  case rel => exact ⟨k + 1, by omega, by go_num, ⟨hB.os, hB.tape, hB.output, hB.size, hB.block⟩⟩
                  case measure => simp [intOf]; omega
                · have hF : Below w.heap.size w wr := qX.trans (hB.mono qX.size)
                  go_wp2
                  go_ret
                  exact ⟨rfl, hF⟩
end Go.Proofs.YthpfndbhibbkmaaDoor
