/- THE WALK of 'scruplelaw08.CodeLists': it returns true for all instructions and all bytes, each slice of no more than 2^20, over a world that holds the operations' table. -/
import Derived.Test.YthpfndbhibbkmaaDoorListed
import Derived.Test.YthpfndbhibbkmaaDoorBack
import Derived.Test.YthpfndbhibbkmaaDoorShown
namespace Go.Proofs.YthpfndbhibbkmaaDoor.codeLists
open Go.ChangeShapes Go.WideShapes Go.ChangeAt Go.RowKit Go.Proofs.YthpfndbhibbkmaaDoorW.PrintWords Go.Proofs.YthpfndbhibbkmaaDoor Go.Proofs.YthpfndbhibbkmaaDoor.codeOne Go.Proofs.YthpfndbhibbkmaaDoor.codeBack
set_option linter.unusedVariables false
set_option linter.unusedSimpArgs false

/-- Instructions' cells, one behind the other. -/
def insCs (Z : Nat → Int × Int) (n : Nat) : List Value := (List.range (n * 2)).map fun j => .int .i64 (if j % 2 = 0 then (Z (j / 2)).1 else (Z (j / 2)).2)
theorem insCs_length (Z : Nat → Int × Int) (n : Nat) : (insCs Z n).length = n * 2 := by simp [insCs]
theorem insCs_at (Z : Nat → Int × Int) (n j : Nat) (h : j < n * 2) : (insCs Z n)[j]? = some (.int .i64 (if j % 2 = 0 then (Z (j / 2)).1 else (Z (j / 2)).2)) := by
  simp [insCs, h]
theorem insCs_one (Z : Nat → Int × Int) (n : Nat) : ∀ v ∈ insCs Z n, v.oneCell' = true := by
  intro v hv
  simp only [insCs, List.mem_map] at hv
  obtain ⟨j, _, rfl⟩ := hv
  rfl

theorem size41 : (Tryd.prog.info? 41).map (·.size) = some 2 := by kernel_rfl

theorem run_copy2 (w : World) (g n c c' : Nat) (ad : Addr) (cs : List Value) (hn : cs.length = n * 2) (hsrc : ∀ j v, cs[j]? = some v → w.cell? (ad.add j) = some v)
    (hc : ∀ j, j < cs.length → (w.cell? ⟨g, 0 + j, none⟩).isSome = true) (hf : ∀ j, j < cs.length → w.frozen? ⟨g, 0 + j, none⟩ = false) (h1 : ∀ v ∈ cs, v.oneCell' = true) (ty : TypeId) :
    (Builtin.copy_ #[35, 35] ty #[.slice (some ⟨g, 0, none⟩) n c, .slice (some ad) n c']).run Tryd.prog w = .ok (goInt (n : Int)) (w.setCells g 0 cs) := by
  have hl := run_loadCells_list (P := Tryd.prog) w ad cs hsrc
  have hst := run_storeCells_cells (P := Tryd.prog) g 0 cs 0 w (by simpa using hc) (by simpa using hf) h1
  rw [hn] at hl
  obtain ⟨i, hi, hs⟩ := Option.map_eq_some_iff.1 size41
  simp [Builtin.copy_, run_underlying Tryd.underlying35, Builtin.lenOf, Builtin.firstCells, sizeOf, typeInfo, hi, hs, hl, hst, Nat.mul_comm 2]

theorem copy_ins (w : World) (g : Nat) (C : Array Value) (a : Option Addr) (n cap b o : Nat) (Z : Nat → Int × Int) (h : InsIn w a n cap b o Z) (hg : w.heap[g]? = some (.cells C 41 (0, 0))) (hC : n * 2 ≤ C.size) :
    ∃ w1, (∀ ty, (Builtin.copy_ #[35, 35] ty #[.slice (some ⟨g, 0, none⟩) n (n + 3), .slice a n cap]).run Tryd.prog w = .ok (goInt (n : Int)) w1) ∧ RdIns w1 (some ⟨g, 0, none⟩) n Z ∧ (∀ B, B ≤ g → Below B w w1) ∧ w1.heap.size = w.heap.size := by
  rcases Nat.eq_zero_or_pos n with h0 | hp
  · subst h0
    refine ⟨w, fun ty => ?_, fun h => absurd h (by omega), fun B _ => Below.refl _ _, rfl⟩
    obtain ⟨i, hi, hs⟩ := Option.map_eq_some_iff.1 size41
    have hl : ∀ (x : Addr), (loadCells x 0).run Tryd.prog w = .ok #[] w := fun x => by simpa using run_loadCells_list (P := Tryd.prog) w x [] (by simp)
    cases a <;> simp [Builtin.copy_, run_underlying Tryd.underlying35, Builtin.lenOf, Builtin.firstCells, sizeOf, typeInfo, hi, hs, storeCells, hl]
  · obtain ⟨rfl, hb⟩ := h.place hp
    have hsrc : ∀ j v, (insCs Z n)[j]? = some v → w.cell? ((⟨b, o, none⟩ : Addr).add j) = some v := fun j v hv => by
      have hj : j < n * 2 := by
        have := (List.getElem?_eq_some_iff.1 hv).1
        rwa [insCs_length] at this
      rw [insCs_at Z n j hj] at hv
      rw [Go.WideShapes.add_plain, ← hv]
      by_cases h2 : j % 2 = 0
      · have := h.op (j / 2) (by omega)
        rw [show o + j / 2 * 2 = o + j by omega] at this
        rw [this, if_pos h2]
      · have := h.arg (j / 2) (by omega)
        rw [show o + j / 2 * 2 + 1 = o + j by omega] at this
        rw [this, if_neg h2]
    have hr := run_copy2 w g n (n + 3) cap ⟨b, o, none⟩ (insCs Z n) (insCs_length Z n) hsrc
      (fun j hj => by rw [insCs_length] at hj; rw [cell_of_row w g _ C 41 (0, 0) hg]; simp; omega) (fun j _ => blk_frozen hg _) (insCs_one Z n)
    obtain ⟨C', h3, h4, h5⟩ := setCells_row (insCs Z n) 0 w C hg (by rw [insCs_length]; omega)
    obtain ⟨s1, s2, s3, s4⟩ := setCells_same g (insCs Z n) 0 w
    refine ⟨_, hr, ?_, fun B hB => ⟨s1, s2, s3, by rw [s4]; exact Nat.le_refl _, fun k hk => setCells_far _ _ k (by omega)⟩, s4⟩
    have hcell : ∀ j, j < n * 2 → (w.setCells g 0 (insCs Z n)).cell? ⟨g, 0 + j, none⟩ = (insCs Z n)[j]? := fun j hj => by
      rw [Nat.zero_add, cell_of_row _ g _ C' 41 (0, 0) h3, ← Array.getElem?_toList, h5, List.take_zero, List.nil_append, List.getElem?_append_left (by rw [insCs_length]; exact hj)]
    refine fun _ => ⟨g, 0, rfl, by rw [s4]; exact (Array.getElem?_eq_some_iff.1 hg).1, fun i hi => ⟨?_, ?_⟩⟩
    · rw [hcell (i * 2) (by omega), insCs_at Z n _ (by omega), if_pos (by omega), show i * 2 / 2 = i by omega]
    · have := hcell (i * 2 + 1) (by omega)
      rw [insCs_at Z n _ (by omega), if_neg (by omega), show (i * 2 + 1) / 2 = i by omega] at this
      rw [← this]
      rfl

theorem enc_in {w : World} {L : Nat → Int × Int} {n base N c : Nat} {a : Option Addr} (ho : w.ownsRow base 5 1 (.slice a N c) N (nums .u8 (bytesL L n))) (hN : N ≤ 140737488354000) (hc : N ≤ c) : BytesIn w a N N (bytesL L n) := by
  obtain ⟨a', c', he, hcp, hnil⟩ := own_cap ho
  injection he with e1 e2 e3
  subst e1
  refine ⟨⟨own_reads' ho, hN, fun h => by have := hnil h; omega, Nat.le_refl _⟩, fun i => ?_⟩
  unfold bytesL
  split
  · rename_i h
    exact enc_byte h i
  · simp

set_option maxRecDepth 100000 in
set_option maxHeartbeats 2000000 in
theorem good (a2 : Option Addr) (len cap2 b2 o2 : Nat) (Z : Nat → Int × Int) (a : Option Addr) (n c : Nat) (bs : List Int) (w : World) (T : Tabs w) (h : InsIn w a2 len cap2 b2 o2 Z) (B : BytesIn w a n c bs) (hm : len ≤ 1048576) (hn : n ≤ 1048576) :
    Calls Tryd.prog 8 #[.slice a2 len cap2, .slice a n c] w fun e w' => e = .returned (.bool true) ∧ Below w.heap.size w w' := by
  obtain ⟨z, hz⟩ : ∃ z : Value, z = .agg #[.int .i64 0, .int .i64 0] := ⟨_, rfl⟩
  obtain ⟨i0, hi0, hz0, hz1, hz2⟩ := info_parts info41
  have hmk0 : ∀ W : World, (Instr.makeSlice 35 (.int .i64 (len : Int)) (.int .i64 ((len + 3 : Nat) : Int))).run Tryd.prog W = .ok (.slice (some ⟨W.heap.size, 0, none⟩) len (len + 3)) (W.alloc (.cells (madeCells #[.int .i64 0, .int .i64 0] ((len + 3) * 2)) 41)) := fun W => by
    have hr := run_make (P := Tryd.prog) W 35 41 i0 _ Tryd.underlying35 hi0 hz0 .i64 .i64 (len : Int) ((len + 3 : Nat) : Int) (by omega) (by omega) (by rw [hz2]; omega) (by omega)
    simp only [Int.toNat_natCast, hz1] at hr
    exact hr
  have hsz : (madeCells #[Value.int .i64 0, .int .i64 0] ((len + 3) * 2)).size = (len + 3) * 2 := size_madeCells _ _
  generalize madeCells #[Value.int .i64 0, .int .i64 0] ((len + 3) * 2) = C at *
  have hmk : ∀ W : World, (Instr.makeSlice 35 (.int .i64 (len : Int)) (.int .i64 ((len : Int) + 3))).run Tryd.prog W = .ok (.slice (some ⟨W.heap.size, 0, none⟩) len (len + 3)) (W.alloc (.cells C 41)) := hmk0
  have hb0 : Below w.heap.size w (w.alloc (.cells C 41)) := (Below.refl _ _).alloc (Nat.le_refl _) _
  obtain ⟨w1, hcp, RM, hB1, hs1⟩ := copy_ins (w.alloc (.cells C 41)) w.heap.size C a2 len cap2 b2 o2 Z (h.below hb0) (heap_alloc_new w _) (by rw [hsz]; omega)
  have q1 : Below w.heap.size w w1 := hb0.trans (hB1 _ (Nat.le_refl _))
  have hbd := fun k => enc_bound Z k
  obtain ⟨N, hN⟩ : ∃ N, (bytesL Z len).length = N := ⟨_, rfl⟩
  have hN3 : N ≤ 3145728 := by
    rw [← hN]
    unfold bytesL
    split
    · have := hbd len; omega
    · simp
  have h25 := Bytes_any (some ⟨w.heap.size, 0, none⟩) len (len + 3) Z w1 (T.below q1) RM (by omega) (fun k hk _ => by have := hbd k; omega) N hN
  have h26 := fun (w' : World) (hb : Below w.heap.size w w') => rBytes_any a2 len cap2 Z w' (h.rd.below hb) (by omega) (fun k hk _ => by have := hbd k; omega) N hN
  have H25 := Lib.hid h25
  have H26 := Lib.hid h26
  have HRM := Lib.hid RM
  have HRL := Lib.hid h.rd
  have HB := Lib.hid B
  have HN := Lib.hid hN
  have HF : Hid (∃ er, firstE Z len = er) := ⟨_, rfl⟩
  clear h25 h26 RM hbd hmk0 hb0 hB1 hs1 hi0 hz0 hz1 hz2 hz hsz h B hN
  go_enter Tryd.func8, Tryd.ntmps8
  go_wp2_with fail
  clear hcp hmk
  refine H25.out.mono ?_
  rintro e w2 ⟨ap, cp, rfl, OB⟩
  have q2 := q1.trans (OB.below.mono q1.size)
  have HOB := Lib.hid OB
  clear OB H25
  go_wp2_with fail
  refine (H26.out w2 q2).mono ?_
  rintro e w3 ⟨aw, cw, rfl, OW⟩
  have q3 := q2.trans (OW.below.mono q2.size)
  have O3 : Hid (w3.ownsRow w1.heap.size 5 1 (.slice ap N cp) N (nums .u8 (bytesL Z len))) := by
    have h := HOB.out.own
    rw [HN.out] at h
    exact pw_own_below h OW.below
  have W3 : Hid (w3.ownsRow w2.heap.size 5 1 (.slice aw N cw) N (nums .u8 (bytesL Z len))) := by
    have h := OW.own
    rw [HN.out] at h
    exact h
  have hNc : N ≤ cp := by have := HOB.out.cap; rw [HN.out] at this; exact this
  have hcp := string_of_reads (P := Tryd.prog) (dst := 9) (c := N) Tryd.underlying34 Tryd.underlying5 Tryd.underlying9 (own_reads' O3.out)
  have hcw := string_of_reads (P := Tryd.prog) (dst := 9) (c := cw) Tryd.underlying34 Tryd.underlying5 Tryd.underlying9 (own_reads' W3.out)
  have RM3 := Lib.hid ((HRM.out.below HOB.out.below).below OW.below)
  generalize strOfNums (bytesL Z len) = S at *
  have hSS : (S.toList == S.toList) = true := by simp
  generalize firstE Z len = er at *
  clear OW HOB H26 HRM HF W3
  go_wp2_with fail
  clear hcp hcw
  go_loopw [10] (fun i wr => ∃ k : Nat, k ≤ len ∧ i = .int .i64 k ∧ Below w3.heap.size w3 wr) (fun i _ => len - (intOf i).toNat)
  case atStart => exact ⟨0, by omega, rfl, Below.refl _ _⟩
  case round =>
    obtain ⟨k, hk, rfl, hB⟩ := hrel
    by_cases hlt : k < len
    · obtain ⟨g1, o1, he1, hbw1, hcell1⟩ := (RM3.out.below hB) (by omega)
      obtain ⟨rfl, rfl⟩ : w.heap.size = g1 ∧ 0 = o1 := by injection he1 with he1; injection he1 with h1 h2; exact ⟨h1, h2⟩
      obtain ⟨m0, m1⟩ := hcell1 k hlt
      obtain ⟨g3, o3, rfl, hbw3, hcell3⟩ := (HRL.out.below (q3.trans (hB.mono q3.size))) (by omega)
      obtain ⟨n0, n1⟩ := hcell3 k hlt
      generalize (Z k).1 = op at *
      generalize (Z k).2 = A at *
      clear hcell1 hcell3 he1
      rw [Nat.zero_add] at m0 m1
      go_wp2_with fail
      go_quiet (fail)
      go_wp2
      go_roundw
      case rel => exact ⟨k + 1, by omega, by go_num, ⟨hB.os, hB.tape, hB.output, hB.size, hB.block⟩⟩
      case measure => simp [intOf]; omega
    · have q4 := q3.trans (hB.mono q3.size)
      have BP := Lib.hid (enc_in (pw_own_below O3.out hB) (by omega) hNc)
      clear O3 RM3
      go_wp2_with fail
      refine (listed_any a n c bs _ (T.below q4) (HB.out.under q4) (by omega)).mono ?_
      rintro e w5 ⟨rfl, hb5⟩
      have q5 := q4.trans (hb5.mono q4.size)
      go_wp2_with fail
      refine (listed_any ap N N _ _ (T.below q5) (BP.out.under hb5) (by omega)).mono ?_
      rintro e w6 ⟨rfl, hb6⟩
      have q6 := q5.trans (hb6.mono q5.size)
      have HP := Lib.hid (shown_any w6 (T.below q6))
      go_wp2_with fail
      refine HP.out.mono ?_
      rintro e w7 ⟨rfl, hb7⟩
      have q7 := q6.trans (hb7.mono q6.size)
      go_wp2_with fail
      go_ret
      exact ⟨rfl, q7⟩

theorem walk {w : World} (a2 : Option Addr) (len cap b2 o2 : Nat) (Z : Nat → Int × Int) (h : InsIn w a2 len cap b2 o2 Z) (_ : True) (_ : len * 16 ≤ 140737488351232) (a : Option Addr) (n c : Nat) (bs : List Int) (B : BytesIn w a n c bs) (hm : len ≤ 1048576) (hn : n ≤ 1048576) (T : Tabs w) :
    Calls Tryd.prog 8 #[.slice a2 len cap, .slice a n c] w fun e w' => e = .returned (.bool true) ∧ Below w.heap.size w w' := good a2 len cap b2 o2 Z a n c bs w T h B hm hn
end Go.Proofs.YthpfndbhibbkmaaDoor.codeLists
