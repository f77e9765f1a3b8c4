/- CONTRACTS of slices.Clone and slices.Clip at bytes, and of code.Put: behind any bytes that read, a new slice of the call's own. They ask that the world hold the operations' table. -/
import Derived.Test.YthpfndbhibbkmaaDoorPut
import Derived.WalkSpells
import Derived.Deep.RegionWith
namespace Go.Proofs.YthpfndbhibbkmaaDoor
open Go.ChangeShapes Go.WideShapes Go.ChangeAt Go.RowKit Go.Proofs.YthpfndbhibbkmaaDoorW.PrintWords

set_option maxHeartbeats 1000000 in
theorem clone_nil (w : World) : Calls Tryd.prog 30 #[.slice none 0 0] w fun e w' => e = .returned (.slice none 0 0) ∧ w = w' := by
  have q34 : ∀ (w : World) (a : Option Addr) (n c : Nat), (binOp .eql 34 (.slice a n c) (.slice none 0 0)).run Tryd.prog w = .ok (.bool a.isNone) w := fun w a n c => Lib.run_eql_slice_nil (P := Tryd.prog) w _ _ a n c 0 0 Tryd.underlying34
  go_enter Tryd.func30, Tryd.ntmps30
  go_wp2
  go_ret
  exact ⟨rfl, rfl⟩

set_option maxHeartbeats 1000000 in
theorem clone_some (a : Addr) (n c : Nat) (bs : List Int) (w : World) (hr : ReadsInt w .u8 (some a) n bs) (hn : n ≤ 140737488355328) :
    Calls Tryd.prog 30 #[.slice (some a) n c] w fun e w' => ∃ v', e = .returned v' ∧ w'.ownsRow w.heap.size 5 1 v' bs.length (nums .u8 bs) ∧ Below w.heap.size w w' := by
  have q34 : ∀ (w : World) (a : Option Addr) (n c : Nat), (binOp .eql 34 (.slice a n c) (.slice none 0 0)).run Tryd.prog w = .ok (.bool a.isNone) w := fun w a n c => Lib.run_eql_slice_nil (P := Tryd.prog) w _ _ a n c 0 0 Tryd.underlying34
  have HO : (w.alloc (.cells #[] 5)).ownsRow w.heap.size 5 1 (.slice (some ⟨w.heap.size, 0, none⟩) 0 0) ([] : List Int).length (nums .u8 []) := own_lit w w.heap.size 5 .u8 [] (Nat.le_refl _) (by simp)
  have HB : Below w.heap.size w (w.alloc (.cells #[] 5)) := (Below.refl _ _).alloc (Nat.le_refl _) _
  have HR := hr.below HB
  go_enter Tryd.func30, Tryd.ntmps30
  go_wp2_with (at_builtin; refine print_append_row w.heap.size rfl (.tmp 5) (.tmp 6) 34 5 .u8 1 rfl Tryd.underlying34 info5 (by decide) _ [] bs (some a) n c rfl rfl HO HR HB (by simp) (by simp; omega) ?_; intro v1 w2 HO2 HB2 hg2 hp2)
  go_ret
  exact ⟨v1, rfl, HO2, HB2⟩

set_option maxHeartbeats 1000000 in
theorem clip_any (a : Option Addr) (n c : Nat) (w : World) (hc : n ≤ c) :
    Calls Tryd.prog 31 #[.slice a n c] w fun e w' => e = .returned (.slice a n n) ∧ w = w' := by
  go_enter Tryd.func31, Tryd.ntmps31
  go_wp2
  go_ret
  exact ⟨rfl, rfl⟩

/-- A slice of bytes that reads as bs: an argument, or the call's own. -/
structure BytesArg (w : World) (a : Option Addr) (n c : Nat) (bs : List Int) : Prop where
  reads : ReadsInt w .u8 a n bs
  max : n ≤ 140737488354000
  nil : a = none → c = 0
  cap : n ≤ c
theorem BytesArg.len {w : World} {a : Option Addr} {n c : Nat} {bs : List Int} (h : BytesArg w a n c bs) : bs.length = n := h.reads.1
theorem BytesArg.below {w w1 : World} {a : Option Addr} {n c : Nat} {bs : List Int} (h : BytesArg w a n c bs) (hb : Below w.heap.size w w1) : BytesArg w1 a n c bs :=
  ⟨h.reads.below hb, h.max, h.nil, h.cap⟩

theorem clone_any (a : Option Addr) (n c : Nat) (bs : List Int) (w : World) (h : BytesArg w a n c bs) :
    Calls Tryd.prog 30 #[.slice a n c] w fun e w' => ∃ v', e = .returned v' ∧ w'.ownsRow w.heap.size 5 1 v' bs.length (nums .u8 bs) ∧ Below w.heap.size w w' := by
  cases a with
  | none =>
    have hc := h.nil rfl
    have hn := h.cap
    have hl := h.len
    obtain rfl : c = 0 := hc
    obtain rfl : n = 0 := by omega
    obtain rfl : bs = [] := List.eq_nil_of_length_eq_zero hl
    refine (clone_nil w).mono ?_
    rintro e w' ⟨rfl, rfl⟩
    exact ⟨_, rfl, own_nil w _ 5 1, Below.refl _ _⟩
  | some ad => exact clone_some ad n c bs w h.reads (by have := h.max; omega)

theorem own_lower {w : World} {base base' : Nat} {e : TypeId} {size n : Nat} {v : Value} {xs : List Value} (h : w.ownsRow base e size v n xs) (hb : base' ≤ base) : w.ownsRow base' e size v n xs := by
  refine ⟨h.1, ?_⟩
  rcases h.2 with h2 | ⟨g, cap, cur, hv, hg, r⟩
  · exact .inl h2
  · exact .inr ⟨g, cap, cur, hv, by omega, r⟩
theorem own_cap {w : World} {base n : Nat} {e : TypeId} {v : Value} {xs : List Value} (h : w.ownsRow base e 1 v n xs) : ∃ a c, v = .slice a n c ∧ n ≤ c ∧ (a = none → c = 0) := by
  rcases h.2 with ⟨rfl, rfl⟩ | ⟨g, cap, cur, rfl, _, _, h1, _⟩
  · exact ⟨none, 0, rfl, Nat.le_refl _, fun _ => rfl⟩
  · exact ⟨_, cap, rfl, h1, fun h => by cases h⟩
/-- A clipped row is owned no less. -/
theorem own_clip {w : World} {base n c : Nat} {e : TypeId} {a : Option Addr} {xs : List Value} (h : w.ownsRow base e 1 (.slice a n c) n xs) : ∃ u, w.ownsRow base e 1 (.slice a n u) n xs ∧ u = c := ⟨c, h, rfl⟩

set_option maxHeartbeats 1000000 in
theorem Put_no (er k A : Int) (v : Value) (w : World) (hput : ∀ v w1, Below w.heap.size w w1 → Calls Tryd.prog 29 #[v, .agg #[.int .i64 k, .int .i64 A]] w1 fun e w' => e = .returned (.tuple #[.slice none 0 0, .int .i64 er]) ∧ Below w1.heap.size w1 w')
    (hclone : ∀ w1, Below w.heap.size w w1 → Calls Tryd.prog 30 #[v] w1 fun e w' => ∃ v', e = .returned v' ∧ Below w1.heap.size w1 w') :
    Calls Tryd.prog 17 #[v, .agg #[.int .i64 k, .int .i64 A]] w fun e w' => e = .returned (.tuple #[.slice none 0 0, .int .i64 er]) ∧ Below w.heap.size w w' := by
  have hb0 : Below w.heap.size w (w.alloc (.cells #[.int .i64 k, .int .i64 A] 41)).drew := ((Below.refl _ _).alloc (Nat.le_refl _) _).drew
  go_enter Tryd.func17, Tryd.ntmps17
  go_wp2
  go_region_with (first
    | (go_at_call 30; refine (hclone _ hb0).mono ?_; rintro e w1 ⟨v', rfl, hb1⟩; obtain ⟨hc1, hf1⟩ := bcell hb1; have hb01 := hb0.trans (hb1.mono (by simp)))
    | (go_at_call 29; refine (hput _ _ hb01).mono ?_; rintro e w2 ⟨rfl, hb2⟩))
  all_goals
    clear hput hclone hc1 hf1
    go_wp2_with (go_at_call 31; refine (clip_any _ _ _ _ (Nat.le_refl _)).mono ?_; rintro e w' ⟨rfl, rfl⟩)
    go_ret2
    exact ⟨rfl, hb01.trans (hb2.mono hb01.size)⟩

/-- An owned row that is a slice of just so many, with so much room. -/
structure OwnedS (base : Nat) (w w' : World) (a : Option Addr) (c : Nat) (xs : List Int) : Prop where
  own : w'.ownsRow base 5 1 (.slice a xs.length c) xs.length (nums .u8 xs)
  cap : xs.length ≤ c
  below : Below base w w'

set_option maxHeartbeats 1000000 in
theorem Put_yes (k A : Int) (v : Value) (xs bs : List Int) (N : Nat) (HN : Hid ((xs ++ bs).length = N)) (w : World)
    (hput : ∀ v w1, w.heap.size ≤ w1.heap.size → Below w.heap.size w w1 → w1.ownsRow w.heap.size 5 1 v xs.length (nums .u8 xs) → Calls Tryd.prog 29 #[v, .agg #[.int .i64 k, .int .i64 A]] w1 fun e w' => ∃ a c, e = .returned (.tuple #[.slice a N c, .int .i64 0]) ∧ OwnedS w.heap.size w1 w' a c (xs ++ bs))
    (hclone : ∀ w1, Below w.heap.size w w1 → Calls Tryd.prog 30 #[v] w1 fun e w' => ∃ v', e = .returned v' ∧ w'.ownsRow w1.heap.size 5 1 v' xs.length (nums .u8 xs) ∧ Below w1.heap.size w1 w') :
    Calls Tryd.prog 17 #[v, .agg #[.int .i64 k, .int .i64 A]] w fun e w' => ∃ a c, e = .returned (.tuple #[.slice a N N, .int .i64 0]) ∧ OwnedS w.heap.size w w' a c (xs ++ bs) := by
  have hb0 : Below w.heap.size w (w.alloc (.cells #[.int .i64 k, .int .i64 A] 41)).drew := ((Below.refl _ _).alloc (Nat.le_refl _) _).drew
  go_enter Tryd.func17, Tryd.ntmps17
  go_wp2
  go_region_with (first
    | (go_at_call 30; refine (hclone _ hb0).mono ?_; rintro e w1 ⟨v', rfl, HO1, hb1⟩; obtain ⟨hc1, hf1⟩ := bcell hb1; have hb01 := hb0.trans (hb1.mono (by simp)))
    | (go_at_call 29; refine (hput _ _ hb01.size hb01 (own_lower HO1 (by simp))).mono ?_; rintro e w2 ⟨a2, c2, rfl, HO2⟩))
  all_goals
    clear hput hclone hc1 hf1
    have hO2 : OwnedS w.heap.size w w2 a2 c2 (xs ++ bs) := ⟨HO2.own, HO2.cap, hb01.trans HO2.below⟩
    have hn2 : N ≤ c2 := by have := HN.out; have := HO2.cap; omega
    clear HO2 HO1 hb1 hb01 HN
    go_wp2_with (go_at_call 31; refine (clip_any _ _ _ _ hn2).mono ?_; rintro e w' ⟨rfl, rfl⟩)
    go_ret2
    exact ⟨a2, c2, rfl, hO2⟩

theorem encB_len (k : Nat) (A : Int) : (encB k A).length ≤ 3 := by
  unfold encB
  generalize (widthT (numT k 0)).toNat = m
  match m with
  | 0 => simp [tailB]
  | 1 => simp [tailB]
  | m + 2 => simp [tailB]

/-- ████ code.Put ████ -/
theorem Put_noop (k A : Int) (a : Option Addr) (n c : Nat) (bs : List Int) (w : World) (B : BytesArg w a n c bs) (h : k < 1 ∨ 41 < k) :
    Calls Tryd.prog 17 #[.slice a n c, .agg #[.int .i64 k, .int .i64 A]] w fun e w' => e = .returned (.tuple #[.slice none 0 0, .int .i64 80]) ∧ Below w.heap.size w w' :=
  Put_no 80 k A _ w (fun v w1 _ => put_noop k A v w1 h) (fun w1 hb => (clone_any a n c bs w1 (B.below hb)).mono fun _ _ ⟨v', he, _, hw⟩ => ⟨v', he, hw⟩)
theorem Put_bad (k : Nat) (A : Int) (a : Option Addr) (n c : Nat) (bs : List Int) (w : World) (T : Tabs w) (B : BytesArg w a n c bs) (h1 : 1 ≤ k) (h2 : k ≤ 41) (h : A < 0 ∨ mostT (numT k 0) < A) :
    Calls Tryd.prog 17 #[.slice a n c, .agg #[.int .i64 k, .int .i64 A]] w fun e w' => e = .returned (.tuple #[.slice none 0 0, .int .i64 81]) ∧ Below w.heap.size w w' :=
  Put_no 81 k A _ w (fun v w1 hb => put_bad k A v w1 (T.below hb) h1 h2 h) (fun w1 hb => (clone_any a n c bs w1 (B.below hb)).mono fun _ _ ⟨v', he, _, hw⟩ => ⟨v', he, hw⟩)
theorem Put_ok (k : Nat) (A : Int) (a : Option Addr) (n c : Nat) (bs : List Int) (w : World) (T : Tabs w) (B : BytesArg w a n c bs) (h1 : 1 ≤ k) (h2 : k ≤ 41) (hA : 0 ≤ A) (hA' : A ≤ mostT (numT k 0)) (N : Nat) (hN : (bs ++ encB k A).length = N) :
    Calls Tryd.prog 17 #[.slice a n c, .agg #[.int .i64 k, .int .i64 A]] w fun e w' => ∃ a' c', e = .returned (.tuple #[.slice a' N N, .int .i64 0]) ∧ OwnedS w.heap.size w w' a' c' (bs ++ encB k A) := by
  refine Put_yes k A _ bs (encB k A) N hN w (fun v w1 hs hb HO => ?_) (fun w1 hb => clone_any a n c bs w1 (B.below hb))
  refine (put_ok w.heap.size k A v bs w1 (T.below hb) h1 h2 hA hA' HO hs (by have := B.len; have := B.max; omega)).mono ?_
  rintro e w' ⟨v', rfl, hO⟩
  have ho := hO.own
  obtain ⟨a2, c2, rfl, hc, _⟩ := own_cap ho
  rw [hN] at ho ⊢
  exact ⟨a2, c2, rfl, ⟨by rw [hN]; exact ho, by omega, hO.below⟩⟩
end Go.Proofs.YthpfndbhibbkmaaDoor
