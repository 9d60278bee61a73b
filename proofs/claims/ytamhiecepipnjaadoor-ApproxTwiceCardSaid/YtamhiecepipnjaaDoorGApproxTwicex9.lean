-- Written by gprint (wip/gprint), this session's program over the kit's print. Not trusted: Lean checks it.
import Derived.Test.YtamhiecepipnjaaDoorGApproxTwicex0
import Derived.Test.YtamhiecepipnjaaDoorGApproxTwicex1
import Derived.Test.YtamhiecepipnjaaDoorGApproxTwicex5
import Derived.Test.YtamhiecepipnjaaDoorGApproxTwicex7
import Derived.Test.YtamhiecepipnjaaDoorGApproxTwicex8
namespace Go.Proofs.YtamhiecepipnjaaDoor.GApproxTwice
open Go.RowKit Go.Proofs.YtamhiecepipnjaaDoorW.PrintWords Go.Proofs.YtamhiecepipnjaaDoorW.PrintLast Go.Proofs.YtamhiecepipnjaaDoorW.PrintMore
attribute [local go_sem] max2_int min2_int max_two min_two max_three min_three max_four min_four   -- for this text's walks alone
set_option linter.unusedVariables false
set_option linter.unusedSimpArgs false

/-! ### strings_trimLeftByte: function 76 -/
def strings_trimLeftByte.l0 : Nat → ByteArray → Int → Option (ByteArray)
  | 0, _, _ => none
  | k + 1, x0, x1 => if (x0.size : Int) > 0 then (if 0 < (x0.size : Int) then (if (bt x0 0) = x1 then (if 1 ≤ (x0.size : Int) then (strings_trimLeftByte.l0 k (x0.extract 1 x0.size) x1) else (none)) else (some x0)) else (none)) else (some x0)
def strings_trimLeftByte.f (k : Nat) (a0 : ByteArray) (a1 : Int) : Option (ByteArray) := strings_trimLeftByte.l0 k a0 a1
theorem strings_trimLeftByte.mono_l : ∀ k, (∀ y0 y1, LeO (strings_trimLeftByte.l0 k y0 y1) (strings_trimLeftByte.l0 (k + 1) y0 y1))
  | 0 => fun _ _ r h => by simp [strings_trimLeftByte.l0] at h
  | k + 1 => by
    have ih0 := strings_trimLeftByte.mono_l k
    · intro y0 y1
      unfold strings_trimLeftByte.l0
      repeat' first
      | (with_reducible exact ih0 _ _)
      | (with_reducible exact LeO.refl _)
      | (with_reducible exact LeO.none _)
      | (with_reducible refine LeO.ite ?_ ?_)
      | (with_reducible refine LeO.bind ?_ (fun _ => ?_))
      | exact ih0 _ _
      | exact LeO.none _
      | refine LeO.ite ?_ ?_
      | refine LeO.bind ?_ (fun _ => ?_)
theorem strings_trimLeftByte.mono : ∀ a0 a1 k, LeO (strings_trimLeftByte.f k a0 a1) (strings_trimLeftByte.f (k + 1) a0 a1) := by
  intro a0 a1 k
  have ih0 := strings_trimLeftByte.mono_l k
  unfold strings_trimLeftByte.f
  repeat' first
      | (with_reducible exact ih0 _ _)
      | (with_reducible exact LeO.refl _)
      | (with_reducible exact LeO.none _)
      | (with_reducible refine LeO.ite ?_ ?_)
      | (with_reducible refine LeO.bind ?_ (fun _ => ?_))
      | exact ih0 _ _
      | exact LeO.none _
      | refine LeO.ite ?_ ?_
      | refine LeO.bind ?_ (fun _ => ?_)
set_option maxHeartbeats 8000000 in
set_option maxRecDepth 100000 in
theorem strings_trimLeftByte.calls (k : Nat) (a0 : ByteArray) (a1 : Int) (r : ByteArray) (w : World) (h : strings_trimLeftByte.f k a0 a1 = some r) :
    Calls Tryd.prog 76 #[.string a0, .int .u8 a1] w fun e w' => e = .returned (.string r) ∧ Drawn0 w w' := by
  have H : (strings_trimLeftByte.l0 k a0 a1) = some r := h
  clear h
  have H' := Aside0.mk H
  clear H
  go_enter Tryd.func76, Tryd.ntmps76
  go_wp2
  go_loopg [0] k (fun kq v0 w' => ∃ (x0_1 : ByteArray), v0 = .string x0_1 ∧ Aside0 (strings_trimLeftByte.l0 kq x0_1 a1 = some r) ∧ Aside0 (kq ≤ k) ∧ Drawn0 w w')
  case atStart => exact ⟨(a0), (by first | rfl | (simp; done) | (simp [*]; done)), H', ⟨Nat.le_refl _⟩, by repeat (first | exact Drawn0.refl _ | apply Drawn0.step)⟩
  case round =>
    clear H'
    try clear p2
    obtain ⟨x0_1, rfl, HA, HK1, ⟨m1, rfl⟩⟩ := hrel
    cases gk with
    | zero => exact absurd HA.out (by simp [strings_trimLeftByte.l0])
    | succ k1 =>
      have H := HA.out
      clear HA
      simp only [strings_trimLeftByte.l0] at H
      by_cases c3 : (x0_1.size : Int) > 0
      · rw [if_pos c3] at H
        have c3b0 : decide (0 < (x0_1.size : Int)) = true := decide_eq_true c3
        have c3b1 : decide (0 < x0_1.size) = true := decide_eq_true (by omega)
        clear c3
        by_cases c4 : 0 < (x0_1.size : Int)
        · rw [if_pos c4] at H
          have c4b0 : decide (0 < (x0_1.size : Int)) = true := decide_eq_true c4
          have c4b1 : decide (0 < x0_1.size) = true := decide_eq_true (by omega)
          clear c4
          by_cases c6 : (bt x0_1 0) = a1
          · rw [if_pos c6] at H
            have c6b0 : ((bt x0_1 0) == a1) = true := beq_iff_eq.mpr c6
            have c6b1 : ((bt x0_1 0) != a1) = false := bne_eq_false_iff_eq.mpr c6
            clear c6
            by_cases c7 : 1 ≤ (x0_1.size : Int)
            · rw [if_pos c7] at H
              have c7b0 := eq_true c7
              have c7b1 : decide (1 ≤ (x0_1.size : Int)) = true := decide_eq_true c7
              clear c7
              have H' := Aside0.mk H
              clear H
              have p5 : 0 ≤ (0 : Int) := (by omega)
              have q5 : 0 < x0_1.size := (by have : (0 : Int) < (x0_1.size : Int) := of_decide_eq_true (by first | (with_reducible assumption) | assumption); omega)
              have hx5 : ∀ h : 0 < x0_1.size, ((x0_1[0]'h).toNat : Int) = bt x0_1 0 := bt_at x0_1 0
              clear p5
              have qi5 : (0 < (x0_1.size : Int)) = True := eq_true (of_decide_eq_true (by first | (with_reducible assumption) | assumption))
              replace q5 := eq_true q5
              go_wp2
              go_roundg k1
              case measure => have := HK1.out; omega
              case rel => exact ⟨(x0_1.extract 1 x0_1.size), (by first | rfl | (simp; done) | (simp [*]; done)), H', ⟨by have := HK1.out; omega⟩, by repeat (first | exact Drawn0.refl _ | apply Drawn0.step)⟩
            · rw [if_neg c7] at H
              exact absurd H (by simp)
          · rw [if_neg c6] at H
            have c6b0 : ((bt x0_1 0) == a1) = false := beq_eq_false_iff_ne.mpr c6
            have c6b1 : ((bt x0_1 0) != a1) = true := bne_iff_ne.mpr c6
            obtain rfl := Option.some.inj H
            have p5 : 0 ≤ (0 : Int) := (by omega)
            have q5 : 0 < x0_1.size := (by have : (0 : Int) < (x0_1.size : Int) := of_decide_eq_true (by first | (with_reducible assumption) | assumption); omega)
            have hx5 : ∀ h : 0 < x0_1.size, ((x0_1[0]'h).toNat : Int) = bt x0_1 0 := bt_at x0_1 0
            clear p5
            have qi5 : (0 < (x0_1.size : Int)) = True := eq_true (of_decide_eq_true (by first | (with_reducible assumption) | assumption))
            replace q5 := eq_true q5
            go_wp2
            go_ret
            exact ⟨by first | rfl | (simp; done) | (simp [*]; done), by repeat (first | exact Drawn0.refl _ | apply Drawn0.step)⟩
        · rw [if_neg c4] at H
          exact absurd H (by simp)
      · rw [if_neg c3] at H
        have c3b0 : decide (0 < (x0_1.size : Int)) = false := decide_eq_false c3
        have c3b1 : decide (0 < x0_1.size) = false := decide_eq_false (by omega)
        clear c3
        obtain rfl := Option.some.inj H
        go_wp2
        go_ret
        exact ⟨by first | rfl | (simp; done) | (simp [*]; done), by repeat (first | exact Drawn0.refl _ | apply Drawn0.step)⟩

-- NOT PRINTED: function 77 (strings_makeASCIISet)

-- NOT PRINTED: function 80 (strings_asciiSet_contains)

-- NOT PRINTED: function 78 (strings_trimLeftASCII)

-- NOT PRINTED: function 83 (utf8_decodeRuneInStringSlow)

-- NOT PRINTED: function 81 (utf8_DecodeRuneInString)

-- NOT PRINTED: function 90 (bytealg_IndexByteString)

-- NOT PRINTED: function 89 (stringslite_IndexByte)

-- NOT PRINTED: function 85 (strings_IndexByte)

/-! ### utf8_ValidRune: function 86 -/
def utf8_ValidRune.j0 : Nat → Int → Bool → Option (Bool)
  | 0, _, _ => none
  | k + 1, x0, x3 => if x3 = true then (some true) else (if 57343 < x0 then (if x0 ≤ 1114111 then (some true) else (some false)) else (some false))
def utf8_ValidRune.f (k : Nat) (a0 : Int) : Option (Bool) := if 0 ≤ a0 then (utf8_ValidRune.j0 k a0 (decide (a0 < 55296))) else (utf8_ValidRune.j0 k a0 false)
theorem utf8_ValidRune.mono_l : ∀ k, (∀ y0 y1, LeO (utf8_ValidRune.j0 k y0 y1) (utf8_ValidRune.j0 (k + 1) y0 y1))
  | 0 => fun _ _ r h => by simp [utf8_ValidRune.j0] at h
  | k + 1 => by
    have ih0 := utf8_ValidRune.mono_l k
    · intro y0 y1
      unfold utf8_ValidRune.j0
      repeat' first
      | (with_reducible exact ih0 _ _)
      | (with_reducible exact LeO.refl _)
      | (with_reducible exact LeO.none _)
      | (with_reducible refine LeO.ite ?_ ?_)
      | (with_reducible refine LeO.bind ?_ (fun _ => ?_))
      | exact ih0 _ _
      | exact LeO.none _
      | refine LeO.ite ?_ ?_
      | refine LeO.bind ?_ (fun _ => ?_)
theorem utf8_ValidRune.mono : ∀ a0 k, LeO (utf8_ValidRune.f k a0) (utf8_ValidRune.f (k + 1) a0) := by
  intro a0 k
  have ih0 := utf8_ValidRune.mono_l k
  unfold utf8_ValidRune.f
  repeat' first
      | (with_reducible exact ih0 _ _)
      | (with_reducible exact LeO.refl _)
      | (with_reducible exact LeO.none _)
      | (with_reducible refine LeO.ite ?_ ?_)
      | (with_reducible refine LeO.bind ?_ (fun _ => ?_))
      | exact ih0 _ _
      | exact LeO.none _
      | refine LeO.ite ?_ ?_
      | refine LeO.bind ?_ (fun _ => ?_)
set_option maxHeartbeats 8000000 in
set_option maxRecDepth 100000 in
theorem utf8_ValidRune.calls (k : Nat) (a0 : Int) (r : Bool) (w : World) (h : utf8_ValidRune.f k a0 = some r) :
    Calls Tryd.prog 86 #[.int .i32 a0] w fun e w' => e = .returned (.bool r) ∧ Drawn0 w w' := by
  have H : (if 0 ≤ a0 then (utf8_ValidRune.j0 k a0 (decide (a0 < 55296))) else (utf8_ValidRune.j0 k a0 false)) = some r := h
  clear h
  have HC2 := Aside0.mk H
  clear H
  go_enter Tryd.func86, Tryd.ntmps86
  go_upto_region 1 with (fail)
  go_cut [3] (fun v3 wc => ∃ (kq : Nat) (x3_1 : Bool), v3 = .bool x3_1 ∧ Aside0 (utf8_ValidRune.j0 kq a0 x3_1 = some r) ∧ Aside0 (kq ≤ k) ∧ Drawn0 w wc)
  case first =>
    have H := HC2.out
    clear HC2
    by_cases c3 : 0 ≤ a0
    · rw [if_pos c3] at H
      have c3b0 : decide (0 ≤ a0) = true := decide_eq_true c3
      clear c3
      (first | rw [c3b0] | (simp only [i64_w, i32_w]; rw [c3b0]) | skip)
      have H' := Aside0.mk H
      clear H
      go_wp2
      go_meet
      case rel => exact ⟨_, (decide (a0 < 55296)), (by first | rfl | (simp; done) | (simp [*]; done)), H', ⟨by first | omega | exact Nat.le_refl _⟩, by repeat (first | exact Drawn0.refl _ | apply Drawn0.step)⟩
    · rw [if_neg c3] at H
      have c3b0 : decide (0 ≤ a0) = false := decide_eq_false c3
      clear c3
      (first | rw [c3b0] | (simp only [i64_w, i32_w]; rw [c3b0]) | skip)
      have H' := Aside0.mk H
      clear H
      go_wp2
      go_meet
      case rel => exact ⟨_, (false), (by first | rfl | (simp; done) | (simp [*]; done)), H', ⟨by first | omega | exact Nat.le_refl _⟩, by repeat (first | exact Drawn0.refl _ | apply Drawn0.step)⟩
  case rest =>
    clear HC2
    try clear p2
    try clear c3
    try clear c3b0
    obtain ⟨kq, x3_1, rfl, HA, HJ1, ⟨mc1, rfl⟩⟩ := hcut
    cases kq with
    | zero => exact absurd HA.out (by simp [utf8_ValidRune.j0])
    | succ kj1 =>
      have H := HA.out
      clear HA
      simp only [utf8_ValidRune.j0] at H
      by_cases c4 : x3_1 = true
      · subst c4
        have H1 : (some true) = some r := by rw [if_pos rfl] at H; exact H
        clear H
        have H := H1
        clear H1
        obtain rfl := Option.some.inj H
        go_wp2
        go_ret
        exact ⟨by first | rfl | (simp; done) | (simp [*]; done), by repeat (first | exact Drawn0.refl _ | apply Drawn0.step)⟩
      · replace c4 := Bool.eq_false_iff.mpr c4
        subst c4
        have H1 : (if 57343 < a0 then (if a0 ≤ 1114111 then (some true) else (some false)) else (some false)) = some r := by rw [if_neg (show ¬ (false = true) by decide)] at H; exact H
        clear H
        have H := H1
        clear H1
        by_cases c5 : 57343 < a0
        · rw [if_pos c5] at H
          have c5b0 : decide (57343 < a0) = true := decide_eq_true c5
          clear c5
          by_cases c6 : a0 ≤ 1114111
          · rw [if_pos c6] at H
            have c6b0 : decide (a0 ≤ 1114111) = true := decide_eq_true c6
            clear c6
            obtain rfl := Option.some.inj H
            go_wp2
            go_ret
            exact ⟨by first | rfl | (simp; done) | (simp [*]; done), by repeat (first | exact Drawn0.refl _ | apply Drawn0.step)⟩
          · rw [if_neg c6] at H
            have c6b0 : decide (a0 ≤ 1114111) = false := decide_eq_false c6
            clear c6
            obtain rfl := Option.some.inj H
            go_wp2
            go_ret
            exact ⟨by first | rfl | (simp; done) | (simp [*]; done), by repeat (first | exact Drawn0.refl _ | apply Drawn0.step)⟩
        · rw [if_neg c5] at H
          have c5b0 : decide (57343 < a0) = false := decide_eq_false c5
          clear c5
          obtain rfl := Option.some.inj H
          go_wp2
          go_ret
          exact ⟨by first | rfl | (simp; done) | (simp [*]; done), by repeat (first | exact Drawn0.refl _ | apply Drawn0.step)⟩

/-! ### bytealg_Cutover: function 87 -/
def bytealg_Cutover.f (a0 : Int) : Option (Int) := some (wrap64 (Int.tdiv (wrap64 (a0 + 16)) 8))
set_option maxHeartbeats 8000000 in
set_option maxRecDepth 100000 in
theorem bytealg_Cutover.calls (a0 : Int) (r : Int) (w : World) (h : bytealg_Cutover.f a0 = some r) :
    Calls Tryd.prog 87 #[.int .i64 a0] w fun e w' => e = .returned (.int .i64 r) ∧ Drawn0 w w' := by
  have H : (some (wrap64 (Int.tdiv (wrap64 (a0 + 16)) 8))) = some r := h
  clear h
  obtain rfl := Option.some.inj H
  go_enter Tryd.func87, Tryd.ntmps87
  go_wp2
  go_ret
  exact ⟨by first | rfl | (simp; done) | (simp [*]; done), by repeat (first | exact Drawn0.refl _ | apply Drawn0.step)⟩

-- NOT PRINTED: function 88 (bytealg_IndexString)

-- NOT PRINTED: function 84 (strings_IndexRune)

-- NOT PRINTED: function 82 (strings_ContainsRune)

-- NOT PRINTED: function 79 (strings_trimLeftUnicode)

-- NOT PRINTED: function 67 (strings_TrimLeft)

/-! ### strings_TrimLeft__c2: function 67 -/
def strings_TrimLeft__c2.f (k : Nat) (a0 : ByteArray) : Option (ByteArray) := if a0.toList = ([] : List UInt8) then (some a0) else ((strings_trimLeftByte.f k a0 48).bind fun t488 => (some t488))
theorem strings_TrimLeft__c2.mono : ∀ a0 k, LeO (strings_TrimLeft__c2.f k a0) (strings_TrimLeft__c2.f (k + 1) a0) := by
  intro a0 k
  unfold strings_TrimLeft__c2.f
  repeat' first
      | (with_reducible exact strings_trimLeftByte.mono _ _ _)
      | (with_reducible exact LeO.refl _)
      | (with_reducible exact LeO.none _)
      | (with_reducible refine LeO.ite ?_ ?_)
      | (with_reducible refine LeO.bind ?_ (fun _ => ?_))
      | exact strings_trimLeftByte.mono _ _ _
      | exact LeO.none _
      | refine LeO.ite ?_ ?_
      | refine LeO.bind ?_ (fun _ => ?_)
set_option maxHeartbeats 8000000 in
set_option maxRecDepth 100000 in
theorem strings_TrimLeft__c2.calls (k : Nat) (a0 : ByteArray) (r : ByteArray) (w : World) (h : strings_TrimLeft__c2.f k a0 = some r) :
    Calls Tryd.prog 67 #[.string a0, .string (⟨#[48]⟩ : ByteArray)] w fun e w' => e = .returned (.string r) ∧ Below w.heap.size w w' := by
  have HB := Aside0.mk (Below.refl w.heap.size w)
  have H : (if a0.toList = ([] : List UInt8) then (some a0) else ((strings_trimLeftByte.f k a0 48).bind fun t488 => (some t488))) = some r := h
  clear h
  by_cases c2 : a0.toList = ([] : List UInt8)
  · rw [if_pos c2] at H
    have c2b0 : (a0.toList == ([] : List UInt8)) = true := beq_iff_eq.mpr c2
    have c2b1 : (a0.toList != ([] : List UInt8)) = false := bne_eq_false_iff_eq.mpr c2
    clear c2
    obtain rfl := Option.some.inj H
    go_enter Tryd.func67, Tryd.ntmps67
    go_wp2
    go_ret
    exact ⟨by first | rfl | (simp [errW_none, errW_some] <;> rfl) | (simp [*, errW_none, errW_some] <;> rfl), by repeat (first | (with_reducible first | exact HB.out | apply below_alloc | apply pw_below_drewN | apply below_drew1) | exact HB.out)⟩
  · rw [if_neg c2] at H
    have c2b0 : (a0.toList == ([] : List UInt8)) = false := beq_eq_false_iff_ne.mpr c2
    have c2b1 : (a0.toList != ([] : List UInt8)) = true := bne_iff_ne.mpr c2
    replace H := Option.bind_eq_some_iff.mp H
    obtain ⟨t488, A30, H⟩ := H
    replace H : (some t488) = some r := H
    have A3 := Aside0.mk A30
    clear A30
    obtain rfl := Option.some.inj H
    go_enter Tryd.func67, Tryd.ntmps67
    go_wp2_with (first | ((with_reducible refine gate_callee (f := 76) rfl ?_); refine goesL_ (some 25) rfl rfl Tryd.func76 (by kernel_rfl) rfl #[.string a0, .int .u8 48] rfl (by (try simp only [List.map_toArray, List.map_cons, List.map_nil]); first | done | rfl | (simp only [List.length_drop, List.length_take]; rfl)) ?_; (with_reducible refine (strings_trimLeftByte.calls k a0 48 t488 _ A3.out).mono ?_); rintro e w' ⟨rfl, ⟨nd, rfl⟩⟩; refine ⟨_, rfl, ?_⟩))
    go_ret
    exact ⟨by first | rfl | (simp [errW_none, errW_some] <;> rfl) | (simp [*, errW_none, errW_some] <;> rfl), by repeat (first | (with_reducible first | exact HB.out | apply below_alloc | apply pw_below_drewN | apply below_drew1) | exact HB.out)⟩

/-! ### nat_Text: function 48 -/
def nat_Text.l0 : Nat → List Int → ByteArray → Option (ByteArray)
  | 0, _, _ => none
  | k + 1, x0, x3 => if (x0.length : Int) > 0 then ((nat_short.f k x0 1000000000).bind fun bt490 => ((nat_digits.f bt490.2).bind fun t494 => (if t494.size + x3.size ≤ 9223372036854775807 then (nat_Text.l0 k bt490.1 (t494 ++ x3)) else (none)))) else ((strings_TrimLeft__c2.f k x3).bind fun t495 => (if t495.toList = ([] : List UInt8) then (some (⟨#[48]⟩ : ByteArray)) else (some t495)))
def nat_Text.f (k : Nat) (l0 : List Int) : Option (ByteArray) := (nat_Right.f l0).bind fun t489 => (if t489 = true then (nat_Text.l0 k l0 (⟨#[]⟩ : ByteArray)) else (some (⟨#[]⟩ : ByteArray)))
theorem nat_Text.mono_l : ∀ k, (∀ y0 y1, LeO (nat_Text.l0 k y0 y1) (nat_Text.l0 (k + 1) y0 y1))
  | 0 => fun _ _ r h => by simp [nat_Text.l0] at h
  | k + 1 => by
    have ih0 := nat_Text.mono_l k
    · intro y0 y1
      unfold nat_Text.l0
      repeat' first
      | (with_reducible exact ih0 _ _)
      | (with_reducible exact nat_short.mono _ _ _)
      | (with_reducible exact strings_TrimLeft__c2.mono _ _)
      | (with_reducible exact LeO.refl _)
      | (with_reducible exact LeO.none _)
      | (with_reducible refine LeO.ite ?_ ?_)
      | (with_reducible refine LeO.bind ?_ (fun _ => ?_))
      | exact ih0 _ _
      | exact nat_short.mono _ _ _
      | exact strings_TrimLeft__c2.mono _ _
      | exact LeO.none _
      | refine LeO.ite ?_ ?_
      | refine LeO.bind ?_ (fun _ => ?_)
theorem nat_Text.mono : ∀ a0 k, LeO (nat_Text.f k a0) (nat_Text.f (k + 1) a0) := by
  intro a0 k
  have ih0 := nat_Text.mono_l k
  unfold nat_Text.f
  repeat' first
      | (with_reducible exact ih0 _ _)
      | (with_reducible exact nat_short.mono _ _ _)
      | (with_reducible exact strings_TrimLeft__c2.mono _ _)
      | (with_reducible exact LeO.refl _)
      | (with_reducible exact LeO.none _)
      | (with_reducible refine LeO.ite ?_ ?_)
      | (with_reducible refine LeO.bind ?_ (fun _ => ?_))
      | exact ih0 _ _
      | exact nat_short.mono _ _ _
      | exact strings_TrimLeft__c2.mono _ _
      | exact LeO.none _
      | refine LeO.ite ?_ ?_
      | refine LeO.bind ?_ (fun _ => ?_)
set_option maxHeartbeats 8000000 in
set_option maxRecDepth 100000 in
theorem nat_Text.calls (k : Nat) (P0_ : Nat → Prop) (A0 : Option Addr) (c0 : Nat) (l0 : List Int) (r : ByteArray) (w : World) (hs0 : Kd.V (Kd.int .u32) 47 w w.heap.size (fun k_ => P0_ k_) (.slice A0 l0.length c0) l0) (h : nat_Text.f k l0 = some r) :
    Calls Tryd.prog 48 #[.slice A0 l0.length c0] w fun e w' => e = .returned (.string r) ∧ Below w.heap.size w w' := by
  have HO0 := Aside0.mk (show Kd.V (Kd.int .u32) 47 w w.heap.size (fun k_ => (P0_ k_ ∨ w.heap.size ≤ k_)) (.slice A0 l0.length c0) l0 from Kd.V_mono hs0 (fun k_ hk => .inl hk))
  have HB := Aside0.mk (Below.refl w.heap.size w)
  have H : ((nat_Right.f l0).bind fun t489 => (if t489 = true then (nat_Text.l0 k l0 (⟨#[]⟩ : ByteArray)) else (some (⟨#[]⟩ : ByteArray)))) = some r := h
  clear h
  replace H := Option.bind_eq_some_iff.mp H
  obtain ⟨t489, A20, H⟩ := H
  replace H : (if t489 = true then (nat_Text.l0 k l0 (⟨#[]⟩ : ByteArray)) else (some (⟨#[]⟩ : ByteArray))) = some r := H
  have A2 := Aside0.mk A20
  clear A20
  by_cases c3 : t489 = true
  · subst c3
    have H1 : (nat_Text.l0 k l0 (⟨#[]⟩ : ByteArray)) = some r := by rw [if_pos rfl] at H; exact H
    clear H
    have H := H1
    clear H1
    have H' := Aside0.mk H
    clear H
    go_enter Tryd.func48, Tryd.ntmps48
    go_wp2_with (first | ((with_reducible refine gate_callee (f := 44) rfl ?_); refine goesL_ (some 7) rfl rfl Tryd.func44 (by kernel_rfl) rfl #[.slice A0 l0.length c0] rfl (by (try simp only [List.map_toArray, List.map_cons, List.map_nil]); first | done | rfl | (simp only [List.length_drop, List.length_take]; rfl)) ?_; (with_reducible refine (nat_Right.calls _ _ l0 true _ ?side1 ?side2 A2.out).mono ?_); (case side1 => repeat (first | exact (Kd.V_reads' HO0.out).2.2 | (with_reducible refine Kd.C_alloc ?_ _) | (with_reducible refine Kd.C_drewN ?_ _) | (with_reducible refine Kd.C_drew ?_))); (case side2 => exact (Kd.V_reads' HO0.out).2.1); rintro e w' ⟨rfl, ⟨nd, rfl⟩⟩; refine ⟨_, rfl, ?_⟩))
    go_loopg [0, 3] k (fun kq v0 v3 w' => ∃ (x0_1 : List Int) (x3_1 : ByteArray), v3 = .string x3_1 ∧ Aside0 (nat_Text.l0 kq x0_1 x3_1 = some r) ∧ Aside0 (kq ≤ k) ∧ Aside0 (Kd.V (Kd.int .u32) 47 w' w.heap.size (fun k_ => (P0_ k_ ∨ w.heap.size ≤ k_)) v0 x0_1) ∧ Aside0 (Below w.heap.size w w'))
    case atStart => exact ⟨(l0), ((⟨#[]⟩ : ByteArray)), (by first | rfl | (simp; done) | (simp [*]; done)), H', ⟨Nat.le_refl _⟩, ⟨by (with_reducible repeat (first | apply Kd.V_alloc | apply Kd.V_drewN | apply Kd.V_drew)); exact HO0.out⟩, ⟨by repeat (first | (with_reducible first | exact HB.out | apply below_alloc | apply pw_below_drewN | apply below_drew1) | exact HB.out)⟩⟩
    case round =>
      clear H'
      try clear p2
      try clear c3
      obtain ⟨x0_1, x3_1, rfl, HA, HK1, HO_0, HB⟩ := hrel
      cases gk with
      | zero => exact absurd HA.out (by simp [nat_Text.l0])
      | succ k1 =>
        have H := HA.out
        clear HA
        simp only [nat_Text.l0] at H
        by_cases c4 : (x0_1.length : Int) > 0
        · rw [if_pos c4] at H
          have c4b0 : decide (0 < (x0_1.length : Int)) = true := decide_eq_true c4
          have c4b1 : decide (0 < x0_1.length) = true := decide_eq_true (by omega)
          clear c4
          replace H := Option.bind_eq_some_iff.mp H
          obtain ⟨⟨t490, t491⟩, A50, H⟩ := H
          replace H : ((nat_digits.f t491).bind fun t494 => (if t494.size + x3_1.size ≤ 9223372036854775807 then (nat_Text.l0 k1 t490 (t494 ++ x3_1)) else (none))) = some r := H
          have A5 := Aside0.mk A50
          clear A50
          replace H := Option.bind_eq_some_iff.mp H
          obtain ⟨t494, A60, H⟩ := H
          replace H : (if t494.size + x3_1.size ≤ 9223372036854775807 then (nat_Text.l0 k1 t490 (t494 ++ x3_1)) else (none)) = some r := H
          have A6 := Aside0.mk A60
          clear A60
          by_cases c7 : t494.size + x3_1.size ≤ 9223372036854775807
          · rw [if_pos c7] at H
            have c7b0 := eq_true c7
            have c7b1 : decide (t494.size + x3_1.size ≤ 9223372036854775807) = true := decide_eq_true c7
            try have c7b2 : (9223372036854775807 < t494.size + x3_1.size) = False := eq_false (Nat.not_lt.2 c7)
            have H' := Aside0.mk H
            clear H
            obtain ⟨Ao8, co8, eo8⟩ := Kd.V_slice HO_0.out
            subst eo8
            go_wp2_with (first | ((with_reducible refine gate_callee (f := 64) rfl ?_); refine goesL_ (some 14) rfl rfl Tryd.func64 (by kernel_rfl) rfl #[.slice Ao8 x0_1.length co8, .int .u32 1000000000] rfl (by (try simp only [List.map_toArray, List.map_cons, List.map_nil]); first | done | rfl | (simp only [List.length_drop, List.length_take]; rfl)) ?_; (with_reducible refine (nat_short.calls k1 _ _ x0_1 1000000000 t490 t491 _ ?side1 ?side2 A5.out).mono ?_); (case side1 => repeat (first | exact (Kd.V_reads' HO_0.out).2.2 | (with_reducible refine Kd.C_alloc ?_ _) | (with_reducible refine Kd.C_drewN ?_ _) | (with_reducible refine Kd.C_drew ?_))); (case side2 => exact (Kd.V_reads' HO_0.out).2.1); rintro e w9 ⟨v492, rfl, ho0, hb⟩; refine ⟨_, rfl, ?_⟩; have n0_ := Aside0.mk (Kd.V_elder' (by (with_reducible repeat (first | apply Kd.V_alloc | apply Kd.V_drewN | apply Kd.V_drew)); exact HO_0.out) (Kd.R_base ho0) hb); have n1_ := Aside0.mk (Kd.R_lower (Kd.R_newM (M := fun k_ => (w.heap.size ≤ k_)) ho0 (below_size (by repeat (first | (with_reducible first | exact HB.out | apply below_alloc | apply pw_below_drewN | apply below_drew1) | exact HB.out))) (fun k_ h_ => h_)) (below_size (by repeat (first | (with_reducible first | exact HB.out | apply below_alloc | apply pw_below_drewN | apply below_drew1) | exact HB.out)))); have n2_ := Aside0.mk (below_step (by repeat (first | (with_reducible first | exact HB.out | apply below_alloc | apply pw_below_drewN | apply below_drew1) | exact HB.out)) hb); clear HO_0; clear HB; have HO_0 := n0_; have HO493 := n1_; have HB := n2_; clear n0_ n1_ n2_; (try clear hb); (try clear hb2); (try clear hk); (try clear hi); (try clear ho0)) | ((with_reducible refine gate_callee (f := 66) rfl ?_); refine goesL_ (some 18) rfl rfl Tryd.func66 (by kernel_rfl) rfl #[.int .u32 t491] rfl (by (try simp only [List.map_toArray, List.map_cons, List.map_nil]); first | done | rfl | (simp only [List.length_drop, List.length_take]; rfl)) ?_; (with_reducible refine (nat_digits.calls t491 t494 _ A6.out).mono ?_); rintro e w10 ⟨rfl, hb⟩; refine ⟨_, rfl, ?_⟩; have n0_ := Aside0.mk (Kd.V_below (by (with_reducible repeat (first | apply Kd.V_alloc | apply Kd.V_drewN | apply Kd.V_drew)); exact HO_0.out) hb); have n1_ := Aside0.mk (Kd.R_below (by (with_reducible repeat (first | apply Kd.R_alloc | apply Kd.R_drewN | apply Kd.R_drew)); exact HO493.out) hb); have n2_ := Aside0.mk (below_step (by repeat (first | (with_reducible first | exact HB.out | apply below_alloc | apply pw_below_drewN | apply below_drew1) | exact HB.out)) hb); clear HO_0; clear HO493; clear HB; have HO_0 := n0_; have HO493 := n1_; have HB := n2_; clear n0_ n1_ n2_; (try clear hb); (try clear hb2); (try clear hk); (try clear hi)))
            go_roundg k1
            case measure => have := HK1.out; omega
            case rel => exact ⟨(t490), (t494 ++ x3_1), (by first | rfl | (simp; done) | (simp [*]; done)), H', ⟨by have := HK1.out; omega⟩, ⟨Kd.V_mono (Kd.R_V (by (with_reducible repeat (first | apply Kd.R_alloc | apply Kd.R_drewN | apply Kd.R_drew)); exact Kd.R_mono HO493.out (fun _ hk => hk.1))) (fun k_ hk => by first | exact ⟨(.inr (hk.1)), hk.2⟩ | exact (.inr (hk)))⟩, ⟨by repeat (first | (with_reducible first | exact HB.out | apply below_alloc | apply pw_below_drewN | apply below_drew1) | exact HB.out)⟩⟩
          · rw [if_neg c7] at H
            exact absurd H (by simp)
        · rw [if_neg c4] at H
          have c4b0 : decide (0 < (x0_1.length : Int)) = false := decide_eq_false c4
          have c4b1 : decide (0 < x0_1.length) = false := decide_eq_false (by omega)
          clear c4
          replace H := Option.bind_eq_some_iff.mp H
          obtain ⟨t495, A110, H⟩ := H
          replace H : (if t495.toList = ([] : List UInt8) then (some (⟨#[48]⟩ : ByteArray)) else (some t495)) = some r := H
          have A11 := Aside0.mk A110
          clear A110
          by_cases c12 : t495.toList = ([] : List UInt8)
          · rw [if_pos c12] at H
            have c12b0 : (t495.toList == ([] : List UInt8)) = true := beq_iff_eq.mpr c12
            have c12b1 : (t495.toList != ([] : List UInt8)) = false := bne_eq_false_iff_eq.mpr c12
            clear c12
            obtain rfl := Option.some.inj H
            obtain ⟨Ao13, co13, eo13⟩ := Kd.V_slice HO_0.out
            subst eo13
            go_wp2_with (first | ((with_reducible refine gate_callee (f := 67) rfl ?_); refine goesL_ (some 23) rfl rfl Tryd.func67 (by kernel_rfl) rfl #[.string x3_1, .string (⟨#[48]⟩ : ByteArray)] rfl (by (try simp only [List.map_toArray, List.map_cons, List.map_nil]); first | done | rfl | (simp only [List.length_drop, List.length_take]; rfl)) ?_; (with_reducible refine (strings_TrimLeft__c2.calls k1 x3_1 t495 _ A11.out).mono ?_); rintro e w14 ⟨rfl, hb⟩; refine ⟨_, rfl, ?_⟩; have n0_ := Aside0.mk (Kd.V_below (by (with_reducible repeat (first | apply Kd.V_alloc | apply Kd.V_drewN | apply Kd.V_drew)); exact HO_0.out) hb); have n1_ := Aside0.mk (below_step (by repeat (first | (with_reducible first | exact HB.out | apply below_alloc | apply pw_below_drewN | apply below_drew1) | exact HB.out)) hb); clear HO_0; clear HB; have HO_0 := n0_; have HB := n1_; clear n0_ n1_; (try clear hb); (try clear hb2); (try clear hk); (try clear hi)))
            go_ret
            exact ⟨by first | rfl | (simp [errW_none, errW_some] <;> rfl) | (simp [*, errW_none, errW_some] <;> rfl), by repeat (first | (with_reducible first | exact HB.out | apply below_alloc | apply pw_below_drewN | apply below_drew1) | exact HB.out)⟩
          · rw [if_neg c12] at H
            have c12b0 : (t495.toList == ([] : List UInt8)) = false := beq_eq_false_iff_ne.mpr c12
            have c12b1 : (t495.toList != ([] : List UInt8)) = true := bne_iff_ne.mpr c12
            obtain rfl := Option.some.inj H
            obtain ⟨Ao15, co15, eo15⟩ := Kd.V_slice HO_0.out
            subst eo15
            go_wp2_with (first | ((with_reducible refine gate_callee (f := 67) rfl ?_); refine goesL_ (some 23) rfl rfl Tryd.func67 (by kernel_rfl) rfl #[.string x3_1, .string (⟨#[48]⟩ : ByteArray)] rfl (by (try simp only [List.map_toArray, List.map_cons, List.map_nil]); first | done | rfl | (simp only [List.length_drop, List.length_take]; rfl)) ?_; (with_reducible refine (strings_TrimLeft__c2.calls k1 x3_1 t495 _ A11.out).mono ?_); rintro e w16 ⟨rfl, hb⟩; refine ⟨_, rfl, ?_⟩; have n0_ := Aside0.mk (Kd.V_below (by (with_reducible repeat (first | apply Kd.V_alloc | apply Kd.V_drewN | apply Kd.V_drew)); exact HO_0.out) hb); have n1_ := Aside0.mk (below_step (by repeat (first | (with_reducible first | exact HB.out | apply below_alloc | apply pw_below_drewN | apply below_drew1) | exact HB.out)) hb); clear HO_0; clear HB; have HO_0 := n0_; have HB := n1_; clear n0_ n1_; (try clear hb); (try clear hb2); (try clear hk); (try clear hi)))
            go_ret
            exact ⟨by first | rfl | (simp [errW_none, errW_some] <;> rfl) | (simp [*, errW_none, errW_some] <;> rfl), by repeat (first | (with_reducible first | exact HB.out | apply below_alloc | apply pw_below_drewN | apply below_drew1) | exact HB.out)⟩
  · replace c3 := Bool.eq_false_iff.mpr c3
    subst c3
    have H1 : (some (⟨#[]⟩ : ByteArray)) = some r := by rw [if_neg (show ¬ (false = true) by decide)] at H; exact H
    clear H
    have H := H1
    clear H1
    obtain rfl := Option.some.inj H
    go_enter Tryd.func48, Tryd.ntmps48
    go_wp2_with (first | ((with_reducible refine gate_callee (f := 44) rfl ?_); refine goesL_ (some 7) rfl rfl Tryd.func44 (by kernel_rfl) rfl #[.slice A0 l0.length c0] rfl (by (try simp only [List.map_toArray, List.map_cons, List.map_nil]); first | done | rfl | (simp only [List.length_drop, List.length_take]; rfl)) ?_; (with_reducible refine (nat_Right.calls _ _ l0 false _ ?side1 ?side2 A2.out).mono ?_); (case side1 => repeat (first | exact (Kd.V_reads' HO0.out).2.2 | (with_reducible refine Kd.C_alloc ?_ _) | (with_reducible refine Kd.C_drewN ?_ _) | (with_reducible refine Kd.C_drew ?_))); (case side2 => exact (Kd.V_reads' HO0.out).2.1); rintro e w' ⟨rfl, ⟨nd, rfl⟩⟩; refine ⟨_, rfl, ?_⟩))
    go_ret
    exact ⟨by first | rfl | (simp [errW_none, errW_some] <;> rfl) | (simp [*, errW_none, errW_some] <;> rfl), by repeat (first | (with_reducible first | exact HB.out | apply below_alloc | apply pw_below_drewN | apply below_drew1) | exact HB.out)⟩

/-! ### rat_Text: function 22 -/
def rat_Text.f (k : Nat) (l0_0 : List Int) (l0_1 : List Int) : Option (ByteArray) := (rat_Right.f k l0_0 l0_1).bind fun t497 => (if t497 = true then ((nat_Text.f k l0_0).bind fun t498 => (if t498.size + 1 ≤ 9223372036854775807 then ((nat_Text.f k l0_1).bind fun t499 => (if t498.size + 1 + t499.size ≤ 9223372036854775807 then (some ((t498 ++ (⟨#[47]⟩ : ByteArray)) ++ t499)) else (none))) else (none))) else (some (⟨#[]⟩ : ByteArray)))
theorem rat_Text.mono : ∀ a0 a1 k, LeO (rat_Text.f k a0 a1) (rat_Text.f (k + 1) a0 a1) := by
  intro a0 a1 k
  unfold rat_Text.f
  repeat' first
      | (with_reducible exact nat_Text.mono _ _)
      | (with_reducible exact rat_Right.mono _ _ _)
      | (with_reducible exact LeO.refl _)
      | (with_reducible exact LeO.none _)
      | (with_reducible refine LeO.ite ?_ ?_)
      | (with_reducible refine LeO.bind ?_ (fun _ => ?_))
      | exact nat_Text.mono _ _
      | exact rat_Right.mono _ _ _
      | exact LeO.none _
      | refine LeO.ite ?_ ?_
      | refine LeO.bind ?_ (fun _ => ?_)
def rat_Text.T3 : Bool × List (List Nat × List Nat) := (true, [([], []), ([0], [0]), ([1], [1]), ([2], [2]), ([], []), ([4], [4]), ([5, 2], [5]), ([3, 6], [3, 6]), ([7, 6, 0, 1, 2, 3, 4, 5, 6, 7], [7])])
def rat_Text.B3 : List Nat := [0, 1, 3, 7, 0, 16, 55, 127, 255]
theorem rat_Text.tab3 : rtab .any (opsOf Tryd.f22 3) = rat_Text.T3 := by kernel_rfl
theorem rat_Text.bits3 : waitsOk rat_Text.T3.2 rat_Text.B3 = true := by kernel_rfl
set_option maxHeartbeats 8000000 in
set_option maxRecDepth 100000 in
theorem rat_Text.calls (k : Nat) (A0_0 : Option Addr) (c0_0 : Nat) (l0_0 : List Int) (A0_1 : Option Addr) (c0_1 : Nat) (l0_1 : List Int) (r : ByteArray) (w : World) (hr0_0 : Kd.C (Kd.int .u32) w A0_0 l0_0.length l0_0) (hc0_0 : l0_0.length ≤ c0_0) (hr0_1 : Kd.C (Kd.int .u32) w A0_1 l0_1.length l0_1) (hc0_1 : l0_1.length ≤ c0_1) (h : rat_Text.f k l0_0 l0_1 = some r) :
    Calls Tryd.prog 22 #[.agg #[.slice A0_0 l0_0.length c0_0, .slice A0_1 l0_1.length c0_1]] w fun e w' => e = .returned (.string r) ∧ Below w.heap.size w w' := by
  have hu25 := Tryd.underlying25
  have HR0_0 := Aside0.mk hr0_0
  have HC0_0 := Aside0.mk hc0_0
  clear hr0_0 hc0_0
  have HR0_1 := Aside0.mk hr0_1
  have HC0_1 := Aside0.mk hc0_1
  clear hr0_1 hc0_1
  have HB := Aside0.mk (Below.refl w.heap.size w)
  have H : ((rat_Right.f k l0_0 l0_1).bind fun t497 => (if t497 = true then ((nat_Text.f k l0_0).bind fun t498 => (if t498.size + 1 ≤ 9223372036854775807 then ((nat_Text.f k l0_1).bind fun t499 => (if t498.size + 1 + t499.size ≤ 9223372036854775807 then (some ((t498 ++ (⟨#[47]⟩ : ByteArray)) ++ t499)) else (none))) else (none))) else (some (⟨#[]⟩ : ByteArray)))) = some r := h
  clear h
  replace H := Option.bind_eq_some_iff.mp H
  obtain ⟨t497, A20, H⟩ := H
  replace H : (if t497 = true then ((nat_Text.f k l0_0).bind fun t498 => (if t498.size + 1 ≤ 9223372036854775807 then ((nat_Text.f k l0_1).bind fun t499 => (if t498.size + 1 + t499.size ≤ 9223372036854775807 then (some ((t498 ++ (⟨#[47]⟩ : ByteArray)) ++ t499)) else (none))) else (none))) else (some (⟨#[]⟩ : ByteArray))) = some r := H
  have A2 := Aside0.mk A20
  clear A20
  by_cases c3 : t497 = true
  · subst c3
    have H1 : ((nat_Text.f k l0_0).bind fun t498 => (if t498.size + 1 ≤ 9223372036854775807 then ((nat_Text.f k l0_1).bind fun t499 => (if t498.size + 1 + t499.size ≤ 9223372036854775807 then (some ((t498 ++ (⟨#[47]⟩ : ByteArray)) ++ t499)) else (none))) else (none))) = some r := by rw [if_pos rfl] at H; exact H
    clear H
    have H := H1
    clear H1
    replace H := Option.bind_eq_some_iff.mp H
    obtain ⟨t498, A40, H⟩ := H
    replace H : (if t498.size + 1 ≤ 9223372036854775807 then ((nat_Text.f k l0_1).bind fun t499 => (if t498.size + 1 + t499.size ≤ 9223372036854775807 then (some ((t498 ++ (⟨#[47]⟩ : ByteArray)) ++ t499)) else (none))) else (none)) = some r := H
    have A4 := Aside0.mk A40
    clear A40
    by_cases c5 : t498.size + 1 ≤ 9223372036854775807
    · rw [if_pos c5] at H
      have c5b0 := eq_true c5
      have c5b1 : decide (t498.size + 1 ≤ 9223372036854775807) = true := decide_eq_true c5
      try have c5b2 : (9223372036854775807 < t498.size + 1) = False := eq_false (Nat.not_lt.2 c5)
      replace H := Option.bind_eq_some_iff.mp H
      obtain ⟨t499, A60, H⟩ := H
      replace H : (if t498.size + 1 + t499.size ≤ 9223372036854775807 then (some ((t498 ++ (⟨#[47]⟩ : ByteArray)) ++ t499)) else (none)) = some r := H
      have A6 := Aside0.mk A60
      clear A60
      by_cases c7 : t498.size + 1 + t499.size ≤ 9223372036854775807
      · rw [if_pos c7] at H
        have c7b0 := eq_true c7
        have c7b1 : decide (t498.size + 1 + t499.size ≤ 9223372036854775807) = true := decide_eq_true c7
        try have c7b2 : (9223372036854775807 < t498.size + 1 + t499.size) = False := eq_false (Nat.not_lt.2 c7)
        obtain rfl := Option.some.inj H
        go_enter Tryd.func22, Tryd.ntmps22
        try go_wp2_with (first | ((with_reducible refine gate_dst (N := 1) rfl ?_); refine box_event ?hg (N := 1) ?hd (cs := #[.slice A0_0 l0_0.length c0_0, .slice A0_1 l0_1.length c0_1]) (t := 25) ?hr ?_; (case hd => rfl); (case hg => rfl); (case hr => first | (go_simp; done) | (go_simp; rfl)); intro gb496 hg w8 hbox hb; have n0_ := Aside0.mk (below_step (by repeat (first | (with_reducible first | exact HB.out | apply below_alloc | apply pw_below_drewN | apply below_drew1) | exact HB.out)) hb); have n1_ := Aside0.mk (hbox); have n2_ := Aside0.mk ((by rw [hg]; exact (below_size (by repeat (first | (with_reducible first | exact HB.out | apply below_alloc | apply pw_below_drewN | apply below_drew1) | exact HB.out))) : w.heap.size ≤ gb496)); have n3_ := Aside0.mk ((by rw [hg]; exact (below_size (by repeat (first | (with_reducible first | exact HB.out | apply below_alloc | apply pw_below_drewN | apply below_drew1) | exact HB.out))) : w.heap.size ≤ gb496)); clear HB; have HB := n0_; have BK496 := n1_; have GW496 := n2_; have GE496 := n3_; clear n0_ n1_ n2_ n3_; clear hb hbox hg; have hcz9_0 : w8.cell? ⟨gb496, 0, none⟩ = some (.slice A0_0 l0_0.length c0_0) := (blk_cell BK496.out 0).trans rfl; have hcz9_1 : w8.cell? ⟨gb496, 1, none⟩ = some (.slice A0_1 l0_1.length c0_1) := (blk_cell BK496.out 1).trans rfl; have hfz9_0 := blk_frozen BK496.out 0; have hfz9_1 := blk_frozen BK496.out 1) | ((with_reducible refine gate_callee (f := 7) rfl ?_); refine goesL_ (some 4) rfl rfl Tryd.func7 (by kernel_rfl) rfl #[.agg #[.slice A0_0 l0_0.length c0_0, .slice A0_1 l0_1.length c0_1]] rfl (by (try simp only [List.map_toArray, List.map_cons, List.map_nil]); first | done | rfl | (simp only [List.length_drop, List.length_take]; rfl)) ?_; (with_reducible refine (rat_Right.calls k _ _ l0_0 _ _ l0_1 true _ ?side1 ?side2 ?side3 ?side4 A2.out).mono ?_); (case side1 => repeat (first | exact (Kd.C_below HR0_0.out HB.out) | (with_reducible refine Kd.C_alloc ?_ _) | (with_reducible refine Kd.C_drewN ?_ _) | (with_reducible refine Kd.C_drew ?_))); (case side2 => exact HC0_0.out); (case side3 => repeat (first | exact (Kd.C_below HR0_1.out HB.out) | (with_reducible refine Kd.C_alloc ?_ _) | (with_reducible refine Kd.C_drewN ?_ _) | (with_reducible refine Kd.C_drew ?_))); (case side4 => exact HC0_1.out); rintro e w10 ⟨rfl, hb⟩; refine ⟨_, rfl, ?_⟩; have n0_ := Aside0.mk (blk_below (g := gb496) (o := .cells #[.slice A0_0 l0_0.length c0_0, .slice A0_1 l0_1.length c0_1] 25 (0, 0)) (by (with_reducible repeat (first | refine blk_drewN ?_ _ | refine blk_drew ?_ | refine blk_alloc ?_ _)); exact BK496.out) hb); have n1_ := Aside0.mk (below_step (by repeat (first | (with_reducible first | exact HB.out | apply below_alloc | apply pw_below_drewN | apply below_drew1 | refine below_set ?_ GE496.out) | exact HB.out)) hb); clear BK496; clear HB; have BK496 := n0_; have HB := n1_; clear n0_ n1_; (try clear hb); (try clear hb2); (try clear hk); (try clear hi)))
        have n0_ := Aside0.mk (blk_drew BK496.out)
        have n1_ := Aside0.mk (below_drew1 HB.out)
        clear BK496
        clear HB
        have BK496 := n0_
        have HB := n1_
        clear n0_ n1_
        refine start_ (n := 9) (S := fun w' => w'.cell? ⟨gb496, 0, none⟩ = some (.slice A0_0 l0_0.length c0_0) ∧ w'.cell? ⟨gb496, 1, none⟩ = some (.slice A0_1 l0_1.length c0_1)) (ds := []) #[false, false, false, false, false, false, false, false, false] (by kernel_rfl) rfl rfl ⟨(blk_cell BK496.out 0).trans rfl, (blk_cell BK496.out 1).trans rfl⟩ (fun hHeld => ?_); refine with_tabW rat_Text.tab3 rat_Text.bits3 (fun HT_ HW_ => ?_)
        generalize w10.drew = w11 at BK496 HB hHeld ⊢
        refine pure_ (i := 0) (N := some 6) (v := ?_) (a' := ?_) #[true, false, false, false, false, false, false, false, false] rfl rfl (any_of HT_.out (by kernel_rfl)) (fun _ _ _ h => h) (Or.inl ⟨by rfl, ?_⟩) ?_ ?_
        rotate_left
        · intro w'
          go_simp
          with_reducible rfl
        rotate_left
        · simp only [Act.put, List.setIfInBounds_toArray, List.set_cons_zero, List.set_cons_succ, i64_w, i32_w]
          rfl
        refine pure_ (i := 4) (N := some 10) (v := ?_) (a' := ?_) #[true, false, false, false, true, false, false, false, false] rfl rfl (any_of HT_.out (by kernel_rfl)) (fun _ _ _ h => h) (Or.inl ⟨by rfl, ?_⟩) ?_ ?_
        rotate_left
        · intro w'
          go_simp
          with_reducible rfl
        rotate_left
        · simp only [Act.put, List.setIfInBounds_toArray, List.set_cons_zero, List.set_cons_succ, i64_w, i32_w]
          rfl
        refine take_ (i := 1) (N := some 7) (v := ?_) (a' := ?_) #[true, true, false, false, true, false, false, false, false] rfl rfl (take_ofW HT_.out HW_.out (by kernel_rfl)) (fun _ _ _ h => h) (Or.inl ⟨by rfl, ?_⟩) hHeld ?_ ?_
        rotate_left
        · rintro w' ⟨s0, s1⟩
          go_simp
          with_reducible rfl
        rotate_left
        · simp only [Act.put, List.setIfInBounds_toArray, List.set_cons_zero, List.set_cons_succ, i64_w, i32_w]
          rfl
        refine take_ (i := 5) (N := some 11) (v := ?_) (a' := ?_) #[true, true, false, false, true, true, false, false, false] rfl rfl (take_ofW HT_.out HW_.out (by kernel_rfl)) (fun _ _ _ h => h) (Or.inl ⟨by rfl, ?_⟩) hHeld ?_ ?_
        rotate_left
        · rintro w' ⟨s0, s1⟩
          go_simp
          with_reducible rfl
        rotate_left
        · simp only [Act.put, List.setIfInBounds_toArray, List.set_cons_zero, List.set_cons_succ, i64_w, i32_w]
          rfl
        refine one_ (i := 2) (N := some 8) #[true, true, true, false, true, true, false, false, false] rfl rfl (one_of HT_.out (by kernel_rfl)) (by decide) (fun K hK => ?_)
        refine goes_ Tryd.func48 (by kernel_rfl) rfl #[.slice A0_0 l0_0.length c0_0] (by rfl) rfl rfl (by (try simp only [List.map_toArray, List.map_cons, List.map_nil]); first | done | rfl | (simp only [List.length_drop, List.length_take]; rfl)) ?_
        with_reducible refine (nat_Text.calls k (fun k_ => k_ < w.heap.size) _ _ l0_0 t498 _ ?side1 A4.out).mono ?_
        (case side1 => exact Kd.V_mk HC0_0.out (Kd.F_below (Kd.C_F (Kd.heap_int .u32) HR0_0.out) (by repeat (first | (with_reducible first | exact HB.out | apply below_alloc | apply pw_below_drewN | apply below_drew1 | refine below_set ?_ GE496.out) | exact HB.out))))
        rintro e w12 ⟨rfl, hb⟩
        refine ⟨_, rfl, ?_⟩
        have n0_ := Aside0.mk (blk_below (g := gb496) (o := .cells #[.slice A0_0 l0_0.length c0_0, .slice A0_1 l0_1.length c0_1] 25 (0, 0)) (by (with_reducible repeat (first | refine blk_drewN ?_ _ | refine blk_drew ?_ | refine blk_alloc ?_ _)); exact BK496.out) hb)
        have n1_ := Aside0.mk (below_step (by repeat (first | (with_reducible first | exact HB.out | apply below_alloc | apply pw_below_drewN | apply below_drew1 | refine below_set ?_ GE496.out) | exact HB.out)) hb)
        clear BK496
        clear HB
        have BK496 := n0_
        have HB := n1_
        clear n0_ n1_
        (try clear hb)
        (try clear hb2)
        (try clear hk)
        (try clear hi)
        refine hK.out _ _ ⟨(blk_cell BK496.out 0).trans rfl, (blk_cell BK496.out 1).trans rfl⟩ (fun hHeld => ?_)
        clear hK K
        refine norm_ (a' := ?_) ?_ ?_
        rotate_left
        · show Act.put _ (some 8) _ = _
          simp only [Act.put, List.setIfInBounds_toArray, List.set_cons_zero, List.set_cons_succ, i64_w, i32_w]
          rfl
        refine pure_ (i := 3) (N := some 9) (v := ?_) (a' := ?_) #[true, true, true, true, true, true, false, false, false] rfl rfl (any_of HT_.out (by kernel_rfl)) (fun _ _ _ h => h) (Or.inl ⟨by rfl, ?_⟩) ?_ ?_
        rotate_left
        · intro w'
          go_simp
          with_reducible rfl
        rotate_left
        · simp only [Act.put, List.setIfInBounds_toArray, List.set_cons_zero, List.set_cons_succ, i64_w, i32_w]
          rfl
        refine one_ (i := 6) (N := some 12) #[true, true, true, true, true, true, true, false, false] rfl rfl (one_of HT_.out (by kernel_rfl)) (by decide) (fun K hK => ?_)
        refine goes_ Tryd.func48 (by kernel_rfl) rfl #[.slice A0_1 l0_1.length c0_1] (by rfl) rfl rfl (by (try simp only [List.map_toArray, List.map_cons, List.map_nil]); first | done | rfl | (simp only [List.length_drop, List.length_take]; rfl)) ?_
        with_reducible refine (nat_Text.calls k (fun k_ => k_ < w.heap.size) _ _ l0_1 t499 _ ?side1 A6.out).mono ?_
        (case side1 => exact Kd.V_mk HC0_1.out (Kd.F_below (Kd.C_F (Kd.heap_int .u32) HR0_1.out) (by repeat (first | (with_reducible first | exact HB.out | apply below_alloc | apply pw_below_drewN | apply below_drew1 | refine below_set ?_ GE496.out) | exact HB.out))))
        rintro e w13 ⟨rfl, hb⟩
        refine ⟨_, rfl, ?_⟩
        have n0_ := Aside0.mk (blk_below (g := gb496) (o := .cells #[.slice A0_0 l0_0.length c0_0, .slice A0_1 l0_1.length c0_1] 25 (0, 0)) (by (with_reducible repeat (first | refine blk_drewN ?_ _ | refine blk_drew ?_ | refine blk_alloc ?_ _)); exact BK496.out) hb)
        have n1_ := Aside0.mk (below_step (by repeat (first | (with_reducible first | exact HB.out | apply below_alloc | apply pw_below_drewN | apply below_drew1 | refine below_set ?_ GE496.out) | exact HB.out)) hb)
        clear BK496
        clear HB
        have BK496 := n0_
        have HB := n1_
        clear n0_ n1_
        (try clear hb)
        (try clear hb2)
        (try clear hk)
        (try clear hi)
        refine hK.out _ _ ⟨(blk_cell BK496.out 0).trans rfl, (blk_cell BK496.out 1).trans rfl⟩ (fun hHeld => ?_)
        clear hK K
        refine norm_ (a' := ?_) ?_ ?_
        rotate_left
        · show Act.put _ (some 12) _ = _
          simp only [Act.put, List.setIfInBounds_toArray, List.set_cons_zero, List.set_cons_succ, i64_w, i32_w]
          rfl
        refine pure_ (i := 7) (N := some 13) (v := ?_) (a' := ?_) #[true, true, true, true, true, true, true, true, false] rfl rfl (any_of HT_.out (by kernel_rfl)) (fun _ _ _ h => h) (Or.inl ⟨by rfl, ?_⟩) ?_ ?_
        rotate_left
        · intro w'
          go_simp
          with_reducible rfl
        rotate_left
        · simp only [Act.put, List.setIfInBounds_toArray, List.set_cons_zero, List.set_cons_succ, i64_w, i32_w]
          rfl
        refine pure_ (i := 8) (N := some 2) (v := ?_) (a' := ?_) #[true, true, true, true, true, true, true, true, true] rfl rfl (any_of HT_.out (by kernel_rfl)) (fun _ _ _ h => h) (Or.inl ⟨by rfl, ?_⟩) ?_ ?_
        rotate_left
        · intro w'
          go_simp
          with_reducible rfl
        rotate_left
        · simp only [Act.put, List.setIfInBounds_toArray, List.set_cons_zero, List.set_cons_succ, i64_w, i32_w]
          rfl
        refine done_ (done_of HT_.out (by kernel_rfl)) ?_
        try go_wp2
        go_ret
        exact ⟨by first | rfl | (simp [errW_none, errW_some] <;> rfl) | (simp [*, errW_none, errW_some] <;> rfl), by repeat (first | (with_reducible first | exact HB.out | apply below_alloc | apply pw_below_drewN | apply below_drew1 | refine below_set ?_ GE496.out) | exact HB.out)⟩
      · rw [if_neg c7] at H
        exact absurd H (by simp)
    · rw [if_neg c5] at H
      exact absurd H (by simp)
  · replace c3 := Bool.eq_false_iff.mpr c3
    subst c3
    have H1 : (some (⟨#[]⟩ : ByteArray)) = some r := by rw [if_neg (show ¬ (false = true) by decide)] at H; exact H
    clear H
    have H := H1
    clear H1
    obtain rfl := Option.some.inj H
    go_enter Tryd.func22, Tryd.ntmps22
    go_wp2_with (first | ((with_reducible refine gate_dst (N := 1) rfl ?_); refine box_event ?hg (N := 1) ?hd (cs := #[.slice A0_0 l0_0.length c0_0, .slice A0_1 l0_1.length c0_1]) (t := 25) ?hr ?_; (case hd => rfl); (case hg => rfl); (case hr => first | (go_simp; done) | (go_simp; rfl)); intro gb496 hg w14 hbox hb; have n0_ := Aside0.mk (below_step (by repeat (first | (with_reducible first | exact HB.out | apply below_alloc | apply pw_below_drewN | apply below_drew1) | exact HB.out)) hb); have n1_ := Aside0.mk (hbox); have n2_ := Aside0.mk ((by rw [hg]; exact (below_size (by repeat (first | (with_reducible first | exact HB.out | apply below_alloc | apply pw_below_drewN | apply below_drew1) | exact HB.out))) : w.heap.size ≤ gb496)); have n3_ := Aside0.mk ((by rw [hg]; exact (below_size (by repeat (first | (with_reducible first | exact HB.out | apply below_alloc | apply pw_below_drewN | apply below_drew1) | exact HB.out))) : w.heap.size ≤ gb496)); clear HB; have HB := n0_; have BK496 := n1_; have GW496 := n2_; have GE496 := n3_; clear n0_ n1_ n2_ n3_; clear hb hbox hg; have hcz15_0 : w14.cell? ⟨gb496, 0, none⟩ = some (.slice A0_0 l0_0.length c0_0) := (blk_cell BK496.out 0).trans rfl; have hcz15_1 : w14.cell? ⟨gb496, 1, none⟩ = some (.slice A0_1 l0_1.length c0_1) := (blk_cell BK496.out 1).trans rfl; have hfz15_0 := blk_frozen BK496.out 0; have hfz15_1 := blk_frozen BK496.out 1) | ((with_reducible refine gate_callee (f := 7) rfl ?_); refine goesL_ (some 4) rfl rfl Tryd.func7 (by kernel_rfl) rfl #[.agg #[.slice A0_0 l0_0.length c0_0, .slice A0_1 l0_1.length c0_1]] rfl (by (try simp only [List.map_toArray, List.map_cons, List.map_nil]); first | done | rfl | (simp only [List.length_drop, List.length_take]; rfl)) ?_; (with_reducible refine (rat_Right.calls k _ _ l0_0 _ _ l0_1 false _ ?side1 ?side2 ?side3 ?side4 A2.out).mono ?_); (case side1 => repeat (first | exact (Kd.C_below HR0_0.out HB.out) | (with_reducible refine Kd.C_alloc ?_ _) | (with_reducible refine Kd.C_drewN ?_ _) | (with_reducible refine Kd.C_drew ?_))); (case side2 => exact HC0_0.out); (case side3 => repeat (first | exact (Kd.C_below HR0_1.out HB.out) | (with_reducible refine Kd.C_alloc ?_ _) | (with_reducible refine Kd.C_drewN ?_ _) | (with_reducible refine Kd.C_drew ?_))); (case side4 => exact HC0_1.out); rintro e w16 ⟨rfl, hb⟩; refine ⟨_, rfl, ?_⟩; have n0_ := Aside0.mk (blk_below (g := gb496) (o := .cells #[.slice A0_0 l0_0.length c0_0, .slice A0_1 l0_1.length c0_1] 25 (0, 0)) (by (with_reducible repeat (first | refine blk_drewN ?_ _ | refine blk_drew ?_ | refine blk_alloc ?_ _)); exact BK496.out) hb); have n1_ := Aside0.mk (below_step (by repeat (first | (with_reducible first | exact HB.out | apply below_alloc | apply pw_below_drewN | apply below_drew1 | refine below_set ?_ GE496.out) | exact HB.out)) hb); clear BK496; clear HB; have BK496 := n0_; have HB := n1_; clear n0_ n1_; (try clear hb); (try clear hb2); (try clear hk); (try clear hi)))
    go_ret
    exact ⟨by first | rfl | (simp [errW_none, errW_some] <;> rfl) | (simp [*, errW_none, errW_some] <;> rfl), by repeat (first | (with_reducible first | exact HB.out | apply below_alloc | apply pw_below_drewN | apply below_drew1 | refine below_set ?_ GE496.out) | exact HB.out)⟩

/-! ### samphirelaw04_awake: function 8 -/
def samphirelaw04_awake.f (k : Nat)  : Option (Bool) := (approx_Float.f k (([1] : List Int)) (([3] : List Int))).bind fun bt506 => ((approx_Exact.f k 4604930618986332160).bind fun bt508 => ((math_NaN.f).bind fun t516 => ((approx_Exact.f k t516).bind fun bt517 => ((approx_Error.f k (([5] : List Int)) (([8] : List Int))).bind fun bt531 => (if (FloatKind.f64.format.order bt506.1 4599676419421066581 == some Ordering.eq) = true then (if bt506.2 = 0 then ((rat_Text.f k bt508.1 bt508.2.1).bind fun t539 => (if t539.toList = ([51, 47, 52] : List UInt8) then (if bt508.2.2 = 0 then (if bt517.2.2 = 1 then ((rat_Text.f k bt531.1 bt531.2.1).bind fun t540 => (if t540.toList = ([48, 47, 49] : List UInt8) then (some (bt531.2.2 == 0)) else (none))) else (none)) else (none)) else (none))) else (none)) else (none))))))
theorem samphirelaw04_awake.mono : ∀ k, LeO (samphirelaw04_awake.f k ) (samphirelaw04_awake.f (k + 1) ) := by
  intro  k
  unfold samphirelaw04_awake.f
  repeat' first
      | (with_reducible exact approx_Error.mono _ _ _)
      | (with_reducible exact approx_Exact.mono _ _)
      | (with_reducible exact approx_Float.mono _ _ _)
      | (with_reducible exact rat_Text.mono _ _ _)
      | (with_reducible exact LeO.refl _)
      | (with_reducible exact LeO.none _)
      | (with_reducible refine LeO.ite ?_ ?_)
      | (with_reducible refine LeO.bind ?_ (fun _ => ?_))
      | exact approx_Error.mono _ _ _
      | exact approx_Exact.mono _ _
      | exact approx_Float.mono _ _ _
      | exact rat_Text.mono _ _ _
      | exact LeO.none _
      | refine LeO.ite ?_ ?_
      | refine LeO.bind ?_ (fun _ => ?_)
set_option maxHeartbeats 8000000 in
set_option maxRecDepth 100000 in
theorem samphirelaw04_awake.calls (k : Nat)  (r : Bool) (w : World) (h : samphirelaw04_awake.f k  = some r) :
    Calls Tryd.prog 8 #[] w fun e w' => e = .returned (.bool r) ∧ Below w.heap.size w w' := by
  have hu25 := Tryd.underlying25
  have HB := Aside0.mk (Below.refl w.heap.size w)
  have H : ((approx_Float.f k (([1] : List Int)) (([3] : List Int))).bind fun bt506 => ((approx_Exact.f k 4604930618986332160).bind fun bt508 => ((math_NaN.f).bind fun t516 => ((approx_Exact.f k t516).bind fun bt517 => ((approx_Error.f k (([5] : List Int)) (([8] : List Int))).bind fun bt531 => (if (FloatKind.f64.format.order bt506.1 4599676419421066581 == some Ordering.eq) = true then (if bt506.2 = 0 then ((rat_Text.f k bt508.1 bt508.2.1).bind fun t539 => (if t539.toList = ([51, 47, 52] : List UInt8) then (if bt508.2.2 = 0 then (if bt517.2.2 = 1 then ((rat_Text.f k bt531.1 bt531.2.1).bind fun t540 => (if t540.toList = ([48, 47, 49] : List UInt8) then (some (bt531.2.2 == 0)) else (none))) else (none)) else (none)) else (none))) else (none)) else (none))))))) = some r := h
  clear h
  obtain ⟨y500, hy500⟩ : ∃ y_ : List Int, y_ = (([1] : List Int)) := ⟨_, rfl⟩
  replace H : ((approx_Float.f k y500 (([3] : List Int))).bind fun bt506 => ((approx_Exact.f k 4604930618986332160).bind fun bt508 => ((math_NaN.f).bind fun t516 => ((approx_Exact.f k t516).bind fun bt517 => ((approx_Error.f k (([5] : List Int)) (([8] : List Int))).bind fun bt531 => (if (FloatKind.f64.format.order bt506.1 4599676419421066581 == some Ordering.eq) = true then (if bt506.2 = 0 then ((rat_Text.f k bt508.1 bt508.2.1).bind fun t539 => (if t539.toList = ([51, 47, 52] : List UInt8) then (if bt508.2.2 = 0 then (if bt517.2.2 = 1 then ((rat_Text.f k bt531.1 bt531.2.1).bind fun t540 => (if t540.toList = ([48, 47, 49] : List UInt8) then (some (bt531.2.2 == 0)) else (none))) else (none)) else (none)) else (none))) else (none)) else (none))))))) = some r := by first | (rw [hy500]; with_reducible exact H) | (have H2_ := (Option.bind_some _ _).symm.trans H; rw [hy500]; with_reducible exact H2_) | (have H2_ := (Option.bind_some _ _).symm.trans H; with_reducible exact H2_) | with_reducible exact H | (rw [hy500]; exact H) | exact H
  have Ny500 := Aside0.mk hy500
  clear hy500
  obtain ⟨y503, hy503⟩ : ∃ y_ : List Int, y_ = (([3] : List Int)) := ⟨_, rfl⟩
  replace H : ((approx_Float.f k y500 y503).bind fun bt506 => ((approx_Exact.f k 4604930618986332160).bind fun bt508 => ((math_NaN.f).bind fun t516 => ((approx_Exact.f k t516).bind fun bt517 => ((approx_Error.f k (([5] : List Int)) (([8] : List Int))).bind fun bt531 => (if (FloatKind.f64.format.order bt506.1 4599676419421066581 == some Ordering.eq) = true then (if bt506.2 = 0 then ((rat_Text.f k bt508.1 bt508.2.1).bind fun t539 => (if t539.toList = ([51, 47, 52] : List UInt8) then (if bt508.2.2 = 0 then (if bt517.2.2 = 1 then ((rat_Text.f k bt531.1 bt531.2.1).bind fun t540 => (if t540.toList = ([48, 47, 49] : List UInt8) then (some (bt531.2.2 == 0)) else (none))) else (none)) else (none)) else (none))) else (none)) else (none))))))) = some r := by first | (rw [hy503]; with_reducible exact H) | (have H2_ := (Option.bind_some _ _).symm.trans H; rw [hy503]; with_reducible exact H2_) | (have H2_ := (Option.bind_some _ _).symm.trans H; with_reducible exact H2_) | with_reducible exact H | (rw [hy503]; exact H) | exact H
  have Ny503 := Aside0.mk hy503
  clear hy503
  replace H := Option.bind_eq_some_iff.mp H
  obtain ⟨⟨t506, t507⟩, A10, H⟩ := H
  replace H : ((approx_Exact.f k 4604930618986332160).bind fun bt508 => ((math_NaN.f).bind fun t516 => ((approx_Exact.f k t516).bind fun bt517 => ((approx_Error.f k (([5] : List Int)) (([8] : List Int))).bind fun bt531 => (if (FloatKind.f64.format.order t506 4599676419421066581 == some Ordering.eq) = true then (if t507 = 0 then ((rat_Text.f k bt508.1 bt508.2.1).bind fun t539 => (if t539.toList = ([51, 47, 52] : List UInt8) then (if bt508.2.2 = 0 then (if bt517.2.2 = 1 then ((rat_Text.f k bt531.1 bt531.2.1).bind fun t540 => (if t540.toList = ([48, 47, 49] : List UInt8) then (some (bt531.2.2 == 0)) else (none))) else (none)) else (none)) else (none))) else (none)) else (none)))))) = some r := H
  have A1 := Aside0.mk A10
  clear A10
  replace H := Option.bind_eq_some_iff.mp H
  obtain ⟨⟨t508, t511, t514⟩, A20, H⟩ := H
  replace H : ((math_NaN.f).bind fun t516 => ((approx_Exact.f k t516).bind fun bt517 => ((approx_Error.f k (([5] : List Int)) (([8] : List Int))).bind fun bt531 => (if (FloatKind.f64.format.order t506 4599676419421066581 == some Ordering.eq) = true then (if t507 = 0 then ((rat_Text.f k t508 t511).bind fun t539 => (if t539.toList = ([51, 47, 52] : List UInt8) then (if t514 = 0 then (if bt517.2.2 = 1 then ((rat_Text.f k bt531.1 bt531.2.1).bind fun t540 => (if t540.toList = ([48, 47, 49] : List UInt8) then (some (bt531.2.2 == 0)) else (none))) else (none)) else (none)) else (none))) else (none)) else (none))))) = some r := H
  have A2 := Aside0.mk A20
  clear A20
  replace H := Option.bind_eq_some_iff.mp H
  obtain ⟨t516, A30, H⟩ := H
  replace H : ((approx_Exact.f k t516).bind fun bt517 => ((approx_Error.f k (([5] : List Int)) (([8] : List Int))).bind fun bt531 => (if (FloatKind.f64.format.order t506 4599676419421066581 == some Ordering.eq) = true then (if t507 = 0 then ((rat_Text.f k t508 t511).bind fun t539 => (if t539.toList = ([51, 47, 52] : List UInt8) then (if t514 = 0 then (if bt517.2.2 = 1 then ((rat_Text.f k bt531.1 bt531.2.1).bind fun t540 => (if t540.toList = ([48, 47, 49] : List UInt8) then (some (bt531.2.2 == 0)) else (none))) else (none)) else (none)) else (none))) else (none)) else (none)))) = some r := H
  have A3 := Aside0.mk A30
  clear A30
  replace H := Option.bind_eq_some_iff.mp H
  obtain ⟨⟨t517, t520, t523⟩, A40, H⟩ := H
  replace H : ((approx_Error.f k (([5] : List Int)) (([8] : List Int))).bind fun bt531 => (if (FloatKind.f64.format.order t506 4599676419421066581 == some Ordering.eq) = true then (if t507 = 0 then ((rat_Text.f k t508 t511).bind fun t539 => (if t539.toList = ([51, 47, 52] : List UInt8) then (if t514 = 0 then (if t523 = 1 then ((rat_Text.f k bt531.1 bt531.2.1).bind fun t540 => (if t540.toList = ([48, 47, 49] : List UInt8) then (some (bt531.2.2 == 0)) else (none))) else (none)) else (none)) else (none))) else (none)) else (none))) = some r := H
  have A4 := Aside0.mk A40
  clear A40
  obtain ⟨y525, hy525⟩ : ∃ y_ : List Int, y_ = (([5] : List Int)) := ⟨_, rfl⟩
  replace H : ((approx_Error.f k y525 (([8] : List Int))).bind fun bt531 => (if (FloatKind.f64.format.order t506 4599676419421066581 == some Ordering.eq) = true then (if t507 = 0 then ((rat_Text.f k t508 t511).bind fun t539 => (if t539.toList = ([51, 47, 52] : List UInt8) then (if t514 = 0 then (if t523 = 1 then ((rat_Text.f k bt531.1 bt531.2.1).bind fun t540 => (if t540.toList = ([48, 47, 49] : List UInt8) then (some (bt531.2.2 == 0)) else (none))) else (none)) else (none)) else (none))) else (none)) else (none))) = some r := by first | (rw [hy525]; with_reducible exact H) | (have H2_ := (Option.bind_some _ _).symm.trans H; rw [hy525]; with_reducible exact H2_) | (have H2_ := (Option.bind_some _ _).symm.trans H; with_reducible exact H2_) | with_reducible exact H | (rw [hy525]; exact H) | exact H
  have Ny525 := Aside0.mk hy525
  clear hy525
  obtain ⟨y528, hy528⟩ : ∃ y_ : List Int, y_ = (([8] : List Int)) := ⟨_, rfl⟩
  replace H : ((approx_Error.f k y525 y528).bind fun bt531 => (if (FloatKind.f64.format.order t506 4599676419421066581 == some Ordering.eq) = true then (if t507 = 0 then ((rat_Text.f k t508 t511).bind fun t539 => (if t539.toList = ([51, 47, 52] : List UInt8) then (if t514 = 0 then (if t523 = 1 then ((rat_Text.f k bt531.1 bt531.2.1).bind fun t540 => (if t540.toList = ([48, 47, 49] : List UInt8) then (some (bt531.2.2 == 0)) else (none))) else (none)) else (none)) else (none))) else (none)) else (none))) = some r := by first | (rw [hy528]; with_reducible exact H) | (have H2_ := (Option.bind_some _ _).symm.trans H; rw [hy528]; with_reducible exact H2_) | (have H2_ := (Option.bind_some _ _).symm.trans H; with_reducible exact H2_) | with_reducible exact H | (rw [hy528]; exact H) | exact H
  have Ny528 := Aside0.mk hy528
  clear hy528
  replace H := Option.bind_eq_some_iff.mp H
  obtain ⟨⟨t531, t534, t537⟩, A50, H⟩ := H
  replace H : (if (FloatKind.f64.format.order t506 4599676419421066581 == some Ordering.eq) = true then (if t507 = 0 then ((rat_Text.f k t508 t511).bind fun t539 => (if t539.toList = ([51, 47, 52] : List UInt8) then (if t514 = 0 then (if t523 = 1 then ((rat_Text.f k t531 t534).bind fun t540 => (if t540.toList = ([48, 47, 49] : List UInt8) then (some (t537 == 0)) else (none))) else (none)) else (none)) else (none))) else (none)) else (none)) = some r := H
  have A5 := Aside0.mk A50
  clear A50
  by_cases c6 : (FloatKind.f64.format.order t506 4599676419421066581 == some Ordering.eq) = true
  · rw [if_pos c6] at H
    have c6b0 : (FloatKind.f64.format.order t506 4599676419421066581 == some Ordering.eq) = true := c6
    (try (have c6b1 : decide (FloatKind.f64.format.order t506 4599676419421066581 = some Ordering.eq) = true := by simpa using c6))
    (try (have c6b2 : (FloatKind.f64.format.order t506 4599676419421066581 == some Ordering.eq) = true := by simpa using c6))
    clear c6
    by_cases c7 : t507 = 0
    · rw [if_pos c7] at H
      have c7b0 : (t507 == 0) = true := beq_iff_eq.mpr c7
      have c7b1 : (t507 != 0) = false := bne_eq_false_iff_eq.mpr c7
      clear c7
      replace H := Option.bind_eq_some_iff.mp H
      obtain ⟨t539, A80, H⟩ := H
      replace H : (if t539.toList = ([51, 47, 52] : List UInt8) then (if t514 = 0 then (if t523 = 1 then ((rat_Text.f k t531 t534).bind fun t540 => (if t540.toList = ([48, 47, 49] : List UInt8) then (some (t537 == 0)) else (none))) else (none)) else (none)) else (none)) = some r := H
      have A8 := Aside0.mk A80
      clear A80
      by_cases c9 : t539.toList = ([51, 47, 52] : List UInt8)
      · rw [if_pos c9] at H
        have c9b0 : (t539.toList == ([51, 47, 52] : List UInt8)) = true := beq_iff_eq.mpr c9
        have c9b1 : (t539.toList != ([51, 47, 52] : List UInt8)) = false := bne_eq_false_iff_eq.mpr c9
        clear c9
        by_cases c10 : t514 = 0
        · rw [if_pos c10] at H
          have c10b0 : (t514 == 0) = true := beq_iff_eq.mpr c10
          have c10b1 : (t514 != 0) = false := bne_eq_false_iff_eq.mpr c10
          clear c10
          by_cases c11 : t523 = 1
          · rw [if_pos c11] at H
            have c11b0 : (t523 == 1) = true := beq_iff_eq.mpr c11
            have c11b1 : (t523 != 1) = false := bne_eq_false_iff_eq.mpr c11
            clear c11
            replace H := Option.bind_eq_some_iff.mp H
            obtain ⟨t540, A120, H⟩ := H
            replace H : (if t540.toList = ([48, 47, 49] : List UInt8) then (some (t537 == 0)) else (none)) = some r := H
            have A12 := Aside0.mk A120
            clear A120
            by_cases c13 : t540.toList = ([48, 47, 49] : List UInt8)
            · rw [if_pos c13] at H
              have c13b0 : (t540.toList == ([48, 47, 49] : List UInt8)) = true := beq_iff_eq.mpr c13
              have c13b1 : (t540.toList != ([48, 47, 49] : List UInt8)) = false := bne_eq_false_iff_eq.mpr c13
              clear c13
              obtain rfl := Option.some.inj H
              go_enter Tryd.func8, Tryd.ntmps8
              go_wp2_with (first | ((with_reducible refine gate_dst (N := 10) rfl ?_); refine Kd.R_lit (Kd.int .u32) _ 47 ?hg (N := 10) ?hd (xs := ([1] : List Int)) (inner := [.int .u32 1]) (ok := fun _ => True) (okp := fun _ => True) ?hr ?hp (fun _ hk => hk) trivial (Below.refl _ _) (Nat.le_refl _) (by simp) ?_; (case hd => rfl); (case hg => rfl); (case hr => first | (go_simp; done) | (go_simp; rfl)); (case hp => exact (Reps.one (show Kd.M (Kd.int .u32) _ _ _ 1 [.int .u32 1] from rfl) (Reps.none _ _))); intro v501 w14 ho15 hb hg_ hnew_; clear hg_ hnew_; (first | rw [← Ny500.out] at ho15 | (simp only [Int.reduceToNat] at ho15; rw [← Ny500.out] at ho15)); have n0_ := Aside0.mk (Kd.R_lower ho15 (below_size (by repeat (first | (with_reducible first | exact HB.out | apply below_alloc | apply pw_below_drewN | apply below_drew1) | exact HB.out)))); have n1_ := Aside0.mk (below_step (by repeat (first | (with_reducible first | exact HB.out | apply below_alloc | apply pw_below_drewN | apply below_drew1) | exact HB.out)) hb); clear HB; have HO502 := n0_; have HB := n1_; clear n0_ n1_; clear hb ho15) | ((with_reducible refine gate_dst (N := 11) rfl ?_); refine Kd.R_lit (Kd.int .u32) _ 47 ?hg (N := 11) ?hd (xs := ([3] : List Int)) (inner := [.int .u32 3]) (ok := fun _ => True) (okp := fun _ => True) ?hr ?hp (fun _ hk => hk) trivial (Below.refl _ _) (Nat.le_refl _) (by simp) ?_; (case hd => rfl); (case hg => rfl); (case hr => first | (go_simp; done) | (go_simp; rfl)); (case hp => exact (Reps.one (show Kd.M (Kd.int .u32) _ _ _ 3 [.int .u32 3] from rfl) (Reps.none _ _))); intro v504 w16 ho17 hb hg_ hnew_; clear hg_ hnew_; (first | rw [← Ny503.out] at ho17 | (simp only [Int.reduceToNat] at ho17; rw [← Ny503.out] at ho17)); have n0_ := Aside0.mk (Kd.R_elder' (by (with_reducible repeat (first | apply Kd.R_alloc | apply Kd.R_drewN | apply Kd.R_drew)); exact HO502.out) (Kd.R_base ho17) hb); have n1_ := Aside0.mk (Kd.R_lower (Kd.R_new' ho17 (Kd.R_lt (by (with_reducible repeat (first | apply Kd.R_alloc | apply Kd.R_drewN | apply Kd.R_drew)); exact HO502.out))) (below_size (by repeat (first | (with_reducible first | exact HB.out | apply below_alloc | apply pw_below_drewN | apply below_drew1) | exact HB.out)))); have n2_ := Aside0.mk (below_step (by repeat (first | (with_reducible first | exact HB.out | apply below_alloc | apply pw_below_drewN | apply below_drew1) | exact HB.out)) hb); clear HO502; clear HB; have HO502 := n0_; have HO505 := n1_; have HB := n2_; clear n0_ n1_ n2_; clear hb ho17; obtain ⟨Ao18, co18, eo18⟩ := Kd.R_slice HO505.out; subst eo18; obtain ⟨Ao19, co19, eo19⟩ := Kd.R_slice HO502.out; subst eo19) | ((with_reducible refine gate_callee (f := 10) rfl ?_); refine goesL_ (some 13) rfl rfl Tryd.func10 (by kernel_rfl) rfl #[.agg #[.slice Ao19 y500.length co19, .slice Ao18 y503.length co18]] rfl (by (try simp only [List.map_toArray, List.map_cons, List.map_nil]); first | done | rfl | (simp only [List.length_drop, List.length_take]; rfl)) ?_; (with_reducible refine (approx_Float.calls k _ _ y500 _ _ y503 t506 t507 _ ?side1 ?side2 ?side3 ?side4 A1.out).mono ?_); (case side1 => repeat (first | exact (Kd.R_reads' HO502.out).2.2 | (with_reducible refine Kd.C_alloc ?_ _) | (with_reducible refine Kd.C_drewN ?_ _) | (with_reducible refine Kd.C_drew ?_))); (case side2 => exact (Kd.R_reads' HO502.out).2.1); (case side3 => repeat (first | exact (Kd.R_reads' HO505.out).2.2 | (with_reducible refine Kd.C_alloc ?_ _) | (with_reducible refine Kd.C_drewN ?_ _) | (with_reducible refine Kd.C_drew ?_))); (case side4 => exact (Kd.R_reads' HO505.out).2.1); rintro e w20 ⟨rfl, hb⟩; refine ⟨_, rfl, ?_⟩; have n0_ := Aside0.mk (Kd.R_below (by (with_reducible repeat (first | apply Kd.R_alloc | apply Kd.R_drewN | apply Kd.R_drew)); exact HO502.out) hb); have n1_ := Aside0.mk (Kd.R_below (by (with_reducible repeat (first | apply Kd.R_alloc | apply Kd.R_drewN | apply Kd.R_drew)); exact HO505.out) hb); have n2_ := Aside0.mk (below_step (by repeat (first | (with_reducible first | exact HB.out | apply below_alloc | apply pw_below_drewN | apply below_drew1) | exact HB.out)) hb); clear HO502; clear HO505; clear HB; have HO502 := n0_; have HO505 := n1_; have HB := n2_; clear n0_ n1_ n2_; (try clear hb); (try clear hb2); (try clear hk); (try clear hi)) | ((with_reducible refine gate_callee (f := 11) rfl ?_); refine goesL_ (some 17) rfl rfl Tryd.func11 (by kernel_rfl) rfl #[.float .f64 4604930618986332160] rfl (by (try simp only [List.map_toArray, List.map_cons, List.map_nil]); first | done | rfl | (simp only [List.length_drop, List.length_take]; rfl)) ?_; (with_reducible refine (approx_Exact.calls k 4604930618986332160 t508 t511 t514 _ A2.out).mono ?_); rintro e w21 ⟨v509, v512, rfl, ho0, ho1, hb⟩; refine ⟨_, rfl, ?_⟩; have n0_ := Aside0.mk (Kd.R_mono (Kd.R_told (Kd.R_told (Kd.R_old (by (with_reducible repeat (first | apply Kd.R_alloc | apply Kd.R_drewN | apply Kd.R_drew)); exact HO502.out) hb) (Kd.R_base ho0)) (Kd.R_base ho1)) (fun _ h_ => h_.1)); have n1_ := Aside0.mk (Kd.R_mono (Kd.R_told (Kd.R_told (Kd.R_old (by (with_reducible repeat (first | apply Kd.R_alloc | apply Kd.R_drewN | apply Kd.R_drew)); exact HO505.out) hb) (Kd.R_base ho0)) (Kd.R_base ho1)) (fun _ h_ => h_.1)); have n2_ := Aside0.mk (Kd.R_lower (Kd.R_new' (Kd.R_new' ho0 (Kd.R_lt (by (with_reducible repeat (first | apply Kd.R_alloc | apply Kd.R_drewN | apply Kd.R_drew)); exact HO502.out))) (Kd.R_lt (by (with_reducible repeat (first | apply Kd.R_alloc | apply Kd.R_drewN | apply Kd.R_drew)); exact HO505.out))) (below_size (by repeat (first | (with_reducible first | exact HB.out | apply below_alloc | apply pw_below_drewN | apply below_drew1) | exact HB.out)))); have n3_ := Aside0.mk (Kd.R_lower (Kd.R_new' (Kd.R_new' ho1 (Kd.R_lt (by (with_reducible repeat (first | apply Kd.R_alloc | apply Kd.R_drewN | apply Kd.R_drew)); exact HO502.out))) (Kd.R_lt (by (with_reducible repeat (first | apply Kd.R_alloc | apply Kd.R_drewN | apply Kd.R_drew)); exact HO505.out))) (below_size (by repeat (first | (with_reducible first | exact HB.out | apply below_alloc | apply pw_below_drewN | apply below_drew1) | exact HB.out)))); have n4_ := Aside0.mk (below_step (by repeat (first | (with_reducible first | exact HB.out | apply below_alloc | apply pw_below_drewN | apply below_drew1) | exact HB.out)) hb); clear HO502; clear HO505; clear HB; have HO502 := n0_; have HO505 := n1_; have HO510 := n2_; have HO513 := n3_; have HB := n4_; clear n0_ n1_ n2_ n3_ n4_; (try clear hb); (try clear hb2); (try clear hk); (try clear hi); (try clear ho0); (try clear ho1)) | ((with_reducible refine gate_dst (N := 3) rfl ?_); refine box_event ?hg (N := 3) ?hd (cs := #[.slice none 0 0, .slice none 0 0]) (t := 25) ?hr ?_; (case hd => rfl); (case hg => rfl); (case hr => first | (go_simp; done) | (go_simp; rfl)); intro gb515 hg w22 hbox hb; have n0_ := Aside0.mk (Kd.R_below (by (with_reducible repeat (first | apply Kd.R_alloc | apply Kd.R_drewN | apply Kd.R_drew)); exact HO502.out) hb); have n1_ := Aside0.mk (Kd.R_below (by (with_reducible repeat (first | apply Kd.R_alloc | apply Kd.R_drewN | apply Kd.R_drew)); exact HO505.out) hb); have n2_ := Aside0.mk (Kd.R_below (by (with_reducible repeat (first | apply Kd.R_alloc | apply Kd.R_drewN | apply Kd.R_drew)); exact HO510.out) hb); have n3_ := Aside0.mk (Kd.R_below (by (with_reducible repeat (first | apply Kd.R_alloc | apply Kd.R_drewN | apply Kd.R_drew)); exact HO513.out) hb); have n4_ := Aside0.mk (below_step (by repeat (first | (with_reducible first | exact HB.out | apply below_alloc | apply pw_below_drewN | apply below_drew1) | exact HB.out)) hb); have n5_ := Aside0.mk (hbox); have n6_ := Aside0.mk ((by rw [hg]; exact (below_size (by repeat (first | (with_reducible first | exact HB.out | apply below_alloc | apply pw_below_drewN | apply below_drew1) | exact HB.out))) : w.heap.size ≤ gb515)); have n7_ := Aside0.mk ((by rw [hg]; exact (below_size (by repeat (first | (with_reducible first | exact HB.out | apply below_alloc | apply pw_below_drewN | apply below_drew1) | exact HB.out))) : w.heap.size ≤ gb515)); clear HO502; clear HO505; clear HO510; clear HO513; clear HB; have HO502 := n0_; have HO505 := n1_; have HO510 := n2_; have HO513 := n3_; have HB := n4_; have BK515 := n5_; have GW515 := n6_; have GE515 := n7_; clear n0_ n1_ n2_ n3_ n4_ n5_ n6_ n7_; clear hb hbox hg; obtain ⟨Ao23, co23, eo23⟩ := Kd.R_slice HO510.out; subst eo23; have hcz24_0 : w22.cell? ⟨gb515, 0, none⟩ = some (.slice none 0 0) := (blk_cell BK515.out 0).trans rfl; have hcz24_1 : w22.cell? ⟨gb515, 1, none⟩ = some (.slice none 0 0) := (blk_cell BK515.out 1).trans rfl; have hfz24_0 := blk_frozen BK515.out 0; have hfz24_1 := blk_frozen BK515.out 1; obtain ⟨Ao25, co25, eo25⟩ := Kd.R_slice HO513.out; subst eo25) | ((with_reducible refine gate_callee (f := 21) rfl ?_); refine goesL_ (some 21) rfl rfl Tryd.func21 (by kernel_rfl) rfl #[] rfl (by (try simp only [List.map_toArray, List.map_cons, List.map_nil]); first | done | rfl | (simp only [List.length_drop, List.length_take]; rfl)) ?_; (with_reducible refine (math_NaN.calls  t516 _ A3.out).mono ?_); rintro e w' ⟨rfl, ⟨nd, rfl⟩⟩; refine ⟨_, rfl, ?_⟩) | ((with_reducible refine gate_callee (f := 11) rfl ?_); refine goesL_ (some 22) rfl rfl Tryd.func11 (by kernel_rfl) rfl #[.float .f64 t516] rfl (by (try simp only [List.map_toArray, List.map_cons, List.map_nil]); first | done | rfl | (simp only [List.length_drop, List.length_take]; rfl)) ?_; (with_reducible refine (approx_Exact.calls k t516 t517 t520 t523 _ A4.out).mono ?_); rintro e w26 ⟨v518, v521, rfl, ho0, ho1, hb⟩; refine ⟨_, rfl, ?_⟩; have n0_ := Aside0.mk (Kd.R_mono (Kd.R_told (Kd.R_told (Kd.R_old (by (with_reducible repeat (first | apply Kd.R_alloc | apply Kd.R_drewN | apply Kd.R_drew)); exact (Kd.R_mono (Kd.R_far (p := ⟨gb515, 1, none⟩) (Kd.R_far (p := ⟨gb515, 0, none⟩) (Kd.R_types HO502.out BK515.out (by decide)) (fun _ hk => hk.2) (.slice Ao23 t508.length co23)) (fun _ hk => hk.2) (.slice Ao25 t511.length co25)) (fun _ h_ => h_.1))) hb) (Kd.R_base ho0)) (Kd.R_base ho1)) (fun _ h_ => h_.1)); have n1_ := Aside0.mk (Kd.R_mono (Kd.R_told (Kd.R_told (Kd.R_old (by (with_reducible repeat (first | apply Kd.R_alloc | apply Kd.R_drewN | apply Kd.R_drew)); exact (Kd.R_mono (Kd.R_far (p := ⟨gb515, 1, none⟩) (Kd.R_far (p := ⟨gb515, 0, none⟩) (Kd.R_types HO505.out BK515.out (by decide)) (fun _ hk => hk.2) (.slice Ao23 t508.length co23)) (fun _ hk => hk.2) (.slice Ao25 t511.length co25)) (fun _ h_ => h_.1))) hb) (Kd.R_base ho0)) (Kd.R_base ho1)) (fun _ h_ => h_.1)); have n2_ := Aside0.mk (Kd.R_mono (Kd.R_told (Kd.R_told (Kd.R_old (by (with_reducible repeat (first | apply Kd.R_alloc | apply Kd.R_drewN | apply Kd.R_drew)); exact (Kd.R_mono (Kd.R_far (p := ⟨gb515, 1, none⟩) (Kd.R_far (p := ⟨gb515, 0, none⟩) (Kd.R_types HO510.out BK515.out (by decide)) (fun _ hk => hk.2) (.slice Ao23 t508.length co23)) (fun _ hk => hk.2) (.slice Ao25 t511.length co25)) (fun _ h_ => h_.1))) hb) (Kd.R_base ho0)) (Kd.R_base ho1)) (fun _ h_ => h_.1)); have n3_ := Aside0.mk (Kd.R_mono (Kd.R_told (Kd.R_told (Kd.R_old (by (with_reducible repeat (first | apply Kd.R_alloc | apply Kd.R_drewN | apply Kd.R_drew)); exact (Kd.R_mono (Kd.R_far (p := ⟨gb515, 1, none⟩) (Kd.R_far (p := ⟨gb515, 0, none⟩) (Kd.R_types HO513.out BK515.out (by decide)) (fun _ hk => hk.2) (.slice Ao23 t508.length co23)) (fun _ hk => hk.2) (.slice Ao25 t511.length co25)) (fun _ h_ => h_.1))) hb) (Kd.R_base ho0)) (Kd.R_base ho1)) (fun _ h_ => h_.1)); have n4_ := Aside0.mk (Kd.R_lower (Kd.R_new' (Kd.R_new' (Kd.R_new' (Kd.R_new' ho0 (Kd.R_lt (by (with_reducible repeat (first | apply Kd.R_alloc | apply Kd.R_drewN | apply Kd.R_drew)); exact (Kd.R_mono (Kd.R_far (p := ⟨gb515, 1, none⟩) (Kd.R_far (p := ⟨gb515, 0, none⟩) (Kd.R_types HO502.out BK515.out (by decide)) (fun _ hk => hk.2) (.slice Ao23 t508.length co23)) (fun _ hk => hk.2) (.slice Ao25 t511.length co25)) (fun _ h_ => h_.1))))) (Kd.R_lt (by (with_reducible repeat (first | apply Kd.R_alloc | apply Kd.R_drewN | apply Kd.R_drew)); exact (Kd.R_mono (Kd.R_far (p := ⟨gb515, 1, none⟩) (Kd.R_far (p := ⟨gb515, 0, none⟩) (Kd.R_types HO505.out BK515.out (by decide)) (fun _ hk => hk.2) (.slice Ao23 t508.length co23)) (fun _ hk => hk.2) (.slice Ao25 t511.length co25)) (fun _ h_ => h_.1))))) (Kd.R_lt (by (with_reducible repeat (first | apply Kd.R_alloc | apply Kd.R_drewN | apply Kd.R_drew)); exact (Kd.R_mono (Kd.R_far (p := ⟨gb515, 1, none⟩) (Kd.R_far (p := ⟨gb515, 0, none⟩) (Kd.R_types HO510.out BK515.out (by decide)) (fun _ hk => hk.2) (.slice Ao23 t508.length co23)) (fun _ hk => hk.2) (.slice Ao25 t511.length co25)) (fun _ h_ => h_.1))))) (Kd.R_lt (by (with_reducible repeat (first | apply Kd.R_alloc | apply Kd.R_drewN | apply Kd.R_drew)); exact (Kd.R_mono (Kd.R_far (p := ⟨gb515, 1, none⟩) (Kd.R_far (p := ⟨gb515, 0, none⟩) (Kd.R_types HO513.out BK515.out (by decide)) (fun _ hk => hk.2) (.slice Ao23 t508.length co23)) (fun _ hk => hk.2) (.slice Ao25 t511.length co25)) (fun _ h_ => h_.1))))) (below_size (by repeat (first | (with_reducible first | exact HB.out | apply below_alloc | apply pw_below_drewN | apply below_drew1 | refine below_set ?_ GE515.out) | exact HB.out)))); have n5_ := Aside0.mk (Kd.R_lower (Kd.R_new' (Kd.R_new' (Kd.R_new' (Kd.R_new' ho1 (Kd.R_lt (by (with_reducible repeat (first | apply Kd.R_alloc | apply Kd.R_drewN | apply Kd.R_drew)); exact (Kd.R_mono (Kd.R_far (p := ⟨gb515, 1, none⟩) (Kd.R_far (p := ⟨gb515, 0, none⟩) (Kd.R_types HO502.out BK515.out (by decide)) (fun _ hk => hk.2) (.slice Ao23 t508.length co23)) (fun _ hk => hk.2) (.slice Ao25 t511.length co25)) (fun _ h_ => h_.1))))) (Kd.R_lt (by (with_reducible repeat (first | apply Kd.R_alloc | apply Kd.R_drewN | apply Kd.R_drew)); exact (Kd.R_mono (Kd.R_far (p := ⟨gb515, 1, none⟩) (Kd.R_far (p := ⟨gb515, 0, none⟩) (Kd.R_types HO505.out BK515.out (by decide)) (fun _ hk => hk.2) (.slice Ao23 t508.length co23)) (fun _ hk => hk.2) (.slice Ao25 t511.length co25)) (fun _ h_ => h_.1))))) (Kd.R_lt (by (with_reducible repeat (first | apply Kd.R_alloc | apply Kd.R_drewN | apply Kd.R_drew)); exact (Kd.R_mono (Kd.R_far (p := ⟨gb515, 1, none⟩) (Kd.R_far (p := ⟨gb515, 0, none⟩) (Kd.R_types HO510.out BK515.out (by decide)) (fun _ hk => hk.2) (.slice Ao23 t508.length co23)) (fun _ hk => hk.2) (.slice Ao25 t511.length co25)) (fun _ h_ => h_.1))))) (Kd.R_lt (by (with_reducible repeat (first | apply Kd.R_alloc | apply Kd.R_drewN | apply Kd.R_drew)); exact (Kd.R_mono (Kd.R_far (p := ⟨gb515, 1, none⟩) (Kd.R_far (p := ⟨gb515, 0, none⟩) (Kd.R_types HO513.out BK515.out (by decide)) (fun _ hk => hk.2) (.slice Ao23 t508.length co23)) (fun _ hk => hk.2) (.slice Ao25 t511.length co25)) (fun _ h_ => h_.1))))) (below_size (by repeat (first | (with_reducible first | exact HB.out | apply below_alloc | apply pw_below_drewN | apply below_drew1 | refine below_set ?_ GE515.out) | exact HB.out)))); have n6_ := Aside0.mk (blk_below (g := gb515) (o := .cells #[.slice Ao23 t508.length co23, .slice Ao25 t511.length co25] 25 (0, 0)) (by (with_reducible repeat (first | refine blk_drewN ?_ _ | refine blk_drew ?_ | refine blk_alloc ?_ _)); refine blk_put (cs := #[.slice Ao23 t508.length co23, .slice none 0 0]) ?_ 1 _ rfl; (with_reducible repeat (first | refine blk_drewN ?_ _ | refine blk_drew ?_ | refine blk_alloc ?_ _)); refine blk_put (cs := #[.slice none 0 0, .slice none 0 0]) ?_ 0 _ rfl; (with_reducible repeat (first | refine blk_drewN ?_ _ | refine blk_drew ?_ | refine blk_alloc ?_ _)); exact BK515.out) hb); have n7_ := Aside0.mk (below_step (by repeat (first | (with_reducible first | exact HB.out | apply below_alloc | apply pw_below_drewN | apply below_drew1 | refine below_set ?_ GE515.out) | exact HB.out)) hb); clear HO502; clear HO505; clear HO510; clear HO513; clear BK515; clear HB; have HO502 := n0_; have HO505 := n1_; have HO510 := n2_; have HO513 := n3_; have HO519 := n4_; have HO522 := n5_; have BK515 := n6_; have HB := n7_; clear n0_ n1_ n2_ n3_ n4_ n5_ n6_ n7_; (try clear hb); (try clear hb2); (try clear hk); (try clear hi); (try clear ho0); (try clear ho1)) | ((with_reducible refine gate_dst (N := 5) rfl ?_); refine box_event ?hg (N := 5) ?hd (cs := #[.slice none 0 0, .slice none 0 0]) (t := 25) ?hr ?_; (case hd => rfl); (case hg => rfl); (case hr => first | (go_simp; done) | (go_simp; rfl)); intro gb524 hg w27 hbox hb; have n0_ := Aside0.mk (Kd.R_below (by (with_reducible repeat (first | apply Kd.R_alloc | apply Kd.R_drewN | apply Kd.R_drew)); exact HO502.out) hb); have n1_ := Aside0.mk (Kd.R_below (by (with_reducible repeat (first | apply Kd.R_alloc | apply Kd.R_drewN | apply Kd.R_drew)); exact HO505.out) hb); have n2_ := Aside0.mk (Kd.R_below (by (with_reducible repeat (first | apply Kd.R_alloc | apply Kd.R_drewN | apply Kd.R_drew)); exact HO510.out) hb); have n3_ := Aside0.mk (Kd.R_below (by (with_reducible repeat (first | apply Kd.R_alloc | apply Kd.R_drewN | apply Kd.R_drew)); exact HO513.out) hb); have n4_ := Aside0.mk (Kd.R_below (by (with_reducible repeat (first | apply Kd.R_alloc | apply Kd.R_drewN | apply Kd.R_drew)); exact HO519.out) hb); have n5_ := Aside0.mk (Kd.R_below (by (with_reducible repeat (first | apply Kd.R_alloc | apply Kd.R_drewN | apply Kd.R_drew)); exact HO522.out) hb); have n6_ := Aside0.mk (blk_below (g := gb515) (o := .cells #[.slice Ao23 t508.length co23, .slice Ao25 t511.length co25] 25 (0, 0)) (by (with_reducible repeat (first | refine blk_drewN ?_ _ | refine blk_drew ?_ | refine blk_alloc ?_ _)); exact BK515.out) hb); have n7_ := Aside0.mk (below_step (by repeat (first | (with_reducible first | exact HB.out | apply below_alloc | apply pw_below_drewN | apply below_drew1 | refine below_set ?_ GE515.out) | exact HB.out)) hb); have n8_ := Aside0.mk (hbox); have n9_ := Aside0.mk ((by rw [hg]; exact (below_size (by repeat (first | (with_reducible first | exact HB.out | apply below_alloc | apply pw_below_drewN | apply below_drew1 | refine below_set ?_ GE515.out) | exact HB.out))) : w.heap.size ≤ gb524)); have n10_ := Aside0.mk ((by rw [hg]; exact (below_size (by repeat (first | (with_reducible first | exact HB.out | apply below_alloc | apply pw_below_drewN | apply below_drew1 | refine below_set ?_ GE515.out) | exact HB.out))) : w.heap.size ≤ gb524)); have n11_ := Aside0.mk ((by rw [hg]; exact Nat.ne_of_lt (blk_lt (g := gb515) (o := .cells #[.slice Ao23 t508.length co23, .slice Ao25 t511.length co25] 25 (0, 0)) (by (with_reducible repeat (first | refine blk_drewN ?_ _ | refine blk_drew ?_ | refine blk_alloc ?_ _)); exact BK515.out)) : gb515 ≠ gb524)); have n12_ := Aside0.mk ((by rw [hg]; exact Nat.ne_of_gt (blk_lt (g := gb515) (o := .cells #[.slice Ao23 t508.length co23, .slice Ao25 t511.length co25] 25 (0, 0)) (by (with_reducible repeat (first | refine blk_drewN ?_ _ | refine blk_drew ?_ | refine blk_alloc ?_ _)); exact BK515.out)) : gb524 ≠ gb515)); clear HO502; clear HO505; clear HO510; clear HO513; clear HO519; clear HO522; clear BK515; clear HB; have HO502 := n0_; have HO505 := n1_; have HO510 := n2_; have HO513 := n3_; have HO519 := n4_; have HO522 := n5_; have BK515 := n6_; have HB := n7_; have BK524 := n8_; have GW524 := n9_; have GE524 := n10_; have NB515_524 := n11_; have NB524_515 := n12_; clear n0_ n1_ n2_ n3_ n4_ n5_ n6_ n7_ n8_ n9_ n10_ n11_ n12_; clear hb hbox hg; obtain ⟨Ao28, co28, eo28⟩ := Kd.R_slice HO519.out; subst eo28; have hnb29 := NB524_515.out; have hnc29 := NB515_524.out; have hcz30_0 : w27.cell? ⟨gb524, 0, none⟩ = some (.slice none 0 0) := (blk_cell BK524.out 0).trans rfl; have hcz30_1 : w27.cell? ⟨gb524, 1, none⟩ = some (.slice none 0 0) := (blk_cell BK524.out 1).trans rfl; have hfz30_0 := blk_frozen BK524.out 0; have hfz30_1 := blk_frozen BK524.out 1; obtain ⟨Ao31, co31, eo31⟩ := Kd.R_slice HO522.out; subst eo31) | ((with_reducible refine gate_dst (N := 26) rfl ?_); refine Kd.R_lit (Kd.int .u32) _ 47 ?hg (N := 26) ?hd (xs := ([5] : List Int)) (inner := [.int .u32 5]) (ok := fun _ => True) (okp := fun _ => True) ?hr ?hp (fun _ hk => hk) trivial (Below.refl _ _) (Nat.le_refl _) (by simp) ?_; (case hd => rfl); (case hg => rfl); (case hr => first | (go_simp; done) | (go_simp; rfl)); (case hp => exact (Reps.one (show Kd.M (Kd.int .u32) _ _ _ 5 [.int .u32 5] from rfl) (Reps.none _ _))); intro v526 w32 ho33 hb hg_ hnew_; clear hg_ hnew_; (first | rw [← Ny525.out] at ho33 | (simp only [Int.reduceToNat] at ho33; rw [← Ny525.out] at ho33)); have n0_ := Aside0.mk (Kd.R_elder' (by (with_reducible repeat (first | apply Kd.R_alloc | apply Kd.R_drewN | apply Kd.R_drew)); exact (Kd.R_mono (Kd.R_far (p := ⟨gb524, 1, none⟩) (Kd.R_far (p := ⟨gb524, 0, none⟩) (Kd.R_types HO502.out BK524.out (by decide)) (fun _ hk => hk.2) (.slice Ao28 t517.length co28)) (fun _ hk => hk.2) (.slice Ao31 t520.length co31)) (fun _ h_ => h_.1))) (Kd.R_base ho33) hb); have n1_ := Aside0.mk (Kd.R_elder' (by (with_reducible repeat (first | apply Kd.R_alloc | apply Kd.R_drewN | apply Kd.R_drew)); exact (Kd.R_mono (Kd.R_far (p := ⟨gb524, 1, none⟩) (Kd.R_far (p := ⟨gb524, 0, none⟩) (Kd.R_types HO505.out BK524.out (by decide)) (fun _ hk => hk.2) (.slice Ao28 t517.length co28)) (fun _ hk => hk.2) (.slice Ao31 t520.length co31)) (fun _ h_ => h_.1))) (Kd.R_base ho33) hb); have n2_ := Aside0.mk (Kd.R_elder' (by (with_reducible repeat (first | apply Kd.R_alloc | apply Kd.R_drewN | apply Kd.R_drew)); exact (Kd.R_mono (Kd.R_far (p := ⟨gb524, 1, none⟩) (Kd.R_far (p := ⟨gb524, 0, none⟩) (Kd.R_types HO510.out BK524.out (by decide)) (fun _ hk => hk.2) (.slice Ao28 t517.length co28)) (fun _ hk => hk.2) (.slice Ao31 t520.length co31)) (fun _ h_ => h_.1))) (Kd.R_base ho33) hb); have n3_ := Aside0.mk (Kd.R_elder' (by (with_reducible repeat (first | apply Kd.R_alloc | apply Kd.R_drewN | apply Kd.R_drew)); exact (Kd.R_mono (Kd.R_far (p := ⟨gb524, 1, none⟩) (Kd.R_far (p := ⟨gb524, 0, none⟩) (Kd.R_types HO513.out BK524.out (by decide)) (fun _ hk => hk.2) (.slice Ao28 t517.length co28)) (fun _ hk => hk.2) (.slice Ao31 t520.length co31)) (fun _ h_ => h_.1))) (Kd.R_base ho33) hb); have n4_ := Aside0.mk (Kd.R_elder' (by (with_reducible repeat (first | apply Kd.R_alloc | apply Kd.R_drewN | apply Kd.R_drew)); exact (Kd.R_mono (Kd.R_far (p := ⟨gb524, 1, none⟩) (Kd.R_far (p := ⟨gb524, 0, none⟩) (Kd.R_types HO519.out BK524.out (by decide)) (fun _ hk => hk.2) (.slice Ao28 t517.length co28)) (fun _ hk => hk.2) (.slice Ao31 t520.length co31)) (fun _ h_ => h_.1))) (Kd.R_base ho33) hb); have n5_ := Aside0.mk (Kd.R_elder' (by (with_reducible repeat (first | apply Kd.R_alloc | apply Kd.R_drewN | apply Kd.R_drew)); exact (Kd.R_mono (Kd.R_far (p := ⟨gb524, 1, none⟩) (Kd.R_far (p := ⟨gb524, 0, none⟩) (Kd.R_types HO522.out BK524.out (by decide)) (fun _ hk => hk.2) (.slice Ao28 t517.length co28)) (fun _ hk => hk.2) (.slice Ao31 t520.length co31)) (fun _ h_ => h_.1))) (Kd.R_base ho33) hb); have n6_ := Aside0.mk (Kd.R_lower (Kd.R_new' (Kd.R_new' (Kd.R_new' (Kd.R_new' (Kd.R_new' (Kd.R_new' ho33 (Kd.R_lt (by (with_reducible repeat (first | apply Kd.R_alloc | apply Kd.R_drewN | apply Kd.R_drew)); exact (Kd.R_mono (Kd.R_far (p := ⟨gb524, 1, none⟩) (Kd.R_far (p := ⟨gb524, 0, none⟩) (Kd.R_types HO502.out BK524.out (by decide)) (fun _ hk => hk.2) (.slice Ao28 t517.length co28)) (fun _ hk => hk.2) (.slice Ao31 t520.length co31)) (fun _ h_ => h_.1))))) (Kd.R_lt (by (with_reducible repeat (first | apply Kd.R_alloc | apply Kd.R_drewN | apply Kd.R_drew)); exact (Kd.R_mono (Kd.R_far (p := ⟨gb524, 1, none⟩) (Kd.R_far (p := ⟨gb524, 0, none⟩) (Kd.R_types HO505.out BK524.out (by decide)) (fun _ hk => hk.2) (.slice Ao28 t517.length co28)) (fun _ hk => hk.2) (.slice Ao31 t520.length co31)) (fun _ h_ => h_.1))))) (Kd.R_lt (by (with_reducible repeat (first | apply Kd.R_alloc | apply Kd.R_drewN | apply Kd.R_drew)); exact (Kd.R_mono (Kd.R_far (p := ⟨gb524, 1, none⟩) (Kd.R_far (p := ⟨gb524, 0, none⟩) (Kd.R_types HO510.out BK524.out (by decide)) (fun _ hk => hk.2) (.slice Ao28 t517.length co28)) (fun _ hk => hk.2) (.slice Ao31 t520.length co31)) (fun _ h_ => h_.1))))) (Kd.R_lt (by (with_reducible repeat (first | apply Kd.R_alloc | apply Kd.R_drewN | apply Kd.R_drew)); exact (Kd.R_mono (Kd.R_far (p := ⟨gb524, 1, none⟩) (Kd.R_far (p := ⟨gb524, 0, none⟩) (Kd.R_types HO513.out BK524.out (by decide)) (fun _ hk => hk.2) (.slice Ao28 t517.length co28)) (fun _ hk => hk.2) (.slice Ao31 t520.length co31)) (fun _ h_ => h_.1))))) (Kd.R_lt (by (with_reducible repeat (first | apply Kd.R_alloc | apply Kd.R_drewN | apply Kd.R_drew)); exact (Kd.R_mono (Kd.R_far (p := ⟨gb524, 1, none⟩) (Kd.R_far (p := ⟨gb524, 0, none⟩) (Kd.R_types HO519.out BK524.out (by decide)) (fun _ hk => hk.2) (.slice Ao28 t517.length co28)) (fun _ hk => hk.2) (.slice Ao31 t520.length co31)) (fun _ h_ => h_.1))))) (Kd.R_lt (by (with_reducible repeat (first | apply Kd.R_alloc | apply Kd.R_drewN | apply Kd.R_drew)); exact (Kd.R_mono (Kd.R_far (p := ⟨gb524, 1, none⟩) (Kd.R_far (p := ⟨gb524, 0, none⟩) (Kd.R_types HO522.out BK524.out (by decide)) (fun _ hk => hk.2) (.slice Ao28 t517.length co28)) (fun _ hk => hk.2) (.slice Ao31 t520.length co31)) (fun _ h_ => h_.1))))) (below_size (by repeat (first | (with_reducible first | exact HB.out | apply below_alloc | apply pw_below_drewN | apply below_drew1 | refine below_set ?_ GE515.out | refine below_set ?_ GE524.out) | exact HB.out)))); have n7_ := Aside0.mk (blk_below (g := gb515) (o := .cells #[.slice Ao23 t508.length co23, .slice Ao25 t511.length co25] 25 (0, 0)) (by (with_reducible repeat (first | refine blk_drewN ?_ _ | refine blk_drew ?_ | refine blk_alloc ?_ _)); refine blk_far ?_ NB515_524.out _; (with_reducible repeat (first | refine blk_drewN ?_ _ | refine blk_drew ?_ | refine blk_alloc ?_ _)); refine blk_far ?_ NB515_524.out _; (with_reducible repeat (first | refine blk_drewN ?_ _ | refine blk_drew ?_ | refine blk_alloc ?_ _)); exact BK515.out) hb); have n8_ := Aside0.mk (blk_below (g := gb524) (o := .cells #[.slice Ao28 t517.length co28, .slice Ao31 t520.length co31] 25 (0, 0)) (by (with_reducible repeat (first | refine blk_drewN ?_ _ | refine blk_drew ?_ | refine blk_alloc ?_ _)); refine blk_put (cs := #[.slice Ao28 t517.length co28, .slice none 0 0]) ?_ 1 _ rfl; (with_reducible repeat (first | refine blk_drewN ?_ _ | refine blk_drew ?_ | refine blk_alloc ?_ _)); refine blk_put (cs := #[.slice none 0 0, .slice none 0 0]) ?_ 0 _ rfl; (with_reducible repeat (first | refine blk_drewN ?_ _ | refine blk_drew ?_ | refine blk_alloc ?_ _)); exact BK524.out) hb); have n9_ := Aside0.mk (below_step (by repeat (first | (with_reducible first | exact HB.out | apply below_alloc | apply pw_below_drewN | apply below_drew1 | refine below_set ?_ GE515.out | refine below_set ?_ GE524.out) | exact HB.out)) hb); clear HO502; clear HO505; clear HO510; clear HO513; clear HO519; clear HO522; clear BK515; clear BK524; clear HB; have HO502 := n0_; have HO505 := n1_; have HO510 := n2_; have HO513 := n3_; have HO519 := n4_; have HO522 := n5_; have HO527 := n6_; have BK515 := n7_; have BK524 := n8_; have HB := n9_; clear n0_ n1_ n2_ n3_ n4_ n5_ n6_ n7_ n8_ n9_; clear hb ho33) | ((with_reducible refine gate_dst (N := 27) rfl ?_); refine Kd.R_lit (Kd.int .u32) _ 47 ?hg (N := 27) ?hd (xs := ([8] : List Int)) (inner := [.int .u32 8]) (ok := fun _ => True) (okp := fun _ => True) ?hr ?hp (fun _ hk => hk) trivial (Below.refl _ _) (Nat.le_refl _) (by simp) ?_; (case hd => rfl); (case hg => rfl); (case hr => first | (go_simp; done) | (go_simp; rfl)); (case hp => exact (Reps.one (show Kd.M (Kd.int .u32) _ _ _ 8 [.int .u32 8] from rfl) (Reps.none _ _))); intro v529 w34 ho35 hb hg_ hnew_; clear hg_ hnew_; (first | rw [← Ny528.out] at ho35 | (simp only [Int.reduceToNat] at ho35; rw [← Ny528.out] at ho35)); have n0_ := Aside0.mk (Kd.R_elder' (by (with_reducible repeat (first | apply Kd.R_alloc | apply Kd.R_drewN | apply Kd.R_drew)); exact HO502.out) (Kd.R_base ho35) hb); have n1_ := Aside0.mk (Kd.R_elder' (by (with_reducible repeat (first | apply Kd.R_alloc | apply Kd.R_drewN | apply Kd.R_drew)); exact HO505.out) (Kd.R_base ho35) hb); have n2_ := Aside0.mk (Kd.R_elder' (by (with_reducible repeat (first | apply Kd.R_alloc | apply Kd.R_drewN | apply Kd.R_drew)); exact HO510.out) (Kd.R_base ho35) hb); have n3_ := Aside0.mk (Kd.R_elder' (by (with_reducible repeat (first | apply Kd.R_alloc | apply Kd.R_drewN | apply Kd.R_drew)); exact HO513.out) (Kd.R_base ho35) hb); have n4_ := Aside0.mk (Kd.R_elder' (by (with_reducible repeat (first | apply Kd.R_alloc | apply Kd.R_drewN | apply Kd.R_drew)); exact HO519.out) (Kd.R_base ho35) hb); have n5_ := Aside0.mk (Kd.R_elder' (by (with_reducible repeat (first | apply Kd.R_alloc | apply Kd.R_drewN | apply Kd.R_drew)); exact HO522.out) (Kd.R_base ho35) hb); have n6_ := Aside0.mk (Kd.R_elder' (by (with_reducible repeat (first | apply Kd.R_alloc | apply Kd.R_drewN | apply Kd.R_drew)); exact HO527.out) (Kd.R_base ho35) hb); have n7_ := Aside0.mk (Kd.R_lower (Kd.R_new' (Kd.R_new' (Kd.R_new' (Kd.R_new' (Kd.R_new' (Kd.R_new' (Kd.R_new' ho35 (Kd.R_lt (by (with_reducible repeat (first | apply Kd.R_alloc | apply Kd.R_drewN | apply Kd.R_drew)); exact HO502.out))) (Kd.R_lt (by (with_reducible repeat (first | apply Kd.R_alloc | apply Kd.R_drewN | apply Kd.R_drew)); exact HO505.out))) (Kd.R_lt (by (with_reducible repeat (first | apply Kd.R_alloc | apply Kd.R_drewN | apply Kd.R_drew)); exact HO510.out))) (Kd.R_lt (by (with_reducible repeat (first | apply Kd.R_alloc | apply Kd.R_drewN | apply Kd.R_drew)); exact HO513.out))) (Kd.R_lt (by (with_reducible repeat (first | apply Kd.R_alloc | apply Kd.R_drewN | apply Kd.R_drew)); exact HO519.out))) (Kd.R_lt (by (with_reducible repeat (first | apply Kd.R_alloc | apply Kd.R_drewN | apply Kd.R_drew)); exact HO522.out))) (Kd.R_lt (by (with_reducible repeat (first | apply Kd.R_alloc | apply Kd.R_drewN | apply Kd.R_drew)); exact HO527.out))) (below_size (by repeat (first | (with_reducible first | exact HB.out | apply below_alloc | apply pw_below_drewN | apply below_drew1 | refine below_set ?_ GE515.out | refine below_set ?_ GE524.out) | exact HB.out)))); have n8_ := Aside0.mk (blk_below (g := gb515) (o := .cells #[.slice Ao23 t508.length co23, .slice Ao25 t511.length co25] 25 (0, 0)) (by (with_reducible repeat (first | refine blk_drewN ?_ _ | refine blk_drew ?_ | refine blk_alloc ?_ _)); exact BK515.out) hb); have n9_ := Aside0.mk (blk_below (g := gb524) (o := .cells #[.slice Ao28 t517.length co28, .slice Ao31 t520.length co31] 25 (0, 0)) (by (with_reducible repeat (first | refine blk_drewN ?_ _ | refine blk_drew ?_ | refine blk_alloc ?_ _)); exact BK524.out) hb); have n10_ := Aside0.mk (below_step (by repeat (first | (with_reducible first | exact HB.out | apply below_alloc | apply pw_below_drewN | apply below_drew1 | refine below_set ?_ GE515.out | refine below_set ?_ GE524.out) | exact HB.out)) hb); clear HO502; clear HO505; clear HO510; clear HO513; clear HO519; clear HO522; clear HO527; clear BK515; clear BK524; clear HB; have HO502 := n0_; have HO505 := n1_; have HO510 := n2_; have HO513 := n3_; have HO519 := n4_; have HO522 := n5_; have HO527 := n6_; have HO530 := n7_; have BK515 := n8_; have BK524 := n9_; have HB := n10_; clear n0_ n1_ n2_ n3_ n4_ n5_ n6_ n7_ n8_ n9_ n10_; clear hb ho35; obtain ⟨Ao36, co36, eo36⟩ := Kd.R_slice HO530.out; subst eo36; obtain ⟨Ao37, co37, eo37⟩ := Kd.R_slice HO527.out; subst eo37) | ((with_reducible refine gate_callee (f := 12) rfl ?_); refine goesL_ (some 29) rfl rfl Tryd.func12 (by kernel_rfl) rfl #[.agg #[.slice Ao37 y525.length co37, .slice Ao36 y528.length co36]] rfl (by (try simp only [List.map_toArray, List.map_cons, List.map_nil]); first | done | rfl | (simp only [List.length_drop, List.length_take]; rfl)) ?_; (with_reducible refine (approx_Error.calls k _ _ y525 _ _ y528 t531 t534 t537 _ ?side1 ?side2 ?side3 ?side4 A5.out).mono ?_); (case side1 => repeat (first | exact (Kd.R_reads' HO527.out).2.2 | (with_reducible refine Kd.C_alloc ?_ _) | (with_reducible refine Kd.C_drewN ?_ _) | (with_reducible refine Kd.C_drew ?_))); (case side2 => exact (Kd.R_reads' HO527.out).2.1); (case side3 => repeat (first | exact (Kd.R_reads' HO530.out).2.2 | (with_reducible refine Kd.C_alloc ?_ _) | (with_reducible refine Kd.C_drewN ?_ _) | (with_reducible refine Kd.C_drew ?_))); (case side4 => exact (Kd.R_reads' HO530.out).2.1); rintro e w38 ⟨v532, v535, rfl, ho0, ho1, hb⟩; refine ⟨_, rfl, ?_⟩; have n0_ := Aside0.mk (Kd.R_mono (Kd.R_told (Kd.R_told (Kd.R_old (by (with_reducible repeat (first | apply Kd.R_alloc | apply Kd.R_drewN | apply Kd.R_drew)); exact HO502.out) hb) (Kd.R_base ho0)) (Kd.R_base ho1)) (fun _ h_ => h_.1)); have n1_ := Aside0.mk (Kd.R_mono (Kd.R_told (Kd.R_told (Kd.R_old (by (with_reducible repeat (first | apply Kd.R_alloc | apply Kd.R_drewN | apply Kd.R_drew)); exact HO505.out) hb) (Kd.R_base ho0)) (Kd.R_base ho1)) (fun _ h_ => h_.1)); have n2_ := Aside0.mk (Kd.R_mono (Kd.R_told (Kd.R_told (Kd.R_old (by (with_reducible repeat (first | apply Kd.R_alloc | apply Kd.R_drewN | apply Kd.R_drew)); exact HO510.out) hb) (Kd.R_base ho0)) (Kd.R_base ho1)) (fun _ h_ => h_.1)); have n3_ := Aside0.mk (Kd.R_mono (Kd.R_told (Kd.R_told (Kd.R_old (by (with_reducible repeat (first | apply Kd.R_alloc | apply Kd.R_drewN | apply Kd.R_drew)); exact HO513.out) hb) (Kd.R_base ho0)) (Kd.R_base ho1)) (fun _ h_ => h_.1)); have n4_ := Aside0.mk (Kd.R_mono (Kd.R_told (Kd.R_told (Kd.R_old (by (with_reducible repeat (first | apply Kd.R_alloc | apply Kd.R_drewN | apply Kd.R_drew)); exact HO519.out) hb) (Kd.R_base ho0)) (Kd.R_base ho1)) (fun _ h_ => h_.1)); have n5_ := Aside0.mk (Kd.R_mono (Kd.R_told (Kd.R_told (Kd.R_old (by (with_reducible repeat (first | apply Kd.R_alloc | apply Kd.R_drewN | apply Kd.R_drew)); exact HO522.out) hb) (Kd.R_base ho0)) (Kd.R_base ho1)) (fun _ h_ => h_.1)); have n6_ := Aside0.mk (Kd.R_mono (Kd.R_told (Kd.R_told (Kd.R_old (by (with_reducible repeat (first | apply Kd.R_alloc | apply Kd.R_drewN | apply Kd.R_drew)); exact HO527.out) hb) (Kd.R_base ho0)) (Kd.R_base ho1)) (fun _ h_ => h_.1)); have n7_ := Aside0.mk (Kd.R_mono (Kd.R_told (Kd.R_told (Kd.R_old (by (with_reducible repeat (first | apply Kd.R_alloc | apply Kd.R_drewN | apply Kd.R_drew)); exact HO530.out) hb) (Kd.R_base ho0)) (Kd.R_base ho1)) (fun _ h_ => h_.1)); have n8_ := Aside0.mk (Kd.R_lower (Kd.R_new' (Kd.R_new' (Kd.R_new' (Kd.R_new' (Kd.R_new' (Kd.R_new' (Kd.R_new' (Kd.R_new' ho0 (Kd.R_lt (by (with_reducible repeat (first | apply Kd.R_alloc | apply Kd.R_drewN | apply Kd.R_drew)); exact HO502.out))) (Kd.R_lt (by (with_reducible repeat (first | apply Kd.R_alloc | apply Kd.R_drewN | apply Kd.R_drew)); exact HO505.out))) (Kd.R_lt (by (with_reducible repeat (first | apply Kd.R_alloc | apply Kd.R_drewN | apply Kd.R_drew)); exact HO510.out))) (Kd.R_lt (by (with_reducible repeat (first | apply Kd.R_alloc | apply Kd.R_drewN | apply Kd.R_drew)); exact HO513.out))) (Kd.R_lt (by (with_reducible repeat (first | apply Kd.R_alloc | apply Kd.R_drewN | apply Kd.R_drew)); exact HO519.out))) (Kd.R_lt (by (with_reducible repeat (first | apply Kd.R_alloc | apply Kd.R_drewN | apply Kd.R_drew)); exact HO522.out))) (Kd.R_lt (by (with_reducible repeat (first | apply Kd.R_alloc | apply Kd.R_drewN | apply Kd.R_drew)); exact HO527.out))) (Kd.R_lt (by (with_reducible repeat (first | apply Kd.R_alloc | apply Kd.R_drewN | apply Kd.R_drew)); exact HO530.out))) (below_size (by repeat (first | (with_reducible first | exact HB.out | apply below_alloc | apply pw_below_drewN | apply below_drew1 | refine below_set ?_ GE515.out | refine below_set ?_ GE524.out) | exact HB.out)))); have n9_ := Aside0.mk (Kd.R_lower (Kd.R_new' (Kd.R_new' (Kd.R_new' (Kd.R_new' (Kd.R_new' (Kd.R_new' (Kd.R_new' (Kd.R_new' ho1 (Kd.R_lt (by (with_reducible repeat (first | apply Kd.R_alloc | apply Kd.R_drewN | apply Kd.R_drew)); exact HO502.out))) (Kd.R_lt (by (with_reducible repeat (first | apply Kd.R_alloc | apply Kd.R_drewN | apply Kd.R_drew)); exact HO505.out))) (Kd.R_lt (by (with_reducible repeat (first | apply Kd.R_alloc | apply Kd.R_drewN | apply Kd.R_drew)); exact HO510.out))) (Kd.R_lt (by (with_reducible repeat (first | apply Kd.R_alloc | apply Kd.R_drewN | apply Kd.R_drew)); exact HO513.out))) (Kd.R_lt (by (with_reducible repeat (first | apply Kd.R_alloc | apply Kd.R_drewN | apply Kd.R_drew)); exact HO519.out))) (Kd.R_lt (by (with_reducible repeat (first | apply Kd.R_alloc | apply Kd.R_drewN | apply Kd.R_drew)); exact HO522.out))) (Kd.R_lt (by (with_reducible repeat (first | apply Kd.R_alloc | apply Kd.R_drewN | apply Kd.R_drew)); exact HO527.out))) (Kd.R_lt (by (with_reducible repeat (first | apply Kd.R_alloc | apply Kd.R_drewN | apply Kd.R_drew)); exact HO530.out))) (below_size (by repeat (first | (with_reducible first | exact HB.out | apply below_alloc | apply pw_below_drewN | apply below_drew1 | refine below_set ?_ GE515.out | refine below_set ?_ GE524.out) | exact HB.out)))); have n10_ := Aside0.mk (blk_below (g := gb515) (o := .cells #[.slice Ao23 t508.length co23, .slice Ao25 t511.length co25] 25 (0, 0)) (by (with_reducible repeat (first | refine blk_drewN ?_ _ | refine blk_drew ?_ | refine blk_alloc ?_ _)); exact BK515.out) hb); have n11_ := Aside0.mk (blk_below (g := gb524) (o := .cells #[.slice Ao28 t517.length co28, .slice Ao31 t520.length co31] 25 (0, 0)) (by (with_reducible repeat (first | refine blk_drewN ?_ _ | refine blk_drew ?_ | refine blk_alloc ?_ _)); exact BK524.out) hb); have n12_ := Aside0.mk (below_step (by repeat (first | (with_reducible first | exact HB.out | apply below_alloc | apply pw_below_drewN | apply below_drew1 | refine below_set ?_ GE515.out | refine below_set ?_ GE524.out) | exact HB.out)) hb); clear HO502; clear HO505; clear HO510; clear HO513; clear HO519; clear HO522; clear HO527; clear HO530; clear BK515; clear BK524; clear HB; have HO502 := n0_; have HO505 := n1_; have HO510 := n2_; have HO513 := n3_; have HO519 := n4_; have HO522 := n5_; have HO527 := n6_; have HO530 := n7_; have HO533 := n8_; have HO536 := n9_; have BK515 := n10_; have BK524 := n11_; have HB := n12_; clear n0_ n1_ n2_ n3_ n4_ n5_ n6_ n7_ n8_ n9_ n10_ n11_ n12_; (try clear hb); (try clear hb2); (try clear hk); (try clear hi); (try clear ho0); (try clear ho1)) | ((with_reducible refine gate_dst (N := 7) rfl ?_); refine box_event ?hg (N := 7) ?hd (cs := #[.slice none 0 0, .slice none 0 0]) (t := 25) ?hr ?_; (case hd => rfl); (case hg => rfl); (case hr => first | (go_simp; done) | (go_simp; rfl)); intro gb538 hg w39 hbox hb; have n0_ := Aside0.mk (Kd.R_below (by (with_reducible repeat (first | apply Kd.R_alloc | apply Kd.R_drewN | apply Kd.R_drew)); exact HO502.out) hb); have n1_ := Aside0.mk (Kd.R_below (by (with_reducible repeat (first | apply Kd.R_alloc | apply Kd.R_drewN | apply Kd.R_drew)); exact HO505.out) hb); have n2_ := Aside0.mk (Kd.R_below (by (with_reducible repeat (first | apply Kd.R_alloc | apply Kd.R_drewN | apply Kd.R_drew)); exact HO510.out) hb); have n3_ := Aside0.mk (Kd.R_below (by (with_reducible repeat (first | apply Kd.R_alloc | apply Kd.R_drewN | apply Kd.R_drew)); exact HO513.out) hb); have n4_ := Aside0.mk (Kd.R_below (by (with_reducible repeat (first | apply Kd.R_alloc | apply Kd.R_drewN | apply Kd.R_drew)); exact HO519.out) hb); have n5_ := Aside0.mk (Kd.R_below (by (with_reducible repeat (first | apply Kd.R_alloc | apply Kd.R_drewN | apply Kd.R_drew)); exact HO522.out) hb); have n6_ := Aside0.mk (Kd.R_below (by (with_reducible repeat (first | apply Kd.R_alloc | apply Kd.R_drewN | apply Kd.R_drew)); exact HO527.out) hb); have n7_ := Aside0.mk (Kd.R_below (by (with_reducible repeat (first | apply Kd.R_alloc | apply Kd.R_drewN | apply Kd.R_drew)); exact HO530.out) hb); have n8_ := Aside0.mk (Kd.R_below (by (with_reducible repeat (first | apply Kd.R_alloc | apply Kd.R_drewN | apply Kd.R_drew)); exact HO533.out) hb); have n9_ := Aside0.mk (Kd.R_below (by (with_reducible repeat (first | apply Kd.R_alloc | apply Kd.R_drewN | apply Kd.R_drew)); exact HO536.out) hb); have n10_ := Aside0.mk (blk_below (g := gb515) (o := .cells #[.slice Ao23 t508.length co23, .slice Ao25 t511.length co25] 25 (0, 0)) (by (with_reducible repeat (first | refine blk_drewN ?_ _ | refine blk_drew ?_ | refine blk_alloc ?_ _)); exact BK515.out) hb); have n11_ := Aside0.mk (blk_below (g := gb524) (o := .cells #[.slice Ao28 t517.length co28, .slice Ao31 t520.length co31] 25 (0, 0)) (by (with_reducible repeat (first | refine blk_drewN ?_ _ | refine blk_drew ?_ | refine blk_alloc ?_ _)); exact BK524.out) hb); have n12_ := Aside0.mk (below_step (by repeat (first | (with_reducible first | exact HB.out | apply below_alloc | apply pw_below_drewN | apply below_drew1 | refine below_set ?_ GE515.out | refine below_set ?_ GE524.out) | exact HB.out)) hb); have n13_ := Aside0.mk (hbox); have n14_ := Aside0.mk ((by rw [hg]; exact (below_size (by repeat (first | (with_reducible first | exact HB.out | apply below_alloc | apply pw_below_drewN | apply below_drew1 | refine below_set ?_ GE515.out | refine below_set ?_ GE524.out) | exact HB.out))) : w.heap.size ≤ gb538)); have n15_ := Aside0.mk ((by rw [hg]; exact (below_size (by repeat (first | (with_reducible first | exact HB.out | apply below_alloc | apply pw_below_drewN | apply below_drew1 | refine below_set ?_ GE515.out | refine below_set ?_ GE524.out) | exact HB.out))) : w.heap.size ≤ gb538)); have n16_ := Aside0.mk ((by rw [hg]; exact Nat.ne_of_lt (blk_lt (g := gb515) (o := .cells #[.slice Ao23 t508.length co23, .slice Ao25 t511.length co25] 25 (0, 0)) (by (with_reducible repeat (first | refine blk_drewN ?_ _ | refine blk_drew ?_ | refine blk_alloc ?_ _)); exact BK515.out)) : gb515 ≠ gb538)); have n17_ := Aside0.mk ((by rw [hg]; exact Nat.ne_of_gt (blk_lt (g := gb515) (o := .cells #[.slice Ao23 t508.length co23, .slice Ao25 t511.length co25] 25 (0, 0)) (by (with_reducible repeat (first | refine blk_drewN ?_ _ | refine blk_drew ?_ | refine blk_alloc ?_ _)); exact BK515.out)) : gb538 ≠ gb515)); have n18_ := Aside0.mk ((by rw [hg]; exact Nat.ne_of_lt (blk_lt (g := gb524) (o := .cells #[.slice Ao28 t517.length co28, .slice Ao31 t520.length co31] 25 (0, 0)) (by (with_reducible repeat (first | refine blk_drewN ?_ _ | refine blk_drew ?_ | refine blk_alloc ?_ _)); exact BK524.out)) : gb524 ≠ gb538)); have n19_ := Aside0.mk ((by rw [hg]; exact Nat.ne_of_gt (blk_lt (g := gb524) (o := .cells #[.slice Ao28 t517.length co28, .slice Ao31 t520.length co31] 25 (0, 0)) (by (with_reducible repeat (first | refine blk_drewN ?_ _ | refine blk_drew ?_ | refine blk_alloc ?_ _)); exact BK524.out)) : gb538 ≠ gb524)); clear HO502; clear HO505; clear HO510; clear HO513; clear HO519; clear HO522; clear HO527; clear HO530; clear HO533; clear HO536; clear BK515; clear BK524; clear HB; have HO502 := n0_; have HO505 := n1_; have HO510 := n2_; have HO513 := n3_; have HO519 := n4_; have HO522 := n5_; have HO527 := n6_; have HO530 := n7_; have HO533 := n8_; have HO536 := n9_; have BK515 := n10_; have BK524 := n11_; have HB := n12_; have BK538 := n13_; have GW538 := n14_; have GE538 := n15_; have NB515_538 := n16_; have NB538_515 := n17_; have NB524_538 := n18_; have NB538_524 := n19_; clear n0_ n1_ n2_ n3_ n4_ n5_ n6_ n7_ n8_ n9_ n10_ n11_ n12_ n13_ n14_ n15_ n16_ n17_ n18_ n19_; clear hb hbox hg; obtain ⟨Ao40, co40, eo40⟩ := Kd.R_slice HO533.out; subst eo40; have hnb41 := NB538_515.out; have hnc41 := NB515_538.out; have hnb42 := NB538_524.out; have hnc42 := NB524_538.out; have hcz43_0 : w39.cell? ⟨gb538, 0, none⟩ = some (.slice none 0 0) := (blk_cell BK538.out 0).trans rfl; have hcz43_1 : w39.cell? ⟨gb538, 1, none⟩ = some (.slice none 0 0) := (blk_cell BK538.out 1).trans rfl; have hfz43_0 := blk_frozen BK538.out 0; have hfz43_1 := blk_frozen BK538.out 1; obtain ⟨Ao44, co44, eo44⟩ := Kd.R_slice HO536.out; subst eo44; have hcz45_0 : w39.cell? ⟨gb515, 0, none⟩ = some (.slice Ao23 t508.length co23) := (blk_cell BK515.out 0).trans rfl; have hcz45_1 : w39.cell? ⟨gb515, 1, none⟩ = some (.slice Ao25 t511.length co25) := (blk_cell BK515.out 1).trans rfl; have hfz45_0 := blk_frozen BK515.out 0; have hfz45_1 := blk_frozen BK515.out 1) | (go_at_call 22; (with_reducible refine (rat_Text.calls k _ _ t508 _ _ t511 t539 _ ?side1 ?side2 ?side3 ?side4 A8.out).mono ?_); (case side1 => refine (Kd.R_reads' (e := 47) (base := w.heap.size) (ok := fun k_ => ((((((((some k_ ≠ (.slice Ao25 t511.length co25 : Value).ownBlock ∧ some k_ ≠ (.slice Ao19 y500.length co19 : Value).ownBlock) ∧ some k_ ≠ (.slice Ao18 y503.length co18 : Value).ownBlock) ∧ some k_ ≠ (.slice Ao28 t517.length co28 : Value).ownBlock) ∧ some k_ ≠ (.slice Ao31 t520.length co31 : Value).ownBlock) ∧ some k_ ≠ (.slice Ao37 y525.length co37 : Value).ownBlock) ∧ some k_ ≠ (.slice Ao36 y528.length co36 : Value).ownBlock) ∧ some k_ ≠ (.slice Ao40 t531.length co40 : Value).ownBlock) ∧ some k_ ≠ (.slice Ao44 t534.length co44 : Value).ownBlock)) (n := t508.length) (c := co23) ?_).2.2; exact (by (with_reducible repeat (first | apply Kd.R_alloc | apply Kd.R_drewN | apply Kd.R_drew)); exact (Kd.R_mono (Kd.R_far (p := ⟨gb538, 1, none⟩) (Kd.R_far (p := ⟨gb538, 0, none⟩) (Kd.R_types HO510.out BK538.out (by decide)) (fun _ hk => hk.2) (.slice Ao40 t531.length co40)) (fun _ hk => hk.2) (.slice Ao44 t534.length co44)) (fun _ h_ => h_.1)))); (case side2 => exact (Kd.R_reads' HO510.out).2.1); (case side3 => refine (Kd.R_reads' (e := 47) (base := w.heap.size) (ok := fun k_ => ((((((((some k_ ≠ (.slice Ao23 t508.length co23 : Value).ownBlock ∧ some k_ ≠ (.slice Ao19 y500.length co19 : Value).ownBlock) ∧ some k_ ≠ (.slice Ao18 y503.length co18 : Value).ownBlock) ∧ some k_ ≠ (.slice Ao28 t517.length co28 : Value).ownBlock) ∧ some k_ ≠ (.slice Ao31 t520.length co31 : Value).ownBlock) ∧ some k_ ≠ (.slice Ao37 y525.length co37 : Value).ownBlock) ∧ some k_ ≠ (.slice Ao36 y528.length co36 : Value).ownBlock) ∧ some k_ ≠ (.slice Ao40 t531.length co40 : Value).ownBlock) ∧ some k_ ≠ (.slice Ao44 t534.length co44 : Value).ownBlock)) (n := t511.length) (c := co25) ?_).2.2; exact (by (with_reducible repeat (first | apply Kd.R_alloc | apply Kd.R_drewN | apply Kd.R_drew)); exact (Kd.R_mono (Kd.R_far (p := ⟨gb538, 1, none⟩) (Kd.R_far (p := ⟨gb538, 0, none⟩) (Kd.R_types HO513.out BK538.out (by decide)) (fun _ hk => hk.2) (.slice Ao40 t531.length co40)) (fun _ hk => hk.2) (.slice Ao44 t534.length co44)) (fun _ h_ => h_.1)))); (case side4 => exact (Kd.R_reads' HO513.out).2.1); rintro e w46 ⟨rfl, hb⟩; have n0_ := Aside0.mk (Kd.R_below (by (with_reducible repeat (first | apply Kd.R_alloc | apply Kd.R_drewN | apply Kd.R_drew)); exact (Kd.R_mono (Kd.R_far (p := ⟨gb538, 1, none⟩) (Kd.R_far (p := ⟨gb538, 0, none⟩) (Kd.R_types HO502.out BK538.out (by decide)) (fun _ hk => hk.2) (.slice Ao40 t531.length co40)) (fun _ hk => hk.2) (.slice Ao44 t534.length co44)) (fun _ h_ => h_.1))) hb); have n1_ := Aside0.mk (Kd.R_below (by (with_reducible repeat (first | apply Kd.R_alloc | apply Kd.R_drewN | apply Kd.R_drew)); exact (Kd.R_mono (Kd.R_far (p := ⟨gb538, 1, none⟩) (Kd.R_far (p := ⟨gb538, 0, none⟩) (Kd.R_types HO505.out BK538.out (by decide)) (fun _ hk => hk.2) (.slice Ao40 t531.length co40)) (fun _ hk => hk.2) (.slice Ao44 t534.length co44)) (fun _ h_ => h_.1))) hb); have n2_ := Aside0.mk (Kd.R_below (by (with_reducible repeat (first | apply Kd.R_alloc | apply Kd.R_drewN | apply Kd.R_drew)); exact (Kd.R_mono (Kd.R_far (p := ⟨gb538, 1, none⟩) (Kd.R_far (p := ⟨gb538, 0, none⟩) (Kd.R_types HO510.out BK538.out (by decide)) (fun _ hk => hk.2) (.slice Ao40 t531.length co40)) (fun _ hk => hk.2) (.slice Ao44 t534.length co44)) (fun _ h_ => h_.1))) hb); have n3_ := Aside0.mk (Kd.R_below (by (with_reducible repeat (first | apply Kd.R_alloc | apply Kd.R_drewN | apply Kd.R_drew)); exact (Kd.R_mono (Kd.R_far (p := ⟨gb538, 1, none⟩) (Kd.R_far (p := ⟨gb538, 0, none⟩) (Kd.R_types HO513.out BK538.out (by decide)) (fun _ hk => hk.2) (.slice Ao40 t531.length co40)) (fun _ hk => hk.2) (.slice Ao44 t534.length co44)) (fun _ h_ => h_.1))) hb); have n4_ := Aside0.mk (Kd.R_below (by (with_reducible repeat (first | apply Kd.R_alloc | apply Kd.R_drewN | apply Kd.R_drew)); exact (Kd.R_mono (Kd.R_far (p := ⟨gb538, 1, none⟩) (Kd.R_far (p := ⟨gb538, 0, none⟩) (Kd.R_types HO519.out BK538.out (by decide)) (fun _ hk => hk.2) (.slice Ao40 t531.length co40)) (fun _ hk => hk.2) (.slice Ao44 t534.length co44)) (fun _ h_ => h_.1))) hb); have n5_ := Aside0.mk (Kd.R_below (by (with_reducible repeat (first | apply Kd.R_alloc | apply Kd.R_drewN | apply Kd.R_drew)); exact (Kd.R_mono (Kd.R_far (p := ⟨gb538, 1, none⟩) (Kd.R_far (p := ⟨gb538, 0, none⟩) (Kd.R_types HO522.out BK538.out (by decide)) (fun _ hk => hk.2) (.slice Ao40 t531.length co40)) (fun _ hk => hk.2) (.slice Ao44 t534.length co44)) (fun _ h_ => h_.1))) hb); have n6_ := Aside0.mk (Kd.R_below (by (with_reducible repeat (first | apply Kd.R_alloc | apply Kd.R_drewN | apply Kd.R_drew)); exact (Kd.R_mono (Kd.R_far (p := ⟨gb538, 1, none⟩) (Kd.R_far (p := ⟨gb538, 0, none⟩) (Kd.R_types HO527.out BK538.out (by decide)) (fun _ hk => hk.2) (.slice Ao40 t531.length co40)) (fun _ hk => hk.2) (.slice Ao44 t534.length co44)) (fun _ h_ => h_.1))) hb); have n7_ := Aside0.mk (Kd.R_below (by (with_reducible repeat (first | apply Kd.R_alloc | apply Kd.R_drewN | apply Kd.R_drew)); exact (Kd.R_mono (Kd.R_far (p := ⟨gb538, 1, none⟩) (Kd.R_far (p := ⟨gb538, 0, none⟩) (Kd.R_types HO530.out BK538.out (by decide)) (fun _ hk => hk.2) (.slice Ao40 t531.length co40)) (fun _ hk => hk.2) (.slice Ao44 t534.length co44)) (fun _ h_ => h_.1))) hb); have n8_ := Aside0.mk (Kd.R_below (by (with_reducible repeat (first | apply Kd.R_alloc | apply Kd.R_drewN | apply Kd.R_drew)); exact (Kd.R_mono (Kd.R_far (p := ⟨gb538, 1, none⟩) (Kd.R_far (p := ⟨gb538, 0, none⟩) (Kd.R_types HO533.out BK538.out (by decide)) (fun _ hk => hk.2) (.slice Ao40 t531.length co40)) (fun _ hk => hk.2) (.slice Ao44 t534.length co44)) (fun _ h_ => h_.1))) hb); have n9_ := Aside0.mk (Kd.R_below (by (with_reducible repeat (first | apply Kd.R_alloc | apply Kd.R_drewN | apply Kd.R_drew)); exact (Kd.R_mono (Kd.R_far (p := ⟨gb538, 1, none⟩) (Kd.R_far (p := ⟨gb538, 0, none⟩) (Kd.R_types HO536.out BK538.out (by decide)) (fun _ hk => hk.2) (.slice Ao40 t531.length co40)) (fun _ hk => hk.2) (.slice Ao44 t534.length co44)) (fun _ h_ => h_.1))) hb); have n10_ := Aside0.mk (blk_below (g := gb515) (o := .cells #[.slice Ao23 t508.length co23, .slice Ao25 t511.length co25] 25 (0, 0)) (by (with_reducible repeat (first | refine blk_drewN ?_ _ | refine blk_drew ?_ | refine blk_alloc ?_ _)); refine blk_far ?_ NB515_538.out _; (with_reducible repeat (first | refine blk_drewN ?_ _ | refine blk_drew ?_ | refine blk_alloc ?_ _)); refine blk_far ?_ NB515_538.out _; (with_reducible repeat (first | refine blk_drewN ?_ _ | refine blk_drew ?_ | refine blk_alloc ?_ _)); exact BK515.out) hb); have n11_ := Aside0.mk (blk_below (g := gb524) (o := .cells #[.slice Ao28 t517.length co28, .slice Ao31 t520.length co31] 25 (0, 0)) (by (with_reducible repeat (first | refine blk_drewN ?_ _ | refine blk_drew ?_ | refine blk_alloc ?_ _)); refine blk_far ?_ NB524_538.out _; (with_reducible repeat (first | refine blk_drewN ?_ _ | refine blk_drew ?_ | refine blk_alloc ?_ _)); refine blk_far ?_ NB524_538.out _; (with_reducible repeat (first | refine blk_drewN ?_ _ | refine blk_drew ?_ | refine blk_alloc ?_ _)); exact BK524.out) hb); have n12_ := Aside0.mk (blk_below (g := gb538) (o := .cells #[.slice Ao40 t531.length co40, .slice Ao44 t534.length co44] 25 (0, 0)) (by (with_reducible repeat (first | refine blk_drewN ?_ _ | refine blk_drew ?_ | refine blk_alloc ?_ _)); refine blk_put (cs := #[.slice Ao40 t531.length co40, .slice none 0 0]) ?_ 1 _ rfl; (with_reducible repeat (first | refine blk_drewN ?_ _ | refine blk_drew ?_ | refine blk_alloc ?_ _)); refine blk_put (cs := #[.slice none 0 0, .slice none 0 0]) ?_ 0 _ rfl; (with_reducible repeat (first | refine blk_drewN ?_ _ | refine blk_drew ?_ | refine blk_alloc ?_ _)); exact BK538.out) hb); have n13_ := Aside0.mk (below_step (by repeat (first | (with_reducible first | exact HB.out | apply below_alloc | apply pw_below_drewN | apply below_drew1 | refine below_set ?_ GE515.out | refine below_set ?_ GE524.out | refine below_set ?_ GE538.out) | exact HB.out)) hb); clear HO502; clear HO505; clear HO510; clear HO513; clear HO519; clear HO522; clear HO527; clear HO530; clear HO533; clear HO536; clear BK515; clear BK524; clear BK538; clear HB; have HO502 := n0_; have HO505 := n1_; have HO510 := n2_; have HO513 := n3_; have HO519 := n4_; have HO522 := n5_; have HO527 := n6_; have HO530 := n7_; have HO533 := n8_; have HO536 := n9_; have BK515 := n10_; have BK524 := n11_; have BK538 := n12_; have HB := n13_; clear n0_ n1_ n2_ n3_ n4_ n5_ n6_ n7_ n8_ n9_ n10_ n11_ n12_ n13_; (try clear hb); (try clear hb2); (try clear hk); (try clear hi); have hcz47_0 : w46.cell? ⟨gb538, 0, none⟩ = some (.slice Ao40 t531.length co40) := (blk_cell BK538.out 0).trans rfl; have hcz47_1 : w46.cell? ⟨gb538, 1, none⟩ = some (.slice Ao44 t534.length co44) := (blk_cell BK538.out 1).trans rfl; have hfz47_0 := blk_frozen BK538.out 0; have hfz47_1 := blk_frozen BK538.out 1) | (go_at_call 22; (with_reducible refine (rat_Text.calls k _ _ t531 _ _ t534 t540 _ ?side1 ?side2 ?side3 ?side4 A12.out).mono ?_); (case side1 => repeat (first | exact (Kd.R_reads' HO533.out).2.2 | (with_reducible refine Kd.C_alloc ?_ _) | (with_reducible refine Kd.C_drewN ?_ _) | (with_reducible refine Kd.C_drew ?_))); (case side2 => exact (Kd.R_reads' HO533.out).2.1); (case side3 => repeat (first | exact (Kd.R_reads' HO536.out).2.2 | (with_reducible refine Kd.C_alloc ?_ _) | (with_reducible refine Kd.C_drewN ?_ _) | (with_reducible refine Kd.C_drew ?_))); (case side4 => exact (Kd.R_reads' HO536.out).2.1); rintro e w48 ⟨rfl, hb⟩; have n0_ := Aside0.mk (Kd.R_below (by (with_reducible repeat (first | apply Kd.R_alloc | apply Kd.R_drewN | apply Kd.R_drew)); exact HO502.out) hb); have n1_ := Aside0.mk (Kd.R_below (by (with_reducible repeat (first | apply Kd.R_alloc | apply Kd.R_drewN | apply Kd.R_drew)); exact HO505.out) hb); have n2_ := Aside0.mk (Kd.R_below (by (with_reducible repeat (first | apply Kd.R_alloc | apply Kd.R_drewN | apply Kd.R_drew)); exact HO510.out) hb); have n3_ := Aside0.mk (Kd.R_below (by (with_reducible repeat (first | apply Kd.R_alloc | apply Kd.R_drewN | apply Kd.R_drew)); exact HO513.out) hb); have n4_ := Aside0.mk (Kd.R_below (by (with_reducible repeat (first | apply Kd.R_alloc | apply Kd.R_drewN | apply Kd.R_drew)); exact HO519.out) hb); have n5_ := Aside0.mk (Kd.R_below (by (with_reducible repeat (first | apply Kd.R_alloc | apply Kd.R_drewN | apply Kd.R_drew)); exact HO522.out) hb); have n6_ := Aside0.mk (Kd.R_below (by (with_reducible repeat (first | apply Kd.R_alloc | apply Kd.R_drewN | apply Kd.R_drew)); exact HO527.out) hb); have n7_ := Aside0.mk (Kd.R_below (by (with_reducible repeat (first | apply Kd.R_alloc | apply Kd.R_drewN | apply Kd.R_drew)); exact HO530.out) hb); have n8_ := Aside0.mk (Kd.R_below (by (with_reducible repeat (first | apply Kd.R_alloc | apply Kd.R_drewN | apply Kd.R_drew)); exact HO533.out) hb); have n9_ := Aside0.mk (Kd.R_below (by (with_reducible repeat (first | apply Kd.R_alloc | apply Kd.R_drewN | apply Kd.R_drew)); exact HO536.out) hb); have n10_ := Aside0.mk (blk_below (g := gb515) (o := .cells #[.slice Ao23 t508.length co23, .slice Ao25 t511.length co25] 25 (0, 0)) (by (with_reducible repeat (first | refine blk_drewN ?_ _ | refine blk_drew ?_ | refine blk_alloc ?_ _)); exact BK515.out) hb); have n11_ := Aside0.mk (blk_below (g := gb524) (o := .cells #[.slice Ao28 t517.length co28, .slice Ao31 t520.length co31] 25 (0, 0)) (by (with_reducible repeat (first | refine blk_drewN ?_ _ | refine blk_drew ?_ | refine blk_alloc ?_ _)); exact BK524.out) hb); have n12_ := Aside0.mk (blk_below (g := gb538) (o := .cells #[.slice Ao40 t531.length co40, .slice Ao44 t534.length co44] 25 (0, 0)) (by (with_reducible repeat (first | refine blk_drewN ?_ _ | refine blk_drew ?_ | refine blk_alloc ?_ _)); exact BK538.out) hb); have n13_ := Aside0.mk (below_step (by repeat (first | (with_reducible first | exact HB.out | apply below_alloc | apply pw_below_drewN | apply below_drew1 | refine below_set ?_ GE515.out | refine below_set ?_ GE524.out | refine below_set ?_ GE538.out) | exact HB.out)) hb); clear HO502; clear HO505; clear HO510; clear HO513; clear HO519; clear HO522; clear HO527; clear HO530; clear HO533; clear HO536; clear BK515; clear BK524; clear BK538; clear HB; have HO502 := n0_; have HO505 := n1_; have HO510 := n2_; have HO513 := n3_; have HO519 := n4_; have HO522 := n5_; have HO527 := n6_; have HO530 := n7_; have HO533 := n8_; have HO536 := n9_; have BK515 := n10_; have BK524 := n11_; have BK538 := n12_; have HB := n13_; clear n0_ n1_ n2_ n3_ n4_ n5_ n6_ n7_ n8_ n9_ n10_ n11_ n12_ n13_; (try clear hb); (try clear hb2); (try clear hk); (try clear hi)))
              go_ret
              exact ⟨by first | rfl | (simp [errW_none, errW_some] <;> rfl) | (simp [*, errW_none, errW_some] <;> rfl), by repeat (first | (with_reducible first | exact HB.out | apply below_alloc | apply pw_below_drewN | apply below_drew1 | refine below_set ?_ GE515.out | refine below_set ?_ GE524.out | refine below_set ?_ GE538.out) | exact HB.out)⟩
            · rw [if_neg c13] at H
              exact absurd H (by simp)
          · rw [if_neg c11] at H
            exact absurd H (by simp)
        · rw [if_neg c10] at H
          exact absurd H (by simp)
      · rw [if_neg c9] at H
        exact absurd H (by simp)
    · rw [if_neg c7] at H
      exact absurd H (by simp)
  · rw [if_neg c6] at H
    exact absurd H (by simp)

/-! ### rat_joined__nat_Add: function 23 -/
def rat_joined__nat_Add.f (k : Nat) (l0_0 : List Int) (l0_1 : List Int) (l1_0 : List Int) (l1_1 : List Int) : Option (List Int × List Int × Int) := (rat_both.f k l0_0 l0_1 l1_0 l1_1).bind fun t544 => (if t544 = 0 then ((nat_Mul.f k l0_1 l1_1).bind fun bt545 => (if bt545.2 = 0 then ((rat_cross.f k l0_0 l0_1 l1_0 l1_1).bind fun bt549 => (if bt549.2.2 = 0 then ((nat_Add.f k bt549.1 bt549.2.1).bind fun bt556 => (if bt556.2 = 0 then ((rat_reduce.f k bt556.1 bt545.1).bind fun bt560 => (some (bt560.1, bt560.2, 0))) else (none))) else (none))) else (none))) else (none))
theorem rat_joined__nat_Add.mono : ∀ a0 a1 a2 a3 k, LeO (rat_joined__nat_Add.f k a0 a1 a2 a3) (rat_joined__nat_Add.f (k + 1) a0 a1 a2 a3) := by
  intro a0 a1 a2 a3 k
  unfold rat_joined__nat_Add.f
  repeat' first
      | (with_reducible exact nat_Add.mono _ _ _)
      | (with_reducible exact nat_Mul.mono _ _ _)
      | (with_reducible exact rat_both.mono _ _ _ _ _)
      | (with_reducible exact rat_cross.mono _ _ _ _ _)
      | (with_reducible exact rat_reduce.mono _ _ _)
      | (with_reducible exact LeO.refl _)
      | (with_reducible exact LeO.none _)
      | (with_reducible refine LeO.ite ?_ ?_)
      | (with_reducible refine LeO.bind ?_ (fun _ => ?_))
      | exact nat_Add.mono _ _ _
      | exact nat_Mul.mono _ _ _
      | exact rat_both.mono _ _ _ _ _
      | exact rat_cross.mono _ _ _ _ _
      | exact rat_reduce.mono _ _ _
      | exact LeO.none _
      | refine LeO.ite ?_ ?_
      | refine LeO.bind ?_ (fun _ => ?_)
set_option maxHeartbeats 8000000 in
set_option maxRecDepth 100000 in
theorem rat_joined__nat_Add.calls (k : Nat) (A0_0 : Option Addr) (c0_0 : Nat) (l0_0 : List Int) (A0_1 : Option Addr) (c0_1 : Nat) (l0_1 : List Int) (A1_0 : Option Addr) (c1_0 : Nat) (l1_0 : List Int) (A1_1 : Option Addr) (c1_1 : Nat) (l1_1 : List Int) (r1 : List Int) (r2 : List Int) (r3 : Int) (w : World) (hr0_0 : Kd.C (Kd.int .u32) w A0_0 l0_0.length l0_0) (hc0_0 : l0_0.length ≤ c0_0) (hr0_1 : Kd.C (Kd.int .u32) w A0_1 l0_1.length l0_1) (hc0_1 : l0_1.length ≤ c0_1) (hr1_0 : Kd.C (Kd.int .u32) w A1_0 l1_0.length l1_0) (hc1_0 : l1_0.length ≤ c1_0) (hr1_1 : Kd.C (Kd.int .u32) w A1_1 l1_1.length l1_1) (hc1_1 : l1_1.length ≤ c1_1) (h : rat_joined__nat_Add.f k l0_0 l0_1 l1_0 l1_1 = some (r1, r2, r3)) :
    Calls Tryd.prog 23 #[.agg #[.slice A0_0 l0_0.length c0_0, .slice A0_1 l0_1.length c0_1], .agg #[.slice A1_0 l1_0.length c1_0, .slice A1_1 l1_1.length c1_1], .func (.func 24) #[] #[]] w fun e w' => ∃ v0_ v1_ : Value, e = .returned (.tuple #[.agg #[v0_, v1_], .int .i64 r3]) ∧ Kd.R (Kd.int .u32) 47 w' w.heap.size (fun k_ => some k_ ≠ (v1_ : Value).ownBlock) v0_ r1 ∧ Kd.R (Kd.int .u32) 47 w' w.heap.size (fun k_ => some k_ ≠ (v0_ : Value).ownBlock) v1_ r2 ∧ Below w.heap.size w w' := by
  have hu25 := Tryd.underlying25
  have HR0_0 := Aside0.mk hr0_0
  have HC0_0 := Aside0.mk hc0_0
  clear hr0_0 hc0_0
  have HR0_1 := Aside0.mk hr0_1
  have HC0_1 := Aside0.mk hc0_1
  clear hr0_1 hc0_1
  have HR1_0 := Aside0.mk hr1_0
  have HC1_0 := Aside0.mk hc1_0
  clear hr1_0 hc1_0
  have HR1_1 := Aside0.mk hr1_1
  have HC1_1 := Aside0.mk hc1_1
  clear hr1_1 hc1_1
  have HB := Aside0.mk (Below.refl w.heap.size w)
  have H : ((rat_both.f k l0_0 l0_1 l1_0 l1_1).bind fun t544 => (if t544 = 0 then ((nat_Mul.f k l0_1 l1_1).bind fun bt545 => (if bt545.2 = 0 then ((rat_cross.f k l0_0 l0_1 l1_0 l1_1).bind fun bt549 => (if bt549.2.2 = 0 then ((nat_Add.f k bt549.1 bt549.2.1).bind fun bt556 => (if bt556.2 = 0 then ((rat_reduce.f k bt556.1 bt545.1).bind fun bt560 => (some (bt560.1, bt560.2, 0))) else (none))) else (none))) else (none))) else (none))) = some (r1, r2, r3) := h
  clear h
  replace H := Option.bind_eq_some_iff.mp H
  obtain ⟨t544, A30, H⟩ := H
  replace H : (if t544 = 0 then ((nat_Mul.f k l0_1 l1_1).bind fun bt545 => (if bt545.2 = 0 then ((rat_cross.f k l0_0 l0_1 l1_0 l1_1).bind fun bt549 => (if bt549.2.2 = 0 then ((nat_Add.f k bt549.1 bt549.2.1).bind fun bt556 => (if bt556.2 = 0 then ((rat_reduce.f k bt556.1 bt545.1).bind fun bt560 => (some (bt560.1, bt560.2, 0))) else (none))) else (none))) else (none))) else (none)) = some (r1, r2, r3) := H
  have A3 := Aside0.mk A30
  clear A30
  by_cases c4 : t544 = 0
  · rw [if_pos c4] at H
    have c4b0 : (t544 == 0) = true := beq_iff_eq.mpr c4
    have c4b1 : (t544 != 0) = false := bne_eq_false_iff_eq.mpr c4
    clear c4
    replace H := Option.bind_eq_some_iff.mp H
    obtain ⟨⟨t545, t546⟩, A50, H⟩ := H
    replace H : (if t546 = 0 then ((rat_cross.f k l0_0 l0_1 l1_0 l1_1).bind fun bt549 => (if bt549.2.2 = 0 then ((nat_Add.f k bt549.1 bt549.2.1).bind fun bt556 => (if bt556.2 = 0 then ((rat_reduce.f k bt556.1 t545).bind fun bt560 => (some (bt560.1, bt560.2, 0))) else (none))) else (none))) else (none)) = some (r1, r2, r3) := H
    have A5 := Aside0.mk A50
    clear A50
    by_cases c6 : t546 = 0
    · rw [if_pos c6] at H
      have c6b0 : (t546 == 0) = true := beq_iff_eq.mpr c6
      have c6b1 : (t546 != 0) = false := bne_eq_false_iff_eq.mpr c6
      clear c6
      replace H := Option.bind_eq_some_iff.mp H
      obtain ⟨⟨t549, t552, t555⟩, A70, H⟩ := H
      replace H : (if t555 = 0 then ((nat_Add.f k t549 t552).bind fun bt556 => (if bt556.2 = 0 then ((rat_reduce.f k bt556.1 t545).bind fun bt560 => (some (bt560.1, bt560.2, 0))) else (none))) else (none)) = some (r1, r2, r3) := H
      have A7 := Aside0.mk A70
      clear A70
      by_cases c8 : t555 = 0
      · rw [if_pos c8] at H
        have c8b0 : (t555 == 0) = true := beq_iff_eq.mpr c8
        have c8b1 : (t555 != 0) = false := bne_eq_false_iff_eq.mpr c8
        clear c8
        replace H := Option.bind_eq_some_iff.mp H
        obtain ⟨⟨t556, t557⟩, A90, H⟩ := H
        replace H : (if t557 = 0 then ((rat_reduce.f k t556 t545).bind fun bt560 => (some (bt560.1, bt560.2, 0))) else (none)) = some (r1, r2, r3) := H
        have A9 := Aside0.mk A90
        clear A90
        by_cases c10 : t557 = 0
        · rw [if_pos c10] at H
          have c10b0 : (t557 == 0) = true := beq_iff_eq.mpr c10
          have c10b1 : (t557 != 0) = false := bne_eq_false_iff_eq.mpr c10
          clear c10
          replace H := Option.bind_eq_some_iff.mp H
          obtain ⟨⟨t560, t563⟩, A110, H⟩ := H
          replace H : (some (t560, t563, 0)) = some (r1, r2, r3) := H
          have A11 := Aside0.mk A110
          clear A110
          simp only [Option.some.injEq, Prod.mk.injEq] at H
          obtain ⟨rfl, rfl, rfl⟩ := H
          go_enter Tryd.func23, Tryd.ntmps23
          go_wp2_with (first | ((with_reducible refine gate_dst (N := 3) rfl ?_); refine box_event ?hg (N := 3) ?hd (cs := #[.slice A0_0 l0_0.length c0_0, .slice A0_1 l0_1.length c0_1]) (t := 25) ?hr ?_; (case hd => rfl); (case hg => rfl); (case hr => first | (go_simp; done) | (go_simp; rfl)); intro gb541 hg w12 hbox hb; have n0_ := Aside0.mk (below_step (by repeat (first | (with_reducible first | exact HB.out | apply below_alloc | apply pw_below_drewN | apply below_drew1) | exact HB.out)) hb); have n1_ := Aside0.mk (hbox); have n2_ := Aside0.mk ((by rw [hg]; exact (below_size (by repeat (first | (with_reducible first | exact HB.out | apply below_alloc | apply pw_below_drewN | apply below_drew1) | exact HB.out))) : w.heap.size ≤ gb541)); have n3_ := Aside0.mk ((by rw [hg]; exact (below_size (by repeat (first | (with_reducible first | exact HB.out | apply below_alloc | apply pw_below_drewN | apply below_drew1) | exact HB.out))) : w.heap.size ≤ gb541)); clear HB; have HB := n0_; have BK541 := n1_; have GW541 := n2_; have GE541 := n3_; clear n0_ n1_ n2_ n3_; clear hb hbox hg) | ((with_reducible refine gate_dst (N := 4) rfl ?_); refine box_event ?hg (N := 4) ?hd (cs := #[.slice A1_0 l1_0.length c1_0, .slice A1_1 l1_1.length c1_1]) (t := 25) ?hr ?_; (case hd => rfl); (case hg => rfl); (case hr => first | (go_simp; done) | (go_simp; rfl)); intro gb542 hg w13 hbox hb; have n0_ := Aside0.mk (blk_below (g := gb541) (o := .cells #[.slice A0_0 l0_0.length c0_0, .slice A0_1 l0_1.length c0_1] 25 (0, 0)) (by (with_reducible repeat (first | refine blk_drewN ?_ _ | refine blk_drew ?_ | refine blk_alloc ?_ _)); exact BK541.out) hb); have n1_ := Aside0.mk (below_step (by repeat (first | (with_reducible first | exact HB.out | apply below_alloc | apply pw_below_drewN | apply below_drew1 | refine below_set ?_ GE541.out) | exact HB.out)) hb); have n2_ := Aside0.mk (hbox); have n3_ := Aside0.mk ((by rw [hg]; exact (below_size (by repeat (first | (with_reducible first | exact HB.out | apply below_alloc | apply pw_below_drewN | apply below_drew1 | refine below_set ?_ GE541.out) | exact HB.out))) : w.heap.size ≤ gb542)); have n4_ := Aside0.mk ((by rw [hg]; exact (below_size (by repeat (first | (with_reducible first | exact HB.out | apply below_alloc | apply pw_below_drewN | apply below_drew1 | refine below_set ?_ GE541.out) | exact HB.out))) : w.heap.size ≤ gb542)); have n5_ := Aside0.mk ((by rw [hg]; exact Nat.ne_of_lt (blk_lt (g := gb541) (o := .cells #[.slice A0_0 l0_0.length c0_0, .slice A0_1 l0_1.length c0_1] 25 (0, 0)) (by (with_reducible repeat (first | refine blk_drewN ?_ _ | refine blk_drew ?_ | refine blk_alloc ?_ _)); exact BK541.out)) : gb541 ≠ gb542)); have n6_ := Aside0.mk ((by rw [hg]; exact Nat.ne_of_gt (blk_lt (g := gb541) (o := .cells #[.slice A0_0 l0_0.length c0_0, .slice A0_1 l0_1.length c0_1] 25 (0, 0)) (by (with_reducible repeat (first | refine blk_drewN ?_ _ | refine blk_drew ?_ | refine blk_alloc ?_ _)); exact BK541.out)) : gb542 ≠ gb541)); clear BK541; clear HB; have BK541 := n0_; have HB := n1_; have BK542 := n2_; have GW542 := n3_; have GE542 := n4_; have NB541_542 := n5_; have NB542_541 := n6_; clear n0_ n1_ n2_ n3_ n4_ n5_ n6_; clear hb hbox hg) | ((with_reducible refine gate_dst (N := 6) rfl ?_); refine box_event ?hg (N := 6) ?hd (cs := #[.slice none 0 0, .slice none 0 0]) (t := 25) ?hr ?_; (case hd => rfl); (case hg => rfl); (case hr => first | (go_simp; done) | (go_simp; rfl)); intro gb543 hg w14 hbox hb; have n0_ := Aside0.mk (blk_below (g := gb541) (o := .cells #[.slice A0_0 l0_0.length c0_0, .slice A0_1 l0_1.length c0_1] 25 (0, 0)) (by (with_reducible repeat (first | refine blk_drewN ?_ _ | refine blk_drew ?_ | refine blk_alloc ?_ _)); exact BK541.out) hb); have n1_ := Aside0.mk (blk_below (g := gb542) (o := .cells #[.slice A1_0 l1_0.length c1_0, .slice A1_1 l1_1.length c1_1] 25 (0, 0)) (by (with_reducible repeat (first | refine blk_drewN ?_ _ | refine blk_drew ?_ | refine blk_alloc ?_ _)); exact BK542.out) hb); have n2_ := Aside0.mk (below_step (by repeat (first | (with_reducible first | exact HB.out | apply below_alloc | apply pw_below_drewN | apply below_drew1 | refine below_set ?_ GE541.out | refine below_set ?_ GE542.out) | exact HB.out)) hb); have n3_ := Aside0.mk (hbox); have n4_ := Aside0.mk ((by rw [hg]; exact (below_size (by repeat (first | (with_reducible first | exact HB.out | apply below_alloc | apply pw_below_drewN | apply below_drew1 | refine below_set ?_ GE541.out | refine below_set ?_ GE542.out) | exact HB.out))) : w.heap.size ≤ gb543)); have n5_ := Aside0.mk ((by rw [hg]; exact (below_size (by repeat (first | (with_reducible first | exact HB.out | apply below_alloc | apply pw_below_drewN | apply below_drew1 | refine below_set ?_ GE541.out | refine below_set ?_ GE542.out) | exact HB.out))) : w.heap.size ≤ gb543)); have n6_ := Aside0.mk ((by rw [hg]; exact Nat.ne_of_lt (blk_lt (g := gb541) (o := .cells #[.slice A0_0 l0_0.length c0_0, .slice A0_1 l0_1.length c0_1] 25 (0, 0)) (by (with_reducible repeat (first | refine blk_drewN ?_ _ | refine blk_drew ?_ | refine blk_alloc ?_ _)); exact BK541.out)) : gb541 ≠ gb543)); have n7_ := Aside0.mk ((by rw [hg]; exact Nat.ne_of_gt (blk_lt (g := gb541) (o := .cells #[.slice A0_0 l0_0.length c0_0, .slice A0_1 l0_1.length c0_1] 25 (0, 0)) (by (with_reducible repeat (first | refine blk_drewN ?_ _ | refine blk_drew ?_ | refine blk_alloc ?_ _)); exact BK541.out)) : gb543 ≠ gb541)); have n8_ := Aside0.mk ((by rw [hg]; exact Nat.ne_of_lt (blk_lt (g := gb542) (o := .cells #[.slice A1_0 l1_0.length c1_0, .slice A1_1 l1_1.length c1_1] 25 (0, 0)) (by (with_reducible repeat (first | refine blk_drewN ?_ _ | refine blk_drew ?_ | refine blk_alloc ?_ _)); exact BK542.out)) : gb542 ≠ gb543)); have n9_ := Aside0.mk ((by rw [hg]; exact Nat.ne_of_gt (blk_lt (g := gb542) (o := .cells #[.slice A1_0 l1_0.length c1_0, .slice A1_1 l1_1.length c1_1] 25 (0, 0)) (by (with_reducible repeat (first | refine blk_drewN ?_ _ | refine blk_drew ?_ | refine blk_alloc ?_ _)); exact BK542.out)) : gb543 ≠ gb542)); clear BK541; clear BK542; clear HB; have BK541 := n0_; have BK542 := n1_; have HB := n2_; have BK543 := n3_; have GW543 := n4_; have GE543 := n5_; have NB541_543 := n6_; have NB543_541 := n7_; have NB542_543 := n8_; have NB543_542 := n9_; clear n0_ n1_ n2_ n3_ n4_ n5_ n6_ n7_ n8_ n9_; clear hb hbox hg; have hnb15 := NB541_542.out; have hnc15 := NB542_541.out; have hnb16 := NB541_543.out; have hnc16 := NB543_541.out; have hcz17_0 : w14.cell? ⟨gb541, 0, none⟩ = some (.slice A0_0 l0_0.length c0_0) := (blk_cell BK541.out 0).trans rfl; have hcz17_1 : w14.cell? ⟨gb541, 1, none⟩ = some (.slice A0_1 l0_1.length c0_1) := (blk_cell BK541.out 1).trans rfl; have hfz17_0 := blk_frozen BK541.out 0; have hfz17_1 := blk_frozen BK541.out 1; have hnb18 := NB542_543.out; have hnc18 := NB543_542.out; have hcz19_0 : w14.cell? ⟨gb542, 0, none⟩ = some (.slice A1_0 l1_0.length c1_0) := (blk_cell BK542.out 0).trans rfl; have hcz19_1 : w14.cell? ⟨gb542, 1, none⟩ = some (.slice A1_1 l1_1.length c1_1) := (blk_cell BK542.out 1).trans rfl; have hfz19_0 := blk_frozen BK542.out 0; have hfz19_1 := blk_frozen BK542.out 1) | ((with_reducible refine gate_callee (f := 39) rfl ?_); refine goesL_ (some 16) rfl rfl Tryd.func39 (by kernel_rfl) rfl #[.agg #[.slice A0_0 l0_0.length c0_0, .slice A0_1 l0_1.length c0_1], .agg #[.slice A1_0 l1_0.length c1_0, .slice A1_1 l1_1.length c1_1]] rfl (by (try simp only [List.map_toArray, List.map_cons, List.map_nil]); first | done | rfl | (simp only [List.length_drop, List.length_take]; rfl)) ?_; (with_reducible refine (rat_both.calls k _ _ l0_0 _ _ l0_1 _ _ l1_0 _ _ l1_1 t544 _ ?side1 ?side2 ?side3 ?side4 ?side5 ?side6 ?side7 ?side8 A3.out).mono ?_); (case side1 => repeat (first | exact (Kd.C_below HR0_0.out HB.out) | (with_reducible refine Kd.C_alloc ?_ _) | (with_reducible refine Kd.C_drewN ?_ _) | (with_reducible refine Kd.C_drew ?_))); (case side2 => exact HC0_0.out); (case side3 => repeat (first | exact (Kd.C_below HR0_1.out HB.out) | (with_reducible refine Kd.C_alloc ?_ _) | (with_reducible refine Kd.C_drewN ?_ _) | (with_reducible refine Kd.C_drew ?_))); (case side4 => exact HC0_1.out); (case side5 => repeat (first | exact (Kd.C_below HR1_0.out HB.out) | (with_reducible refine Kd.C_alloc ?_ _) | (with_reducible refine Kd.C_drewN ?_ _) | (with_reducible refine Kd.C_drew ?_))); (case side6 => exact HC1_0.out); (case side7 => repeat (first | exact (Kd.C_below HR1_1.out HB.out) | (with_reducible refine Kd.C_alloc ?_ _) | (with_reducible refine Kd.C_drewN ?_ _) | (with_reducible refine Kd.C_drew ?_))); (case side8 => exact HC1_1.out); rintro e w20 ⟨rfl, hb⟩; refine ⟨_, rfl, ?_⟩; have n0_ := Aside0.mk (blk_below (g := gb541) (o := .cells #[.slice A0_0 l0_0.length c0_0, .slice A0_1 l0_1.length c0_1] 25 (0, 0)) (by (with_reducible repeat (first | refine blk_drewN ?_ _ | refine blk_drew ?_ | refine blk_alloc ?_ _)); exact BK541.out) hb); have n1_ := Aside0.mk (blk_below (g := gb542) (o := .cells #[.slice A1_0 l1_0.length c1_0, .slice A1_1 l1_1.length c1_1] 25 (0, 0)) (by (with_reducible repeat (first | refine blk_drewN ?_ _ | refine blk_drew ?_ | refine blk_alloc ?_ _)); exact BK542.out) hb); have n2_ := Aside0.mk (blk_below (g := gb543) (o := .cells #[.slice none 0 0, .slice none 0 0] 25 (0, 0)) (by (with_reducible repeat (first | refine blk_drewN ?_ _ | refine blk_drew ?_ | refine blk_alloc ?_ _)); exact BK543.out) hb); have n3_ := Aside0.mk (below_step (by repeat (first | (with_reducible first | exact HB.out | apply below_alloc | apply pw_below_drewN | apply below_drew1 | refine below_set ?_ GE541.out | refine below_set ?_ GE542.out | refine below_set ?_ GE543.out) | exact HB.out)) hb); clear BK541; clear BK542; clear BK543; clear HB; have BK541 := n0_; have BK542 := n1_; have BK543 := n2_; have HB := n3_; clear n0_ n1_ n2_ n3_; (try clear hb); (try clear hb2); (try clear hk); (try clear hi); have hcz21_0 : w20.cell? ⟨gb541, 0, none⟩ = some (.slice A0_0 l0_0.length c0_0) := (blk_cell BK541.out 0).trans rfl; have hcz21_1 : w20.cell? ⟨gb541, 1, none⟩ = some (.slice A0_1 l0_1.length c0_1) := (blk_cell BK541.out 1).trans rfl; have hfz21_0 := blk_frozen BK541.out 0; have hfz21_1 := blk_frozen BK541.out 1; have hcz22_0 : w20.cell? ⟨gb542, 0, none⟩ = some (.slice A1_0 l1_0.length c1_0) := (blk_cell BK542.out 0).trans rfl; have hcz22_1 : w20.cell? ⟨gb542, 1, none⟩ = some (.slice A1_1 l1_1.length c1_1) := (blk_cell BK542.out 1).trans rfl; have hfz22_0 := blk_frozen BK542.out 0; have hfz22_1 := blk_frozen BK542.out 1) | ((with_reducible refine gate_callee (f := 35) rfl ?_); refine goesL_ (some 26) rfl rfl Tryd.func35 (by kernel_rfl) rfl #[.slice A0_1 l0_1.length c0_1, .slice A1_1 l1_1.length c1_1] rfl (by (try simp only [List.map_toArray, List.map_cons, List.map_nil]); first | done | rfl | (simp only [List.length_drop, List.length_take]; rfl)) ?_; (with_reducible refine (nat_Mul.calls k _ _ l0_1 _ _ l1_1 t545 t546 _ ?side1 ?side2 ?side3 ?side4 A5.out).mono ?_); (case side1 => repeat (first | exact (Kd.C_below HR0_1.out HB.out) | (with_reducible refine Kd.C_alloc ?_ _) | (with_reducible refine Kd.C_drewN ?_ _) | (with_reducible refine Kd.C_drew ?_))); (case side2 => exact HC0_1.out); (case side3 => repeat (first | exact (Kd.C_below HR1_1.out HB.out) | (with_reducible refine Kd.C_alloc ?_ _) | (with_reducible refine Kd.C_drewN ?_ _) | (with_reducible refine Kd.C_drew ?_))); (case side4 => exact HC1_1.out); rintro e w23 ⟨v547, rfl, ho0, hb⟩; refine ⟨_, rfl, ?_⟩; have n0_ := Aside0.mk (Kd.R_lower ho0 (below_size (by repeat (first | (with_reducible first | exact HB.out | apply below_alloc | apply pw_below_drewN | apply below_drew1 | refine below_set ?_ GE541.out | refine below_set ?_ GE542.out | refine below_set ?_ GE543.out) | exact HB.out)))); have n1_ := Aside0.mk (blk_below (g := gb541) (o := .cells #[.slice A0_0 l0_0.length c0_0, .slice A0_1 l0_1.length c0_1] 25 (0, 0)) (by (with_reducible repeat (first | refine blk_drewN ?_ _ | refine blk_drew ?_ | refine blk_alloc ?_ _)); exact BK541.out) hb); have n2_ := Aside0.mk (blk_below (g := gb542) (o := .cells #[.slice A1_0 l1_0.length c1_0, .slice A1_1 l1_1.length c1_1] 25 (0, 0)) (by (with_reducible repeat (first | refine blk_drewN ?_ _ | refine blk_drew ?_ | refine blk_alloc ?_ _)); exact BK542.out) hb); have n3_ := Aside0.mk (blk_below (g := gb543) (o := .cells #[.slice none 0 0, .slice none 0 0] 25 (0, 0)) (by (with_reducible repeat (first | refine blk_drewN ?_ _ | refine blk_drew ?_ | refine blk_alloc ?_ _)); exact BK543.out) hb); have n4_ := Aside0.mk (below_step (by repeat (first | (with_reducible first | exact HB.out | apply below_alloc | apply pw_below_drewN | apply below_drew1 | refine below_set ?_ GE541.out | refine below_set ?_ GE542.out | refine below_set ?_ GE543.out) | exact HB.out)) hb); clear BK541; clear BK542; clear BK543; clear HB; have HO548 := n0_; have BK541 := n1_; have BK542 := n2_; have BK543 := n3_; have HB := n4_; clear n0_ n1_ n2_ n3_ n4_; (try clear hb); (try clear hb2); (try clear hk); (try clear hi); (try clear ho0); have hcz24_0 : w23.cell? ⟨gb541, 0, none⟩ = some (.slice A0_0 l0_0.length c0_0) := (blk_cell BK541.out 0).trans rfl; have hcz24_1 : w23.cell? ⟨gb541, 1, none⟩ = some (.slice A0_1 l0_1.length c0_1) := (blk_cell BK541.out 1).trans rfl; have hfz24_0 := blk_frozen BK541.out 0; have hfz24_1 := blk_frozen BK541.out 1; have hcz25_0 : w23.cell? ⟨gb542, 0, none⟩ = some (.slice A1_0 l1_0.length c1_0) := (blk_cell BK542.out 0).trans rfl; have hcz25_1 : w23.cell? ⟨gb542, 1, none⟩ = some (.slice A1_1 l1_1.length c1_1) := (blk_cell BK542.out 1).trans rfl; have hfz25_0 := blk_frozen BK542.out 0; have hfz25_1 := blk_frozen BK542.out 1) | ((with_reducible refine gate_callee (f := 40) rfl ?_); refine goesL_ (some 36) rfl rfl Tryd.func40 (by kernel_rfl) rfl #[.agg #[.slice A0_0 l0_0.length c0_0, .slice A0_1 l0_1.length c0_1], .agg #[.slice A1_0 l1_0.length c1_0, .slice A1_1 l1_1.length c1_1]] rfl (by (try simp only [List.map_toArray, List.map_cons, List.map_nil]); first | done | rfl | (simp only [List.length_drop, List.length_take]; rfl)) ?_; (with_reducible refine (rat_cross.calls k _ _ l0_0 _ _ l0_1 _ _ l1_0 _ _ l1_1 t549 t552 t555 _ ?side1 ?side2 ?side3 ?side4 ?side5 ?side6 ?side7 ?side8 A7.out).mono ?_); (case side1 => repeat (first | exact (Kd.C_below HR0_0.out HB.out) | (with_reducible refine Kd.C_alloc ?_ _) | (with_reducible refine Kd.C_drewN ?_ _) | (with_reducible refine Kd.C_drew ?_))); (case side2 => exact HC0_0.out); (case side3 => repeat (first | exact (Kd.C_below HR0_1.out HB.out) | (with_reducible refine Kd.C_alloc ?_ _) | (with_reducible refine Kd.C_drewN ?_ _) | (with_reducible refine Kd.C_drew ?_))); (case side4 => exact HC0_1.out); (case side5 => repeat (first | exact (Kd.C_below HR1_0.out HB.out) | (with_reducible refine Kd.C_alloc ?_ _) | (with_reducible refine Kd.C_drewN ?_ _) | (with_reducible refine Kd.C_drew ?_))); (case side6 => exact HC1_0.out); (case side7 => repeat (first | exact (Kd.C_below HR1_1.out HB.out) | (with_reducible refine Kd.C_alloc ?_ _) | (with_reducible refine Kd.C_drewN ?_ _) | (with_reducible refine Kd.C_drew ?_))); (case side8 => exact HC1_1.out); rintro e w26 ⟨v550, v553, rfl, ho0, ho1, hb⟩; refine ⟨_, rfl, ?_⟩; have n0_ := Aside0.mk (Kd.R_mono (Kd.R_told (Kd.R_told (Kd.R_old (by (with_reducible repeat (first | apply Kd.R_alloc | apply Kd.R_drewN | apply Kd.R_drew)); exact HO548.out) hb) (Kd.R_base ho0)) (Kd.R_base ho1)) (fun _ h_ => h_.1)); have n1_ := Aside0.mk (Kd.R_lower (Kd.R_new' ho0 (Kd.R_lt (by (with_reducible repeat (first | apply Kd.R_alloc | apply Kd.R_drewN | apply Kd.R_drew)); exact HO548.out))) (below_size (by repeat (first | (with_reducible first | exact HB.out | apply below_alloc | apply pw_below_drewN | apply below_drew1 | refine below_set ?_ GE541.out | refine below_set ?_ GE542.out | refine below_set ?_ GE543.out) | exact HB.out)))); have n2_ := Aside0.mk (Kd.R_lower (Kd.R_new' ho1 (Kd.R_lt (by (with_reducible repeat (first | apply Kd.R_alloc | apply Kd.R_drewN | apply Kd.R_drew)); exact HO548.out))) (below_size (by repeat (first | (with_reducible first | exact HB.out | apply below_alloc | apply pw_below_drewN | apply below_drew1 | refine below_set ?_ GE541.out | refine below_set ?_ GE542.out | refine below_set ?_ GE543.out) | exact HB.out)))); have n3_ := Aside0.mk (blk_below (g := gb541) (o := .cells #[.slice A0_0 l0_0.length c0_0, .slice A0_1 l0_1.length c0_1] 25 (0, 0)) (by (with_reducible repeat (first | refine blk_drewN ?_ _ | refine blk_drew ?_ | refine blk_alloc ?_ _)); exact BK541.out) hb); have n4_ := Aside0.mk (blk_below (g := gb542) (o := .cells #[.slice A1_0 l1_0.length c1_0, .slice A1_1 l1_1.length c1_1] 25 (0, 0)) (by (with_reducible repeat (first | refine blk_drewN ?_ _ | refine blk_drew ?_ | refine blk_alloc ?_ _)); exact BK542.out) hb); have n5_ := Aside0.mk (blk_below (g := gb543) (o := .cells #[.slice none 0 0, .slice none 0 0] 25 (0, 0)) (by (with_reducible repeat (first | refine blk_drewN ?_ _ | refine blk_drew ?_ | refine blk_alloc ?_ _)); exact BK543.out) hb); have n6_ := Aside0.mk (below_step (by repeat (first | (with_reducible first | exact HB.out | apply below_alloc | apply pw_below_drewN | apply below_drew1 | refine below_set ?_ GE541.out | refine below_set ?_ GE542.out | refine below_set ?_ GE543.out) | exact HB.out)) hb); clear HO548; clear BK541; clear BK542; clear BK543; clear HB; have HO548 := n0_; have HO551 := n1_; have HO554 := n2_; have BK541 := n3_; have BK542 := n4_; have BK543 := n5_; have HB := n6_; clear n0_ n1_ n2_ n3_ n4_ n5_ n6_; (try clear hb); (try clear hb2); (try clear hk); (try clear hi); (try clear ho0); (try clear ho1); obtain ⟨Ao27, co27, eo27⟩ := Kd.R_slice HO551.out; subst eo27; obtain ⟨Ao28, co28, eo28⟩ := Kd.R_slice HO554.out; subst eo28) | (go_at_call 24; (with_reducible refine (nat_Add.calls k _ _ t549 _ _ t552 t556 t557 _ ?side1 ?side2 ?side3 ?side4 A9.out).mono ?_); (case side1 => repeat (first | exact (Kd.R_reads' HO551.out).2.2 | (with_reducible refine Kd.C_alloc ?_ _) | (with_reducible refine Kd.C_drewN ?_ _) | (with_reducible refine Kd.C_drew ?_))); (case side2 => exact (Kd.R_reads' HO551.out).2.1); (case side3 => repeat (first | exact (Kd.R_reads' HO554.out).2.2 | (with_reducible refine Kd.C_alloc ?_ _) | (with_reducible refine Kd.C_drewN ?_ _) | (with_reducible refine Kd.C_drew ?_))); (case side4 => exact (Kd.R_reads' HO554.out).2.1); rintro e w29 ⟨v558, rfl, ho0, hb⟩; have n0_ := Aside0.mk (Kd.R_elder' (by (with_reducible repeat (first | apply Kd.R_alloc | apply Kd.R_drewN | apply Kd.R_drew)); exact HO548.out) (Kd.R_base ho0) hb); have n1_ := Aside0.mk (Kd.R_elder' (by (with_reducible repeat (first | apply Kd.R_alloc | apply Kd.R_drewN | apply Kd.R_drew)); exact HO551.out) (Kd.R_base ho0) hb); have n2_ := Aside0.mk (Kd.R_elder' (by (with_reducible repeat (first | apply Kd.R_alloc | apply Kd.R_drewN | apply Kd.R_drew)); exact HO554.out) (Kd.R_base ho0) hb); have n3_ := Aside0.mk (Kd.R_lower (Kd.R_new' (Kd.R_new' (Kd.R_new' ho0 (Kd.R_lt (by (with_reducible repeat (first | apply Kd.R_alloc | apply Kd.R_drewN | apply Kd.R_drew)); exact HO548.out))) (Kd.R_lt (by (with_reducible repeat (first | apply Kd.R_alloc | apply Kd.R_drewN | apply Kd.R_drew)); exact HO551.out))) (Kd.R_lt (by (with_reducible repeat (first | apply Kd.R_alloc | apply Kd.R_drewN | apply Kd.R_drew)); exact HO554.out))) (below_size (by repeat (first | (with_reducible first | exact HB.out | apply below_alloc | apply pw_below_drewN | apply below_drew1 | refine below_set ?_ GE541.out | refine below_set ?_ GE542.out | refine below_set ?_ GE543.out) | exact HB.out)))); have n4_ := Aside0.mk (blk_below (g := gb541) (o := .cells #[.slice A0_0 l0_0.length c0_0, .slice A0_1 l0_1.length c0_1] 25 (0, 0)) (by (with_reducible repeat (first | refine blk_drewN ?_ _ | refine blk_drew ?_ | refine blk_alloc ?_ _)); exact BK541.out) hb); have n5_ := Aside0.mk (blk_below (g := gb542) (o := .cells #[.slice A1_0 l1_0.length c1_0, .slice A1_1 l1_1.length c1_1] 25 (0, 0)) (by (with_reducible repeat (first | refine blk_drewN ?_ _ | refine blk_drew ?_ | refine blk_alloc ?_ _)); exact BK542.out) hb); have n6_ := Aside0.mk (blk_below (g := gb543) (o := .cells #[.slice none 0 0, .slice none 0 0] 25 (0, 0)) (by (with_reducible repeat (first | refine blk_drewN ?_ _ | refine blk_drew ?_ | refine blk_alloc ?_ _)); exact BK543.out) hb); have n7_ := Aside0.mk (below_step (by repeat (first | (with_reducible first | exact HB.out | apply below_alloc | apply pw_below_drewN | apply below_drew1 | refine below_set ?_ GE541.out | refine below_set ?_ GE542.out | refine below_set ?_ GE543.out) | exact HB.out)) hb); clear HO548; clear HO551; clear HO554; clear BK541; clear BK542; clear BK543; clear HB; have HO548 := n0_; have HO551 := n1_; have HO554 := n2_; have HO559 := n3_; have BK541 := n4_; have BK542 := n5_; have BK543 := n6_; have HB := n7_; clear n0_ n1_ n2_ n3_ n4_ n5_ n6_ n7_; (try clear hb); (try clear hb2); (try clear hk); (try clear hi); (try clear ho0); obtain ⟨Ao30, co30, eo30⟩ := Kd.R_slice HO559.out; subst eo30; obtain ⟨Ao31, co31, eo31⟩ := Kd.R_slice HO548.out; subst eo31) | ((with_reducible refine gate_callee (f := 49) rfl ?_); refine goesL_ (some 57) rfl rfl Tryd.func49 (by kernel_rfl) rfl #[.slice Ao30 t556.length co30, .slice Ao31 t545.length co31] rfl (by (try simp only [List.map_toArray, List.map_cons, List.map_nil]); first | done | rfl | (simp only [List.length_drop, List.length_take]; rfl)) ?_; (with_reducible refine (rat_reduce.calls k _ _ t556 _ _ t545 t560 t563 _ ?side1 ?side2 ?side3 ?side4 A11.out).mono ?_); (case side1 => repeat (first | exact (Kd.R_reads' HO559.out).2.2 | (with_reducible refine Kd.C_alloc ?_ _) | (with_reducible refine Kd.C_drewN ?_ _) | (with_reducible refine Kd.C_drew ?_))); (case side2 => exact (Kd.R_reads' HO559.out).2.1); (case side3 => repeat (first | exact (Kd.R_reads' HO548.out).2.2 | (with_reducible refine Kd.C_alloc ?_ _) | (with_reducible refine Kd.C_drewN ?_ _) | (with_reducible refine Kd.C_drew ?_))); (case side4 => exact (Kd.R_reads' HO548.out).2.1); rintro e w32 ⟨v561, v564, rfl, ho0, ho1, hb⟩; refine ⟨_, rfl, ?_⟩; have n0_ := Aside0.mk (Kd.R_mono (Kd.R_told (Kd.R_told (Kd.R_old (by (with_reducible repeat (first | apply Kd.R_alloc | apply Kd.R_drewN | apply Kd.R_drew)); exact HO548.out) hb) (Kd.R_base ho0)) (Kd.R_base ho1)) (fun _ h_ => h_.1)); have n1_ := Aside0.mk (Kd.R_mono (Kd.R_told (Kd.R_told (Kd.R_old (by (with_reducible repeat (first | apply Kd.R_alloc | apply Kd.R_drewN | apply Kd.R_drew)); exact HO551.out) hb) (Kd.R_base ho0)) (Kd.R_base ho1)) (fun _ h_ => h_.1)); have n2_ := Aside0.mk (Kd.R_mono (Kd.R_told (Kd.R_told (Kd.R_old (by (with_reducible repeat (first | apply Kd.R_alloc | apply Kd.R_drewN | apply Kd.R_drew)); exact HO554.out) hb) (Kd.R_base ho0)) (Kd.R_base ho1)) (fun _ h_ => h_.1)); have n3_ := Aside0.mk (Kd.R_mono (Kd.R_told (Kd.R_told (Kd.R_old (by (with_reducible repeat (first | apply Kd.R_alloc | apply Kd.R_drewN | apply Kd.R_drew)); exact HO559.out) hb) (Kd.R_base ho0)) (Kd.R_base ho1)) (fun _ h_ => h_.1)); have n4_ := Aside0.mk (Kd.R_lower (Kd.R_new' (Kd.R_new' (Kd.R_new' (Kd.R_new' ho0 (Kd.R_lt (by (with_reducible repeat (first | apply Kd.R_alloc | apply Kd.R_drewN | apply Kd.R_drew)); exact HO548.out))) (Kd.R_lt (by (with_reducible repeat (first | apply Kd.R_alloc | apply Kd.R_drewN | apply Kd.R_drew)); exact HO551.out))) (Kd.R_lt (by (with_reducible repeat (first | apply Kd.R_alloc | apply Kd.R_drewN | apply Kd.R_drew)); exact HO554.out))) (Kd.R_lt (by (with_reducible repeat (first | apply Kd.R_alloc | apply Kd.R_drewN | apply Kd.R_drew)); exact HO559.out))) (below_size (by repeat (first | (with_reducible first | exact HB.out | apply below_alloc | apply pw_below_drewN | apply below_drew1 | refine below_set ?_ GE541.out | refine below_set ?_ GE542.out | refine below_set ?_ GE543.out) | exact HB.out)))); have n5_ := Aside0.mk (Kd.R_lower (Kd.R_new' (Kd.R_new' (Kd.R_new' (Kd.R_new' ho1 (Kd.R_lt (by (with_reducible repeat (first | apply Kd.R_alloc | apply Kd.R_drewN | apply Kd.R_drew)); exact HO548.out))) (Kd.R_lt (by (with_reducible repeat (first | apply Kd.R_alloc | apply Kd.R_drewN | apply Kd.R_drew)); exact HO551.out))) (Kd.R_lt (by (with_reducible repeat (first | apply Kd.R_alloc | apply Kd.R_drewN | apply Kd.R_drew)); exact HO554.out))) (Kd.R_lt (by (with_reducible repeat (first | apply Kd.R_alloc | apply Kd.R_drewN | apply Kd.R_drew)); exact HO559.out))) (below_size (by repeat (first | (with_reducible first | exact HB.out | apply below_alloc | apply pw_below_drewN | apply below_drew1 | refine below_set ?_ GE541.out | refine below_set ?_ GE542.out | refine below_set ?_ GE543.out) | exact HB.out)))); have n6_ := Aside0.mk (blk_below (g := gb541) (o := .cells #[.slice A0_0 l0_0.length c0_0, .slice A0_1 l0_1.length c0_1] 25 (0, 0)) (by (with_reducible repeat (first | refine blk_drewN ?_ _ | refine blk_drew ?_ | refine blk_alloc ?_ _)); exact BK541.out) hb); have n7_ := Aside0.mk (blk_below (g := gb542) (o := .cells #[.slice A1_0 l1_0.length c1_0, .slice A1_1 l1_1.length c1_1] 25 (0, 0)) (by (with_reducible repeat (first | refine blk_drewN ?_ _ | refine blk_drew ?_ | refine blk_alloc ?_ _)); exact BK542.out) hb); have n8_ := Aside0.mk (blk_below (g := gb543) (o := .cells #[.slice none 0 0, .slice none 0 0] 25 (0, 0)) (by (with_reducible repeat (first | refine blk_drewN ?_ _ | refine blk_drew ?_ | refine blk_alloc ?_ _)); exact BK543.out) hb); have n9_ := Aside0.mk (below_step (by repeat (first | (with_reducible first | exact HB.out | apply below_alloc | apply pw_below_drewN | apply below_drew1 | refine below_set ?_ GE541.out | refine below_set ?_ GE542.out | refine below_set ?_ GE543.out) | exact HB.out)) hb); clear HO548; clear HO551; clear HO554; clear HO559; clear BK541; clear BK542; clear BK543; clear HB; have HO548 := n0_; have HO551 := n1_; have HO554 := n2_; have HO559 := n3_; have HO562 := n4_; have HO565 := n5_; have BK541 := n6_; have BK542 := n7_; have BK543 := n8_; have HB := n9_; clear n0_ n1_ n2_ n3_ n4_ n5_ n6_ n7_ n8_ n9_; (try clear hb); (try clear hb2); (try clear hk); (try clear hi); (try clear ho0); (try clear ho1); obtain ⟨Ao33, co33, eo33⟩ := Kd.R_slice HO562.out; subst eo33; have hcz34_0 : w32.cell? ⟨gb543, 0, none⟩ = some (.slice none 0 0) := (blk_cell BK543.out 0).trans rfl; have hcz34_1 : w32.cell? ⟨gb543, 1, none⟩ = some (.slice none 0 0) := (blk_cell BK543.out 1).trans rfl; have hfz34_0 := blk_frozen BK543.out 0; have hfz34_1 := blk_frozen BK543.out 1; obtain ⟨Ao35, co35, eo35⟩ := Kd.R_slice HO565.out; subst eo35))
          refine bodyPost_ret (results_ct rfl _ _ gb543 25 #[.slice Ao33 t560.length co33, .slice Ao35 t563.length co35] (0, 0) _ rfl (by (with_reducible repeat (first | refine blk_drewN ?_ _ | refine blk_drew ?_ | refine blk_alloc ?_ _)); refine blk_put (cs := #[.slice Ao33 t560.length co33, .slice none 0 0]) ?_ 1 _ rfl; (with_reducible repeat (first | refine blk_drewN ?_ _ | refine blk_drew ?_ | refine blk_alloc ?_ _)); refine blk_put (cs := #[.slice none 0 0, .slice none 0 0]) ?_ 0 _ rfl; (with_reducible repeat (first | refine blk_drewN ?_ _ | refine blk_drew ?_ | refine blk_alloc ?_ _)); exact BK543.out) Tryd.underlying25 rfl (by kernel_rfl)) rfl ?_
          exact ⟨_, _, by first | rfl | (simp [errW_none, errW_some] <;> rfl) | (simp [*, errW_none, errW_some] <;> rfl), by (with_reducible repeat (first | apply Kd.R_alloc | apply Kd.R_drewN | apply Kd.R_drew)); exact Kd.R_mono (Kd.R_far (p := ⟨gb543, 1, none⟩) (Kd.R_far (p := ⟨gb543, 0, none⟩) (Kd.R_types HO562.out BK543.out (by decide)) (fun _ hk => hk.2) (.slice Ao33 t560.length co33)) (fun _ hk => hk.2) (.slice Ao35 t563.length co35)) (fun _ hk => hk.1.1.1.1.1), by (with_reducible repeat (first | apply Kd.R_alloc | apply Kd.R_drewN | apply Kd.R_drew)); exact Kd.R_mono (Kd.R_far (p := ⟨gb543, 1, none⟩) (Kd.R_far (p := ⟨gb543, 0, none⟩) (Kd.R_types HO565.out BK543.out (by decide)) (fun _ hk => hk.2) (.slice Ao33 t560.length co33)) (fun _ hk => hk.2) (.slice Ao35 t563.length co35)) (fun _ hk => hk.1.1.1.1.1), by repeat (first | (with_reducible first | exact HB.out | apply below_alloc | apply pw_below_drewN | apply below_drew1 | refine below_set ?_ GE541.out | refine below_set ?_ GE542.out | refine below_set ?_ GE543.out) | exact HB.out)⟩
        · rw [if_neg c10] at H
          exact absurd H (by simp)
      · rw [if_neg c8] at H
        exact absurd H (by simp)
    · rw [if_neg c6] at H
      exact absurd H (by simp)
  · rw [if_neg c4] at H
    exact absurd H (by simp)

end Go.Proofs.YtamhiecepipnjaaDoor.GApproxTwice
