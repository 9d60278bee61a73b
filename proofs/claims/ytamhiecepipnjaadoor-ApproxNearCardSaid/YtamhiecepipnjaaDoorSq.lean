/- Short names for scripts that a print says over and over: each tries its script where it is named (a default that is tried). -/
import Derived.Test.YtamhiecepipnjaaDoorWLast
import Derived.Test.YtamhiecepipnjaaDoorWTab
import Derived.Test.YtamhiecepipnjaaDoorWMore
import Derived.Test.YtamhiecepipnjaaDoorWInv
import Derived.Test.YtamhiecepipnjaaDoorWFoot
set_option linter.unusedVariables false
namespace Go.Proofs.YtamhiecepipnjaaDoorW.PrintWords
open Go Go.RowKit
namespace Kd
/-- A row of floats. -/
abbrev float : Kd Nat := scalar (Value.float .f64) (fun _ => rfl)
theorem heap_float : Heap Kd.float := ⟨fun _ h => h⟩
theorem at_float {w : World} {A : Option Addr} {n : Nat} {xs : List Nat} (h : Kd.float.C w A n xs) (i : Int) (h0 : 0 ≤ i) (h1 : i < n) : ∃ ad, A = some ad ∧ w.cell? (ad.add i.toNat) = some (.float .f64 (rdOf (0 : Nat) xs i)) :=
  ReadsOf.at_ (reads_of_C (enc := Value.float .f64) (d := (0 : Nat)) (h1 := fun _ => rfl) h) i h0 h1
end Kd
theorem qB {B : Nat} {w w' : World} (h : Below B w w' := by repeat (first | (with_reducible first | exact HB.out | apply below_alloc | apply pw_below_drewN | apply below_drew1) | exact HB.out)) : Below B w w' := h
theorem qG {B n g : Nat} {w w' : World} (G : n ≤ g) (h : n ≤ g → Below B w w' := by intro G_; repeat (first | (with_reducible first | exact HB.out | apply below_alloc | apply pw_below_drewN | apply below_drew1 | refine below_set ?_ G_) | exact HB.out)) : Below B w w' := h G
theorem qR {P Q : Prop} (p : P) (h : P → Q := by intro P_; (with_reducible repeat (first | apply Kd.R_alloc | apply Kd.R_drewN | apply Kd.R_drew)); exact P_) : Q := h p
theorem qV {P Q : Prop} (p : P) (h : P → Q := by intro P_; (with_reducible repeat (first | apply Kd.V_alloc | apply Kd.V_drewN | apply Kd.V_drew)); exact P_) : Q := h p
theorem qK {P Q : Prop} (p : P) (h : P → Q := by intro P_; (with_reducible repeat (first | refine blk_drewN ?_ _ | refine blk_drew ?_ | refine blk_alloc ?_ _)); exact P_) : Q := h p
theorem qC {P Q : Prop} (p : P) (h : P → Q := by intro P_; repeat (first | exact P_ | (with_reducible refine Kd.C_alloc ?_ _) | (with_reducible refine Kd.C_drewN ?_ _) | (with_reducible refine Kd.C_drew ?_))) : Q := h p
theorem qL {Q : Prop} (h : Q := by (try simp only [List.map_toArray, List.map_cons, List.map_nil]); first | done | rfl | (simp only [List.length_drop, List.length_take]; rfl)) : Q := h
theorem qZ {g : Nat} {w w' : World} (hg : g = w'.heap.size) (h : Below w.heap.size w w' := by exact qB) : w.heap.size ≤ g := by rw [hg]; exact below_size h
theorem qA {Q : Prop} (h : Q := by first | (with_reducible assumption) | assumption) : Q := h
end Go.Proofs.YtamhiecepipnjaaDoorW.PrintWords
namespace Go.Proofs.YtamhiecepipnjaaDoorW.PrintLast
open Go Go.RowKit
theorem qP {P : Program} {ops : Array Oper} {Q : Exit → Act → World → Prop} {md : Region.Mode} {S : World → Prop} {ds : List Nat} (i : Nat) (N : Option Tmp) {oi : Oper} {v : Value} {fuel : Nat} {l l' : Array Bool} {a a' : Act} {w : World}
    (h : wpAnyLast P md ops Q S ds fuel l' a' w) (hi : ops[i]? = some oi := by rfl) (hN : oi.dst = N := by rfl)
    (hl : l.setIfInBounds i true = l' := by (simp only [List.setIfInBounds_toArray, List.set_cons_zero, List.set_cons_succ]; rfl)) (hc : anyB md ops l l' i = true := by exact any_of HT_.out (by kernel_rfl))
    (hw : Region.wanted oi (yielded ops a.tmps) = true := by rfl) (hy : ∀ w, (execOp a.eval oi).run P w = .ok (.value v) w := by (intro w'; go_simp; with_reducible rfl))
    (ha : a.put N v = a' := by (simp only [Act.put, List.setIfInBounds_toArray, List.set_cons_zero, List.set_cons_succ, i64_w, i32_w]; rfl))
    (hQ : ∀ c a w, Q (.panic c) (a.put oi.dst v) w → Q (.panic c) a w := by exact fun _ _ _ h => h) : wpAnyLast P md ops Q S ds (fuel + 1) l a w :=
  pure_ l' hi hN hc hQ (Or.inl ⟨hw, hy⟩) ha h
theorem qU {P : Program} {ops : Array Oper} {Q : Exit → Act → World → Prop} {md : Region.Mode} {S : World → Prop} {ds : List Nat} (i : Nat) (N : Option Tmp) {oi : Oper} {fuel : Nat} {l l' : Array Bool} {a a' : Act} {w : World}
    (h : wpAnyLast P md ops Q S ds fuel l' a' w) (hi : ops[i]? = some oi := by rfl) (hN : oi.dst = N := by rfl)
    (hl : l.setIfInBounds i true = l' := by (simp only [List.setIfInBounds_toArray, List.set_cons_zero, List.set_cons_succ]; rfl)) (hc : anyB md ops l l' i = true := by exact any_of HT_.out (by kernel_rfl))
    (hw : Region.wanted oi (yielded ops a.tmps) = false := by rfl)
    (ha : a.put N undef = a' := by (simp only [Act.put, List.setIfInBounds_toArray, List.set_cons_zero, List.set_cons_succ, i64_w, i32_w]; rfl))
    (hQ : ∀ c a w, Q (.panic c) (a.put oi.dst undef) w → Q (.panic c) a w := by exact fun _ _ _ h => h) : wpAnyLast P md ops Q S ds (fuel + 1) l a w :=
  pure_ l' hi hN hc hQ (Or.inr ⟨hw, rfl⟩) ha h
end Go.Proofs.YtamhiecepipnjaaDoorW.PrintLast
