import Derived.Test.YthfkhnoehehpmaaGreatAo
import Derived.RowKit3
set_option linter.unusedVariables false
set_option linter.unusedSimpArgs false
/- FROM A CONTRACT TO WHAT A ROW ASKS. -/
namespace Go.Ab
open Go.RowKit
section
variable {P : Program} {L : Lay}

theorem grown_of {w w' : World} {ob ob' : Nat → Option OI} {S' : Nat → Prop} {wr : List (Nat × Ob)} (d : Does P L w ob (fun b => b < w.heap.size) wr w' ob' S') : Grown w w' := by
  refine ⟨⟨d.same.os, d.same.out, fun i hi => ?_⟩, d.same.frozen, d.size⟩
  rw [d.keepS i hi]
  exact (World.keptBut_refl w (fun _ => False)).2.2 i hi

/-- at the start: nothing is known of what there is, but that it stays -/
theorem rs_start (w : World) : RS P L (fun b => w.heap.size ≤ b) (fun _ => none) (fun _ => none) (fun _ => True) #[] w (fun _ => none) (fun b => b < w.heap.size) :=
  ⟨fun _ _ h => (nomatch h), fun _ _ h => (nomatch h), fun _ _ _ _ _ h => (nomatch h), fun _ _ _ h => (nomatch h), fun _ h => h, fun _ _ => rfl, fun _ h => h⟩

theorem calls_of {f : FuncId} {fn : Func} {c : Code} (hf : P.funcs[f]? = some fn) (hname : (fn.name == "runtime.NumGoroutine") = false) (hb : fn.body = some c) {vs : List A} {args : List Value} {δ : Dl} (h : CallD P L f vs (fun _ => none) 0 δ) (w : World)
    (ha : RVl P w (fun _ => none) (fun b => b < w.heap.size) vs args) : Calls P f args.toArray w fun e w' => ∃ v ob' S', e = .returned v ∧ Grown w w' ∧ RV P w' ob' S' δ.v v := by
  rcases h (fun _ => none) (fun _ _ => rfl) _ _ w _ _ args (rs_start w) (fun _ _ _ => trivial) ha with ⟨v, w', ob', S', h1, -⟩ | ⟨-, h2⟩
  · rw [callFunc_enter hf hname hb] at h1; cases h1
  · exact h2.mono fun e w' ⟨v, ob', S', h3, h4, h5, h6⟩ => ⟨v, ob', S', h3, grown_of h4, h5⟩

theorem calls_true {f : FuncId} {fn : Func} {c : Code} (hf : P.funcs[f]? = some fn) (hname : (fn.name == "runtime.NumGoroutine") = false) (hb : fn.body = some c) {vs : List A} {args : List Value} {wr : List (Nat × Ob)} {rd : List Nat} {nw : Nat} (h : CallD P L f vs (fun _ => none) 0 ⟨.bool true, wr, rd, nw⟩) (w : World)
    (ha : RVl P w (fun _ => none) (fun b => b < w.heap.size) vs args) : Calls P f args.toArray w fun e w' => e = .returned (.bool true) ∧ Grown w w' :=
  (calls_of hf hname hb h w ha).mono fun e w' ⟨v, ob', S', h1, h2, h3⟩ => by
    have : v = .bool true := by
      have h4 := (RV1.leaf (P := P) (w := w') (ob := ob') (S := S') (x := .bool true) h3 rfl).2.1
      simpa [RC] using h4
    rw [h1, this]; exact ⟨rfl, h2⟩

theorem rvl_int {w : World} {ob : Nat → Option OI} {S : Nat → Prop} {k : IntKind} {n : Int} {vs : List A} {args : List Value} (hk : k.wrap n = n) (h : RVl P w ob S vs args) : RVl P w ob S (.int k n :: vs) (.int k n :: args) := by
  have h1 := RV1.int (P := P) (w := w) (ob := ob) (S := S) (k := k) (n := n) (v := .int k n) |>.2 ⟨rfl, hk⟩
  exact ⟨_, _, rfl, h1.1, h1.2, h⟩

end
end Go.Ab
