import Derived.Test.YthfkhnoehehpmaaGreatAo
import Derived.RowKit3
set_option linter.unusedVariables false
set_option linter.unusedSimpArgs false
/- FROM A CONTRACT TO WHAT A ROW ASKS. -/
namespace Go.Ab
open Go.RowKit
section
variable {P : Program} {L : Lay}

theorem grown_of {w w' : World} {ob ob' : Nat → Option OI} {S' : Nat → Prop} {wr : List (Nat × Ob)} (d : Does P L w ob (fun b => b < w.heap.size) wr w' ob' S') : Grown w w' := by
  refine ⟨⟨d.same.os, d.same.out, fun i hi => ?_⟩, d.same.frozen, d.size⟩
  rw [d.keepS i hi]
  exact (World.keptBut_refl w (fun _ => False)).2.2 i hi

/-- at the start: nothing is known of what there is, but that it stays -/
theorem rs_start (w : World) : RS P L (fun b => w.heap.size ≤ b) (fun _ => none) (fun _ => none) (fun _ => True) #[] w (fun _ => none) (fun b => b < w.heap.size) :=
  ⟨fun _ _ h => (nomatch h), fun _ _ h => (nomatch h), fun _ _ _ _ _ h => (nomatch h), fun _ _ _ h => (nomatch h), fun _ h => h, fun _ _ => rfl, fun _ h => h⟩

theorem calls_of {f : FuncId} {fn : Func} {c : Code} (hf : P.funcs[f]? = some fn) (hname : (fn.name == "runtime.NumGoroutine") = false) (hb : fn.body = some c) {vs : List A} {args : List Value} {δ : Dl} (h : CallD P L f vs (fun _ => none) 0 δ) (w : World)
    (ha : RVl P w (fun _ => none) (fun b => b < w.heap.size) vs args) : Calls P f args.toArray w fun e w' => ∃ v ob' S', e = .returned v ∧ Grown w w' ∧ RV P w' ob' S' δ.v v := by
  rcases h (fun _ => none) (fun _ _ => rfl) _ _ w _ _ args (rs_start w) (fun _ _ _ => trivial) ha with ⟨v, w', ob', S', h1, -⟩ | ⟨-, h2⟩
  · rw [callFunc_enter hf hname hb] at h1; cases h1
  · exact h2.mono fun e w' ⟨v, ob', S', h3, h4, h5, h6⟩ => ⟨v, ob', S', h3, grown_of h4, h5⟩

theorem calls_true {f : FuncId} {fn : Func} {c : Code} (hf : P.funcs[f]? = some fn) (hname : (fn.name == "runtime.NumGoroutine") = false) (hb : fn.body = some c) {vs : List A} {args : List Value} {wr : List (Nat × Ob)} {rd : List Nat} {nw : Nat} (h : CallD P L f vs (fun _ => none) 0 ⟨.bool true, wr, rd, nw⟩) (w : World)
    (ha : RVl P w (fun _ => none) (fun b => b < w.heap.size) vs args) : Calls P f args.toArray w fun e w' => e = .returned (.bool true) ∧ Grown w w' :=
  (calls_of hf hname hb h w ha).mono fun e w' ⟨v, ob', S', h1, h2, h3⟩ => by
    have : v = .bool true := by
      have h4 := (RV1.leaf (P := P) (w := w') (ob := ob') (S := S') (x := .bool true) h3 rfl).2.1
      simpa [RC] using h4
    rw [h1, this]; exact ⟨rfl, h2⟩

theorem rvl_int {w : World} {ob : Nat → Option OI} {S : Nat → Prop} {k : IntKind} {n : Int} {vs : List A} {args : List Value} (hk : k.wrap n = n) (h : RVl P w ob S vs args) : RVl P w ob S (.int k n :: vs) (.int k n :: args) := by
  have h1 := RV1.int (P := P) (w := w) (ob := ob) (S := S) (k := k) (n := n) (v := .int k n) |>.2 ⟨rfl, hk⟩
  exact ⟨_, _, rfl, h1.1, h1.2, h⟩

end
end Go.Ab

/- A LIST OF NUMBERS THAT CAME IN. -/
namespace Go.Ab
section
variable {P : Program}

theorem rcs_ints {w : World} {ob : Nat → Option OI} {S : Nat → Prop} {k : IntKind} : ∀ (zs : List Int), (∀ n ∈ zs, k.wrap n = n) → RCs P w ob S (zs.map fun n => A.int k n) (zs.map fun n => Value.int k n)
  | [], _ => rfl
  | z :: zs, h => ⟨[.int k z], zs.map fun n => .int k n, rfl, ⟨rfl, h z List.mem_cons_self⟩, rcs_ints zs fun n hn => h n (List.mem_cons_of_mem _ hn)⟩

theorem run_cells {w : World} {b off : Nat} {vs : List Value} (h0 : vs ≠ []) (h : ∀ i v, vs[i]? = some v → w.cell? ⟨b, off + i, none⟩ = some v) : World.run w b off vs := by
  have cellE : ∀ i v, w.cell? ⟨b, i, none⟩ = some v → ∃ arr t fz, w.heap[b]? = some (.cells arr t fz) ∧ arr[i]? = some v := by
    intro i v hv
    unfold World.cell? at hv
    cases hb : w.heap[b]? with
    | none => simp [hb] at hv
    | some o =>
      cases o with
      | cells arr t fz => exact ⟨arr, t, fz, rfl, by simpa [hb] using hv⟩
      | _ => simp [hb] at hv
  cases vs with
  | nil => exact absurd rfl h0
  | cons v0 l =>
    obtain ⟨arr, t, fz, h1, h2⟩ := cellE _ _ (h 0 v0 rfl)
    refine ⟨arr, t, fz, h1, arr.toList.take off, arr.toList.drop (off + (v0 :: l).length), ?_, ?_⟩
    · have hall : ∀ i v, (v0 :: l)[i]? = some v → arr.toList[off + i]? = some v := fun i v hv => by
        obtain ⟨arr', t', fz', g1, g2⟩ := cellE _ _ (h i v hv)
        rw [h1] at g1; cases g1
        simpa using g2
      have hmid : (arr.toList.drop off).take (v0 :: l).length = v0 :: l := by
        refine List.ext_getElem? fun i => ?_
        by_cases hi : i < (v0 :: l).length
        · rw [List.getElem?_take_of_lt hi, List.getElem?_drop, List.getElem?_eq_getElem hi]
          exact hall i _ (List.getElem?_eq_getElem hi)
        · rw [List.getElem?_eq_none (by simp at hi ⊢; omega), List.getElem?_eq_none (by simpa using hi)]
      rw [List.append_assoc]
      conv => lhs; rw [← List.take_append_drop off arr.toList]
      congr 1
      conv => lhs; rw [← List.take_append_drop (v0 :: l).length (arr.toList.drop off), hmid, List.drop_drop]
    · have : off < arr.toList.length := by
        have := (Array.getElem?_eq_some_iff.1 h2).1
        simpa using this
      simp; simp at this; omega

theorem rvl_sl {w : World} {ob : Nat → Option OI} {k : IntKind} {e : TypeId} {b off cap : Nat} {zs : List Int} {vs : List A} {args : List Value} (hk : ∀ n ∈ zs, k.wrap n = n) (hcap : zs.length ≤ cap) (hb : zs.length * P.bytesOf e ≤ maxBytes) (hb1 : zs.length ≤ maxBytes) (he : P.cellsOf e = 1)
    (hc : ∀ i, i < zs.length → w.cell? ⟨b, off + i, none⟩ = some (.int k (zs.getD i 0))) (h : RVl P w ob (fun b => b < w.heap.size) vs args) :
    RVl P w ob (fun b => b < w.heap.size) (.sl e (zs.map fun n => A.int k n) :: vs) (.slice (some ⟨b, off, none⟩) zs.length cap :: args) := by
  refine ⟨_, _, rfl, ⟨some ⟨b, off, none⟩, cap, by simp [Value.cells], by rw [List.length_map]; exact hcap, by rw [List.length_map]; exact hb, by rw [List.length_map]; exact hb1, fun x hx => ?_, ?_⟩, by simp [A.isSt], h⟩
  · obtain ⟨n, _, rfl⟩ := List.mem_map.1 hx
    exact he.symm
  · by_cases h0 : zs = []
    · left; rw [h0]; rfl
    · right
      have hne : (zs.map fun n => Value.int k n) ≠ [] := fun h => h0 (List.map_eq_nil_iff.1 h)
      have hr := run_cells (w := w) (b := b) (off := off) hne (fun i v hv => by
        rw [List.getElem?_map] at hv
        cases hz : zs[i]? with
        | none => rw [hz] at hv; cases hv
        | some z =>
          rw [hz] at hv
          have hi := (List.getElem?_eq_some_iff.1 hz).1
          have := hc i hi
          rw [List.getD_eq_getElem?_getD, hz] at this
          cases hv; exact this)
      refine ⟨b, off, _, rfl, ?_, hr, rcs_ints zs hk⟩
      obtain ⟨arr, t, fz, h1, _⟩ := hr
      rcases Nat.lt_or_ge b w.heap.size with h | h
      · exact h
      · rw [Array.getElem?_eq_none h] at h1; cases h1

end
end Go.Ab
