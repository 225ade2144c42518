import Derived.Test.YthfkhnoehehpmaaGreatAb
import Derived.Laws.Rows
set_option linter.unusedVariables false
set_option linter.unusedSimpArgs false
/- THE OPERATIONS, ONE BY ONE (first part). -/
namespace Go.Ab

theorem offs_append (l m : List Sh) : ∀ (p : List Nat) (off : Nat), (Sh.node l).offs p = some off → (Sh.node (l ++ m)).offs p = some off
  | [], off, h => h
  | i :: p, off, h => by
    simp only [Sh.offs] at h ⊢
    cases hi : l[i]? with
    | none => simp [hi] at h
    | some s =>
      obtain ⟨hlt, -⟩ := List.getElem?_eq_some_iff.1 hi
      rw [List.getElem?_append_left hlt, hi]
      rw [hi] at h
      rw [List.take_append_of_le_length (by omega)]
      exact h

theorem setRow_other (w : World) {b b' : Nat} (cs : Array Value) (h : b' ≠ b) : (w.setRow b cs).heap[b']? = w.heap[b']? := by
  unfold World.setRow
  simp only [Array.getElem?_modify, Ne.symm h, if_false]

section
variable {P : Program} {L : Lay} {mine : Nat → Prop} {tm : Nat → Option A} {hp : Hp} {nx : Nat} {fr : Nat → Prop} {a : Act} {w : World} {ob : Nat → Option OI} {S : Nat → Prop}

theorem replicate_of_all {α β : Type} (f : α → β) (b : β) : ∀ (l : List α), (∀ x ∈ l, f x = b) → l.map f = List.replicate l.length b
  | [], _ => rfl
  | x :: l, h => by simp [List.replicate_succ, h x (by simp), replicate_of_all f b l (fun y hy => h y (by simp [hy]))]

/-- where a part of an object stands -/
theorem obj_part (r : RS P L mine tm hp fr a.tmps w ob S) {o ver : Nat} {p : List Nat} {s : Sh} {x : Ob} {y : A} {v : Value} (hx : hp o = some x) (hver : x.ver = ver) (hy : x.val.sub p = some y)
    (hv : RV1 P w ob S (.ptr o ver p s) v) : ∃ b off c oi, v = .pointer (some ⟨b, off, none⟩) ∧ World.run w b off c ∧ RC P w ob S y c ∧ ob o = some oi ∧ oi.blk = some b ∧ x.val.shp.offs p = some off := by
  obtain ⟨h1, h2, h3⟩ := RV1.leaf hv rfl
  obtain ⟨oi, ad, k1, k2, k4, k5⟩ := h2
  simp only [List.cons.injEq, and_true] at k2
  subst k2
  obtain ⟨oi', q1, q2, -, -⟩ := r.hp o x hx
  rw [k1] at q1; cases q1
  obtain ⟨q3, q4, q5⟩ := q2
  obtain ⟨b, off, e1, e2, e3, e4⟩ := k5 (q3.trans hver)
  simp only [e1] at q5
  obtain ⟨arr, t, f1, f2⟩ := q5
  obtain ⟨off', g1, g2, g3⟩ := sub_spec (P := P) (w := w) (ob := ob) (S := S) p x.val y hy
  cases he : x.e with
  | none =>
    simp only [he] at f2
    obtain ⟨f3, f4⟩ := f2
    rw [f3, g1] at e2; cases e2
    obtain ⟨pre, c, post, i1, i2, i3⟩ := g3 _ f4
    exact ⟨b, off, c, oi, by rw [e4], ⟨arr, t, _, f1, pre, post, i1, i2⟩, i3, k1, e1, g1⟩
  | some e =>
    simp only [he] at f2
    obtain ⟨xs, de, cl, rest, f3, f4, f5, f6, f7, f8, f9, f10, f11⟩ := f2
    have hsh : x.val.shp = .node (List.replicate xs.length de.sh) := by rw [f3]; simp [A.shp, A.shps_eq, replicate_of_all _ _ xs f5]
    have : oi.sh.offs p = some off' := by
      rw [f6, show oi.cap = xs.length + (oi.cap - xs.length) from by omega, ← List.replicate_append_replicate]
      exact offs_append _ _ _ _ (hsh ▸ g1)
    rw [this] at e2; cases e2
    have f9' : RC P w ob S x.val cl := by rw [f3]; exact f9
    obtain ⟨pre, c, post, i1, i2, i3⟩ := g3 _ f9'
    exact ⟨b, off, c, oi, by rw [e4], ⟨arr, t, _, f1, pre, post ++ rest, by simp [f8, i1], i2⟩, i3, k1, e1, g1⟩

abbrev runOp (P : Program) (a : Act) (w : World) (o : Oper) : Result Next := (execOp a.eval o).run P w

theorem good_move (r : RS P L mine tm hp fr a.tmps w ob S) {o : Oper} {x : Operand} (ho : o.op = .move x ∨ o.op = .assign x) {c : Prop} {δ : Dl} (h : ((evA tm x).bind fun v => some ((True : Prop), (⟨v, [], [], 0⟩ : Dl))) = some (c, δ)) :
    Good P L hp nx w ob S δ (runOp P a w o) := by
  rw [Option.bind_eq_some_iff] at h; obtain ⟨v, hv, h⟩ := h
  cases h
  refine Good.pure r (v := a.eval x) ?_ (evA_rv r hv)
  rcases ho with ho | ho <;> simp [runOp, execOp, ho]

theorem good_pick (r : RS P L mine tm hp fr a.tmps w ob S) {o : Oper} {x y z : Operand} (ho : o.op = .pick x y z) {c : Prop} {δ : Dl} (h : opv L (.pick x y z) (evA tm) hp nx = some (c, δ)) :
    Good P L hp nx w ob S δ (runOp P a w o) := by
  simp only [opv] at h
  split at h
  · rename_i t ht
    have hb : a.eval x = .bool t := by
      have := (RV1.leaf (x := .bool t) (evA_rv r ht) rfl).2.1
      have h2 := (RV1.leaf (x := .bool t) (evA_rv r ht) rfl).1
      simpa [RC] using this
    cases t with
    | true =>
      simp only [if_true] at h
      rw [Option.bind_eq_some_iff] at h; obtain ⟨v, hv, h⟩ := h
      cases h
      exact Good.pure r (v := a.eval y) (by simp [runOp, execOp, ho, hb, asBool]) (evA_rv r hv)
    | false =>
      simp only [Bool.false_eq_true, if_false] at h
      rw [Option.bind_eq_some_iff] at h; obtain ⟨v, hv, h⟩ := h
      cases h
      exact Good.pure r (v := a.eval z) (by simp [runOp, execOp, ho, hb, asBool]) (evA_rv r hv)
  · cases h

/-- a new variable in a block of its own -/
theorem good_new (r : RS P L mine tm hp fr a.tmps w ob S) (hfr : fr nx) {t : TypeId} {x : A} {v : Value} {res : Result Next} (hv : RV1 P w ob S x v)
    (h : res = .ok (.value (.pointer (some ⟨w.heap.size, 0, none⟩))) (w.alloc (.cells v.cells t))) :
    Good P L hp nx w ob S ⟨.ptr nx 0 [] x.shp, [(nx, ⟨0, false, none, x⟩)], [], 1⟩ res := by
  let oi : OI := { blk := some w.heap.size, ver := 0, sh := x.shp, e := none, cap := 0 }
  have hext : Ext w ob S (w.alloc (.cells v.cells t)) (upo ob nx oi) S := by
    refine ⟨by simp, fun b hb => ⟨hb, heap_alloc_old w _ _ (r.st b hb)⟩, fun o oi' ho => ⟨oi', ?_, Nat.le_refl _, fun _ => rfl⟩⟩
    have : o ≠ nx := fun e => by rw [e, r.fr nx hfr] at ho; cases ho
    simp [upo, this, ho]
  refine ⟨_, _, upo ob nx oi, S, .inl h, ?_, ?_, ?_⟩
  · refine does_new r hfr ((Same.refl _).alloc _ _) rfl (by simp) (fun b hb => heap_alloc_old w _ _ hb) (fun b hb => ?_) ?_
    · simp [oi] at hb; subst hb; simp
    · refine ⟨rfl, rfl, ?_⟩
      exact (⟨v.cells, t, heap_alloc_new w _, rfl, RC.mono hext _ _ hv.1⟩ : ∃ arr t', (w.alloc (.cells v.cells t)).heap[w.heap.size]? = some (.cells arr t' (0, 0)) ∧ x.shp = x.shp ∧ RC P (w.alloc (.cells v.cells t)) (upo ob nx oi) S x arr.toList)
  · refine RV1.of_leaf ?_ rfl
    refine ⟨oi, _, by simp [upo], rfl, Nat.le_refl _, fun _ => ⟨w.heap.size, 0, rfl, by cases h : x.shp <;> simp [Sh.offs], by cases h : x.shp <;> simp [oi, Sh.sub, h], rfl⟩⟩
  · intro o y hy
    simp only [look_one] at hy
    split at hy
    · rename_i e; subst e; exact .inr ⟨Nat.le_refl _, by simp⟩
    · cases hy

theorem good_alloc (hL : LOk P L) (r : RS P L mine tm hp fr a.tmps w ob S) (hfr : fr nx) {o : Oper} {t : TypeId} (ho : o.op = .alloc t) {c : Prop} {δ : Dl} (h : opv L (.alloc t) (evA tm) hp nx = some (c, δ)) :
    Good P L hp nx w ob S δ (runOp P a w o) := by
  simp only [opv] at h
  rw [Option.bind_eq_some_iff] at h; obtain ⟨d, hd, h⟩ := h
  cases h
  obtain ⟨z, h1, h2, h3⟩ := run_zeroValue (hL t d hd)
  obtain ⟨i, z', k1, k2, k3, k4, k5, k6, k7⟩ := (hL t d hd).info
  rw [← k7]
  refine good_new r hfr (t := t) (v := z) ⟨RC.of_flat _ _ h2, h3⟩ ?_
  simp [runOp, execOp, ho, Instr.alloc, h1, newVar, newRow]

theorem good_box (r : RS P L mine tm hp fr a.tmps w ob S) (hfr : fr nx) {o : Oper} {t : TypeId} {x : Operand} (ho : o.op = .box t x) {c : Prop} {δ : Dl} (h : opv L (.box t x) (evA tm) hp nx = some (c, δ)) (hc : c) :
    Good P L hp nx w ob S δ (runOp P a w o) := by
  simp only [opv] at h
  rw [Option.bind_eq_some_iff] at h; obtain ⟨d, hd, h⟩ := h
  rw [Option.bind_eq_some_iff] at h; obtain ⟨v, hv, h⟩ := h
  cases h
  obtain ⟨hc, hc'⟩ := hc
  rw [← hc]
  have hv' := evA_rv r hv
  have hnt : ∀ vs, v ≠ .tup vs := fun vs e => by
    subst e
    cases hc'
  refine good_new r hfr (t := t) (v := a.eval x) ((RV.one hnt).1 hv') ?_
  simp [runOp, execOp, ho, Instr.box, newVar, newRow]

theorem good_load (hL : LOk P L) (r : RS P L mine tm hp fr a.tmps w ob S) {o : Oper} {t : TypeId} {x : Operand} (ho : o.op = .load t x) {c : Prop} {δ : Dl} (h : opv L (.load t x) (evA tm) hp nx = some (c, δ)) (hc : c) :
    Good P L hp nx w ob S δ (runOp P a w o) := by
  simp only [opv] at h
  rw [Option.bind_eq_some_iff] at h; obtain ⟨d, hd, h⟩ := h
  split at h
  · rename_i o' ver p s hx
    rw [Option.bind_eq_some_iff] at h; obtain ⟨y, hy, h⟩ := h
    rw [Option.bind_eq_some_iff] at h; obtain ⟨v, hv, h⟩ := h
    cases h
    obtain ⟨c1, c2⟩ := hc
    obtain ⟨b, off, cl, oi, e1, e2, e3, -⟩ := obj_part r hy c1 hv (evA_rv r hx)
    have hl := run_loadVar_of (hL t d hd) e2 (by rw [← c2]; exact RC.len _ _ e3)
    rw [← c2] at hl
    have hmk := RV1.mk e3
    refine Good.pure r (v := mkVal v.shp.isNode cl) (by simp [runOp, execOp, ho, Instr.loadAt, e1, Instr.sureAddr, hl]) ?_
    refine (RV.one fun vs e => ?_).2 hmk
    subst e; exact e3.elim
  · rename_i v hx
    cases h
    obtain ⟨h1, h2, h3⟩ := RV1.leaf (x := .iptr v) (evA_rv r hx) rfl
    obtain ⟨b, off, cl, e1, e0, e2, e3⟩ := h2
    simp at e1
    have hl := run_loadVar_of (hL t d hd) e2 (by rw [← hc]; exact RC.len _ _ e3)
    rw [← hc] at hl
    have hmk := RV1.mk e3
    refine Good.pure r (v := mkVal v.shp.isNode cl) (by simp [runOp, execOp, ho, Instr.loadAt, e1, Instr.sureAddr, hl]) ?_
    refine (RV.one fun vs e => ?_).2 hmk
    subst e; exact e3.elim
  · cases h

end
end Go.Ab
