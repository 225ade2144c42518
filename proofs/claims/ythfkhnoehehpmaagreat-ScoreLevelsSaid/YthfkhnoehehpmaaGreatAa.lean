import Derived.Laws.World
import Derived.Laws.Tables
import Derived.RangeFuncRecord
import Derived.OrdersIn
import Derived.RangeFuncLeaves
set_option linter.unusedVariables false
set_option linter.unusedSimpArgs false
/- ABSTRACT VALUES: trees of numbers, lists for slices that nobody writes any more, names for objects of one's own; and how they stand for the machine's values in a world. -/
namespace Go.Ab

/-- The shape of a value: how its cells group. -/
inductive Sh where
  | leaf
  | node (l : List Sh)
  deriving Inhabited

mutual
def Sh.width : Sh → Nat
  | .leaf => 1
  | .node l => Sh.widths l
def Sh.widths : List Sh → Nat
  | [] => 0
  | s :: l => s.width + Sh.widths l
end

/-- where a path leads: how many cells are ahead -/
def Sh.offs : Sh → List Nat → Option Nat
  | _, [] => some 0
  | .leaf, _ :: _ => none
  | .node l, i :: p => match l[i]? with
    | some s => (s.offs p).map (Sh.widths (l.take i) + ·)
    | none => none

def Sh.sub : Sh → List Nat → Option Sh
  | s, [] => some s
  | .leaf, _ :: _ => none
  | .node l, i :: p => match l[i]? with
    | some s => s.sub p
    | none => none

/-- kinds of special objects: of a loop over a function (its yield), a map, a walk over a map -/
inductive XK where
  | yl
  | mp
  | it
  deriving Inhabited, DecidableEq

def XK.val : XK → Nat → Value
  | .yl, b => .func (.yield b) #[] #[]
  | .mp, b => .map (some b)
  | .it, b => .pointer (some ⟨b, 0, none⟩)

/-- Abstract values. -/
inductive A where
  | int (k : IntKind) (n : Int)
  | bool (b : Bool)
  | str (s : List UInt8)
  | st (fs : List A)
  | sl (e : TypeId) (xs : List A)
  | nilsl
  | own (o ver off len : Nat)
  | ptr (o ver : Nat) (path : List Nat) (sh : Sh)
  | iptr (x : A)
  | nilptr
  | fn (f : Fn) (first caps : List A)
  | nilfn
  | nilmp
  | iface (t : TypeId) (v : A)
  | nilif
  | xo (k : XK) (o : Nat)
  | tup (vs : List A)
  deriving Inhabited

mutual
def A.shp : A → Sh
  | .st fs => .node (A.shps fs)
  | _ => .leaf
def A.shps : List A → List Sh
  | [] => []
  | x :: l => x.shp :: A.shps l
end

theorem A.shps_eq (l : List A) : A.shps l = l.map A.shp := by
  induction l with
  | nil => rfl
  | cons x l ih => simp [A.shps, ih]

def A.isSt : A → Bool
  | .st _ => true
  | _ => false

def A.isTup : A → Bool
  | .tup _ => true
  | _ => false

/-- What the ghost table knows of an object: its block, which version its references bear, its shape, its elements' type, and how many of these have room. -/
structure OI where
  blk : Option Nat
  ver : Nat
  sh : Sh
  e : Option TypeId
  cap : Nat

/-- an object, as the abstract state knows it -/
structure Ob where
  ver : Nat
  fz : Bool
  e : Option TypeId
  val : A

/-- size in cells, bytes of an element type -/
def esz (P : Program) (e : TypeId) : Nat := P.cellsOf e
def eby (P : Program) (e : TypeId) : Nat := P.bytesOf e

def maxBytes : Nat := 140737488355328

/-- 'cells l stand in block b from off on' -/
def World.run (w : World) (b off : Nat) (l : List Value) : Prop :=
  ∃ arr t fz, w.heap[b]? = some (.cells arr t fz) ∧ ∃ pre post, arr.toList = pre ++ l ++ post ∧ pre.length = off

/-- a reference that is not the latest: nothing is known of it but that it is one cell -/
def RCown (P : Program) (ob : Nat → Option OI) (o ver off len : Nat) (cs : List Value) : Prop :=
  ∃ oi a cap, ob o = some oi ∧ cs = [.slice a len cap] ∧ len ≤ maxBytes ∧ ver ≤ oi.ver ∧ (oi.ver = ver → ∃ e, oi.e = some e ∧
    match oi.blk with
    | none => a = none ∧ off = 0 ∧ len = 0 ∧ cap = 0
    | some b => off + cap = oi.cap ∧ len ≤ cap ∧ (cap = 0 ∨ a = some ⟨b, off * esz P e, none⟩))

def RCptr (ob : Nat → Option OI) (o ver : Nat) (path : List Nat) (sh : Sh) (cs : List Value) : Prop :=
  ∃ oi ad, ob o = some oi ∧ cs = [.pointer (some ad)] ∧ ver ≤ oi.ver ∧ (oi.ver = ver → ∃ b off, oi.blk = some b ∧ oi.sh.offs path = some off ∧ oi.sh.sub path = some sh ∧ ad = ⟨b, off, none⟩)

def RCxo (ob : Nat → Option OI) (k : XK) (o : Nat) (cs : List Value) : Prop :=
  ∃ oi b, ob o = some oi ∧ cs = [k.val b] ∧ (oi.ver = 0 → oi.blk = some b)

section
variable (P : Program) (w : World) (ob : Nat → Option OI) (S : Nat → Prop)
mutual
def RC : A → List Value → Prop
  | .int k n, cs => cs = [.int k n] ∧ k.wrap n = n
  | .bool b, cs => cs = [.bool b]
  | .str s, cs => cs = [.string ⟨s.toArray⟩]
  | .st fs, cs => RCs fs cs
  | .sl e xs, cs => ∃ a cap, cs = [.slice a xs.length cap] ∧ xs.length ≤ cap ∧ xs.length * eby P e ≤ maxBytes ∧ xs.length ≤ maxBytes ∧ (∀ x ∈ xs, x.shp.width = esz P e) ∧
      (xs = [] ∨ ∃ b off cl, a = some ⟨b, off, none⟩ ∧ S b ∧ World.run w b off cl ∧ RCs xs cl)
  | .nilsl, cs => cs = [.slice none 0 0]
  | .own o ver off len, cs => RCown P ob o ver off len cs
  | .ptr o ver path sh, cs => RCptr ob o ver path sh cs
  | .iptr x, cs => ∃ b off cl, cs = [.pointer (some ⟨b, off, none⟩)] ∧ S b ∧ World.run w b off cl ∧ RC x cl
  | .nilptr, cs => cs = [.pointer none]
  | .fn f first caps, cs => ∃ fa ca, cs = [.func f fa ca] ∧ RVl first fa.toList ∧ RVl caps ca.toList
  | .nilfn, cs => cs = [.nilFunc]
  | .nilmp, cs => cs = [.map none]
  | .iface t v, cs => ∃ v', cs = [.iface t v'] ∧ RC v v'.cells.toList ∧ (v.isSt = true ↔ ∃ c, v' = .agg c)
  | .nilif, cs => cs = [.nilIface]
  | .xo k o, cs => RCxo ob k o cs
  | .tup _, _ => False
def RCs : List A → List Value → Prop
  | [], cs => cs = []
  | x :: l, cs => ∃ c d, cs = c ++ d ∧ RC x c ∧ RCs l d
def RVl : List A → List Value → Prop
  | [], vs => vs = []
  | x :: l, vs => ∃ v vs', vs = v :: vs' ∧ RC x v.cells.toList ∧ (x.isSt = true ↔ ∃ c, v = .agg c) ∧ RVl l vs'
end

/-- an abstract value stands for a machine's value (no tuple) -/
def RV1 (x : A) (v : Value) : Prop := RC P w ob S x v.cells.toList ∧ (x.isSt = true ↔ ∃ c, v = .agg c)

def RV : A → Value → Prop
  | .tup vs, v => ∃ arr : Array Value, v = .tuple arr ∧ RVl P w ob S vs arr.toList
  | x, v => RV1 P w ob S x v
end

/-- what no step turns: the system, what was printed, which rows are frozen -/
structure Same (w w' : World) : Prop where
  os : w'.os = w.os
  out : w'.output = w.output
  frozen : ∀ a, w'.frozen? a = w.frozen? a

theorem Same.refl (w : World) : Same w w := ⟨rfl, rfl, fun _ => rfl⟩
theorem Same.trans {u v w : World} (h : Same u v) (k : Same v w) : Same u w := ⟨k.os.trans h.os, k.out.trans h.out, fun a => (k.frozen a).trans (h.frozen a)⟩
theorem Same.drew {w w' : World} (h : Same w w') : Same w w'.drew := ⟨h.os, h.out, h.frozen⟩
def frB (x : Option Obj) (off : Nat) : Bool := match x with
  | some (.cells _ _ (lo, hi)) => decide (lo ≤ off) && decide (off < hi)
  | _ => false
theorem frozen_frB (w : World) (a : Addr) : w.frozen? a = frB (w.heap[a.block]?) a.off := by
  unfold World.frozen? frB
  cases w.heap[a.block]? with
  | none => rfl
  | some o => cases o <;> rfl
theorem frB_no {x : Option Obj} {off : Nat} (h : ∀ c t f, x ≠ some (.cells c t f)) : frB x off = false := by
  cases x with
  | none => rfl
  | some o => cases o with
    | cells c t f => exact absurd rfl (h c t f)
    | _ => rfl
theorem same_push {w : World} {o : Obj} (h : ∀ c t f, o = .cells c t f → f = (0, 0)) : Same w (w.alloc o) := by
  refine ⟨rfl, rfl, fun a => ?_⟩
  rw [frozen_frB, frozen_frB]
  show frB ((w.heap.push o)[a.block]?) _ = _
  rw [Array.getElem?_push]
  by_cases e : a.block = w.heap.size
  · rw [if_pos e, e, Array.getElem?_eq_none (Nat.le_refl _)]
    cases o with
    | cells c t f => rw [h c t f rfl]; simp [frB]
    | _ => rfl
  · rw [if_neg e]
theorem Same.alloc {w w' : World} (h : Same w w') (c : Array Value) (t : TypeId) : Same w (w'.alloc (.cells c t)) := h.trans (same_push fun _ _ _ e => by cases e; rfl)
theorem Same.setRow {w w' : World} (h : Same w w') (b : Nat) (c : Array Value) : Same w (w'.setRow b c) := by
  refine h.trans ⟨rfl, rfl, fun a => ?_⟩
  rw [frozen_frB, frozen_frB]
  by_cases hb : a.block = b
  · subst hb
    simp only [World.setRow, Array.getElem?_modify, if_true]
    cases w'.heap[a.block]? with
    | none => rfl
    | some o => cases o <;> rfl
  · rw [setRow_other w' b a.block c hb]
theorem Same.putObj {w w' : World} (h : Same w w') {b : Nat} {o : Obj} (hold : ∀ c t f, w'.heap[b]? ≠ some (.cells c t f)) (hnew : ∀ c t f, o ≠ .cells c t f) : Same w (w'.putObj b o) := by
  refine h.trans ⟨rfl, rfl, fun a => ?_⟩
  rw [frozen_frB, frozen_frB]
  by_cases hb : a.block = b
  · rw [hb]
    by_cases hlt : b < w'.heap.size
    · rw [World.putObj_heap_same hlt, frB_no hold, frB_no (fun c t f e => hnew c t f (Option.some.inj e))]
    · have : w'.putObj b o = w' := by
        unfold World.putObj
        rw [Array.setIfInBounds, dif_neg hlt]
      rw [this]
  · rw [World.putObj_heap_other hb]

/-- What later worlds keep: stable blocks, and the table but for new versions. -/
structure Ext (w : World) (ob : Nat → Option OI) (S : Nat → Prop) (w' : World) (ob' : Nat → Option OI) (S' : Nat → Prop) : Prop where
  size : w.heap.size ≤ w'.heap.size
  keep : ∀ b, S b → S' b ∧ w'.heap[b]? = w.heap[b]?
  tab : ∀ o oi, ob o = some oi → ∃ oi', ob' o = some oi' ∧ oi.ver ≤ oi'.ver ∧ (oi'.ver = oi.ver → oi' = oi)

theorem Ext.refl (w : World) (ob : Nat → Option OI) (S : Nat → Prop) : Ext w ob S w ob S :=
  ⟨Nat.le_refl _, fun _ h => ⟨h, rfl⟩, fun _ oi h => ⟨oi, h, Nat.le_refl _, fun _ => rfl⟩⟩

theorem Ext.trans {w ob S w' ob' S' w'' ob'' S''} (h : Ext w ob S w' ob' S') (k : Ext w' ob' S' w'' ob'' S'') : Ext w ob S w'' ob'' S'' := by
  refine ⟨Nat.le_trans h.size k.size, fun b hb => ?_, fun o oi ho => ?_⟩
  · obtain ⟨h1, h2⟩ := h.keep b hb
    obtain ⟨k1, k2⟩ := k.keep b h1
    exact ⟨k1, k2.trans h2⟩
  · obtain ⟨oi', h1, h2, h3⟩ := h.tab o oi ho
    obtain ⟨oi'', k1, k2, k3⟩ := k.tab o oi' h1
    refine ⟨oi'', k1, Nat.le_trans h2 k2, fun e => ?_⟩
    have : oi'.ver = oi.ver := by omega
    rw [k3 (by omega), h3 this]

theorem World.run.mono {w w' : World} {b off : Nat} {l : List Value} (h : World.run w b off l) (e : w'.heap[b]? = w.heap[b]?) : World.run w' b off l := by
  obtain ⟨arr, t, fz, h1, h2⟩ := h
  exact ⟨arr, t, fz, e.trans h1, h2⟩

theorem RCown.mono {P : Program} {w ob S w' ob' S'} (x : Ext w ob S w' ob' S') {o ver off len : Nat} {cs : List Value} (h : RCown P ob o ver off len cs) : RCown P ob' o ver off len cs := by
  obtain ⟨oi, a, cap, h1, h2, h0, h3, h4⟩ := h
  obtain ⟨oi', k1, k2, k3⟩ := x.tab o oi h1
  refine ⟨oi', a, cap, k1, h2, h0, by omega, fun e => ?_⟩
  have e' : oi' = oi := k3 (by omega)
  subst e'
  exact h4 e

theorem RCptr.mono {w ob S w' ob' S'} (x : Ext w ob S w' ob' S') {o ver : Nat} {path : List Nat} {sh : Sh} {cs : List Value} (h : RCptr ob o ver path sh cs) : RCptr ob' o ver path sh cs := by
  obtain ⟨oi, ad, h1, h2, h3, h4⟩ := h
  obtain ⟨oi', k1, k2, k3⟩ := x.tab o oi h1
  refine ⟨oi', ad, k1, h2, by omega, fun e => ?_⟩
  have e' : oi' = oi := k3 (by omega)
  subst e'
  exact h4 e

theorem RCxo.mono {w ob S w' ob' S'} (x : Ext w ob S w' ob' S') {k : XK} {o : Nat} {cs : List Value} (h : RCxo ob k o cs) : RCxo ob' k o cs := by
  obtain ⟨oi, b, h1, h2, h3⟩ := h
  obtain ⟨oi', k1, k2, k3⟩ := x.tab o oi h1
  refine ⟨oi', b, k1, h2, fun e => ?_⟩
  have e' : oi' = oi := k3 (by omega)
  subst e'
  exact h3 e

mutual
theorem RC.mono {P : Program} {w ob S w' ob' S'} (x : Ext w ob S w' ob' S') : ∀ (a : A) (cs : List Value), RC P w ob S a cs → RC P w' ob' S' a cs
  | .int _ _, _, h => h
  | .bool _, _, h => h
  | .str _, _, h => h
  | .st fs, cs, h => RCs.mono x fs cs h
  | .sl e xs, cs, h => by
    obtain ⟨a, cap, h1, h2, h3, hi, h4, h5⟩ := h
    refine ⟨a, cap, h1, h2, h3, hi, h4, ?_⟩
    rcases h5 with h5 | ⟨b, off, cl, k1, k2, k3, k4⟩
    · exact .inl h5
    · exact .inr ⟨b, off, cl, k1, (x.keep b k2).1, k3.mono (x.keep b k2).2, RCs.mono x xs cl k4⟩
  | .nilsl, _, h => h
  | .own .., _, h => RCown.mono x h
  | .ptr .., _, h => RCptr.mono x h
  | .iptr y, cs, h => by
    obtain ⟨b, off, cl, k1, k2, k3, k4⟩ := h
    exact ⟨b, off, cl, k1, (x.keep b k2).1, k3.mono (x.keep b k2).2, RC.mono x y cl k4⟩
  | .nilptr, _, h => h
  | .fn f first caps, cs, h => by
    obtain ⟨fa, ca, h1, h2, h3⟩ := h
    exact ⟨fa, ca, h1, RVl.mono x first _ h2, RVl.mono x caps _ h3⟩
  | .nilfn, _, h => h
  | .nilmp, _, h => h
  | .iface t v, cs, h => by
    obtain ⟨v', h1, h2, h3⟩ := h
    exact ⟨v', h1, RC.mono x v _ h2, h3⟩
  | .nilif, _, h => h
  | .xo .., _, h => RCxo.mono x h
  | .tup _, _, h => h
theorem RCs.mono {P : Program} {w ob S w' ob' S'} (x : Ext w ob S w' ob' S') : ∀ (l : List A) (cs : List Value), RCs P w ob S l cs → RCs P w' ob' S' l cs
  | [], _, h => h
  | y :: l, cs, h => by
    obtain ⟨c, d, h1, h2, h3⟩ := h
    exact ⟨c, d, h1, RC.mono x y c h2, RCs.mono x l d h3⟩
theorem RVl.mono {P : Program} {w ob S w' ob' S'} (x : Ext w ob S w' ob' S') : ∀ (l : List A) (cs : List Value), RVl P w ob S l cs → RVl P w' ob' S' l cs
  | [], _, h => h
  | y :: l, cs, h => by
    obtain ⟨v, vs, h1, h2, h3, h4⟩ := h
    exact ⟨v, vs, h1, RC.mono x y _ h2, h3, RVl.mono x l vs h4⟩
end

theorem RV1.mono {P : Program} {w ob S w' ob' S'} (x : Ext w ob S w' ob' S') {a : A} {v : Value} (h : RV1 P w ob S a v) : RV1 P w' ob' S' a v :=
  ⟨RC.mono x _ _ h.1, h.2⟩

theorem RV.mono {P : Program} {w ob S w' ob' S'} (x : Ext w ob S w' ob' S') {a : A} {v : Value} (h : RV P w ob S a v) : RV P w' ob' S' a v := by
  cases a <;> first | exact RV1.mono x h | (obtain ⟨arr, h1, h2⟩ := h; exact ⟨arr, h1, RVl.mono x _ _ h2⟩)

mutual
theorem RC.len {P : Program} {w ob S} : ∀ (a : A) (cs : List Value), RC P w ob S a cs → cs.length = a.shp.width
  | .int _ _, _, h => by simp [h.1, A.shp, Sh.width]
  | .bool _, _, h => by simp [show _ = _ from h, A.shp, Sh.width]
  | .str _, _, h => by simp [show _ = _ from h, A.shp, Sh.width]
  | .st fs, cs, h => by simpa [A.shp, Sh.width] using RCs.len fs cs h
  | .sl e xs, cs, h => by obtain ⟨a, cap, h1, _⟩ := h; simp [h1, A.shp, Sh.width]
  | .nilsl, _, h => by simp [show _ = _ from h, A.shp, Sh.width]
  | .own .., _, h => by obtain ⟨oi, a, cap, _, h2, _⟩ := h; simp [h2, A.shp, Sh.width]
  | .ptr .., _, h => by obtain ⟨oi, v, _, h2, _⟩ := h; simp [h2, A.shp, Sh.width]
  | .iptr y, cs, h => by obtain ⟨b, off, cl, k1, _⟩ := h; simp [k1, A.shp, Sh.width]
  | .nilptr, _, h => by simp [show _ = _ from h, A.shp, Sh.width]
  | .fn f first caps, cs, h => by obtain ⟨fa, ca, h1, _⟩ := h; simp [h1, A.shp, Sh.width]
  | .nilfn, _, h => by simp [show _ = _ from h, A.shp, Sh.width]
  | .nilmp, _, h => by simp [show _ = _ from h, A.shp, Sh.width]
  | .iface t v, cs, h => by obtain ⟨v', h1, _⟩ := h; simp [h1, A.shp, Sh.width]
  | .nilif, _, h => by simp [show _ = _ from h, A.shp, Sh.width]
  | .xo .., _, h => by obtain ⟨oi, b, _, h2, _⟩ := h; simp [h2, A.shp, Sh.width]
  | .tup _, _, h => h.elim
theorem RCs.len {P : Program} {w ob S} : ∀ (l : List A) (cs : List Value), RCs P w ob S l cs → cs.length = Sh.widths (A.shps l)
  | [], _, h => by simp [show _ = _ from h, A.shps, Sh.widths]
  | y :: l, cs, h => by
    obtain ⟨c, d, h1, h2, h3⟩ := h
    simp [h1, A.shps, Sh.widths, RC.len y c h2, RCs.len l d h3]
end

theorem RCs.append {P : Program} {w ob S} : ∀ {l m : List A} {c d : List Value}, RCs P w ob S l c → RCs P w ob S m d → RCs P w ob S (l ++ m) (c ++ d)
  | [], m, c, d, h, k => by simp only [RCs] at h; subst h; simpa using k
  | x :: l, m, c, d, h, k => by
    obtain ⟨c1, c2, h1, h2, h3⟩ := h
    exact ⟨c1, c2 ++ d, by simp [h1], h2, RCs.append h3 k⟩

theorem RCs.split {P : Program} {w ob S} : ∀ {l m : List A} {cs : List Value}, RCs P w ob S (l ++ m) cs → ∃ c d, cs = c ++ d ∧ RCs P w ob S l c ∧ RCs P w ob S m d
  | [], m, cs, h => ⟨[], cs, rfl, rfl, h⟩
  | x :: l, m, cs, h => by
    obtain ⟨c1, c2, h1, h2, h3⟩ := h
    obtain ⟨c, d, k1, k2, k3⟩ := RCs.split (l := l) (m := m) h3
    exact ⟨c1 ++ c, d, by simp [h1, k1], ⟨c1, c, rfl, h2, k2⟩, k3⟩

end Go.Ab
