import Derived.Test.YthfkhnoehehpmaaGreatAa
import Derived.Laws.CopyRow
import Derived.Laws.CopyOwn
import Derived.Laws.AppendOwn
set_option linter.unusedVariables false
set_option linter.unusedSimpArgs false
/- PARTS OF ABSTRACT VALUES: a part's place among the cells; a part that is put in another one's stead. -/
namespace Go.Ab

def A.sub : A → List Nat → Option A
  | x, [] => some x
  | .st fs, i :: p => match fs[i]? with
    | some y => y.sub p
    | none => none
  | _, _ :: _ => none

def A.upd : A → List Nat → A → Option A
  | _, [], v => some v
  | .st fs, i :: p, v => match fs[i]? with
    | some y => match y.upd p v with
      | some y' => some (.st (fs.set i y'))
      | none => none
    | none => none
  | _, _ :: _, _ => none

theorem widths_append (l m : List Sh) : Sh.widths (l ++ m) = Sh.widths l + Sh.widths m := by
  induction l with
  | nil => simp [Sh.widths]
  | cons x l ih => simp [Sh.widths, ih]; omega

theorem shps_append (l m : List A) : A.shps (l ++ m) = A.shps l ++ A.shps m := by simp [A.shps_eq]

theorem split_at {α : Type} (l : List α) (i : Nat) (y : α) (h : l[i]? = some y) : l = l.take i ++ y :: l.drop (i + 1) := by
  obtain ⟨hi, rfl⟩ := List.getElem?_eq_some_iff.1 h
  rw [List.getElem_cons_drop hi, List.take_append_drop]

theorem set_split {α : Type} (l : List α) (i : Nat) (y z : α) (h : l[i]? = some y) : l.set i z = l.take i ++ z :: l.drop (i + 1) := by
  obtain ⟨hi, -⟩ := List.getElem?_eq_some_iff.1 h
  rw [List.set_eq_take_append_cons_drop]; simp [hi]

/-- A part and where it stands. -/
theorem sub_spec {P w ob S} : ∀ (p : List Nat) (x y : A), x.sub p = some y →
    ∃ off, x.shp.offs p = some off ∧ x.shp.sub p = some y.shp ∧
      ∀ cs, RC P w ob S x cs → ∃ pre c post, cs = pre ++ c ++ post ∧ pre.length = off ∧ RC P w ob S y c
  | [], x, y, h => by
    simp only [A.sub, Option.some.injEq] at h; subst h
    refine ⟨0, by cases x <;> rfl, by cases x <;> rfl, fun cs hc => ⟨[], cs, [], by simp, rfl, hc⟩⟩
  | i :: p, x, y, h => by
    cases x with
    | st fs =>
      simp only [A.sub] at h
      cases hi : fs[i]? with
      | none => simp [hi] at h
      | some z =>
        simp only [hi] at h
        obtain ⟨off, h1, h2, h3⟩ := sub_spec (P := P) (w := w) (ob := ob) (S := S) p z y h
        have hsh : (A.shps fs)[i]? = some z.shp := by simp [A.shps_eq, hi]
        refine ⟨Sh.widths ((A.shps fs).take i) + off, by simp [A.shp, Sh.offs, hsh, h1], by simp [A.shp, Sh.sub, hsh, h2], fun cs hc => ?_⟩
        have hc' : RCs P w ob S fs cs := hc
        rw [split_at fs i z hi] at hc'
        obtain ⟨c, d, e1, k1, k2⟩ := RCs.split hc'
        obtain ⟨cz, d2, e2, k3, k4⟩ := k2
        obtain ⟨pre, cy, post, e3, e4, k5⟩ := h3 cz k3
        refine ⟨c ++ pre, cy, post ++ d2, by simp [e1, e2, e3], ?_, k5⟩
        have hl := RCs.len _ _ k1
        simp [hl, e4, A.shps_eq]
    | _ => simp [A.sub] at h

theorem upd_spec {P w ob S w' S'} (v : A) : ∀ (p : List Nat) (x y : A), x.sub p = some y → v.shp = y.shp →
    ∃ x' off, x.upd p v = some x' ∧ x'.shp = x.shp ∧ x.shp.offs p = some off ∧ (x.isSt = true → p ≠ [] → x'.isSt = true) ∧
      ∀ cs cv, (∀ a c, RC P w ob S a c → RC P w' ob S' a c) → RC P w ob S x cs → RC P w' ob S' v cv → off + cv.length ≤ cs.length ∧ RC P w' ob S' x' (cs.take off ++ cv ++ cs.drop (off + cv.length))
  | [], x, y, h, hs => by
    simp only [A.sub, Option.some.injEq] at h; subst h
    refine ⟨v, 0, by cases x <;> rfl, hs, by cases x <;> rfl, by simp, fun cs cv _ hc hv => ?_⟩
    have h1 := RC.len _ _ hc
    have h2 := RC.len _ _ hv
    rw [hs] at h2
    refine ⟨by omega, ?_⟩
    have : cs.drop cv.length = [] := by apply List.drop_of_length_le; omega
    simpa [this] using hv
  | i :: p, x, y, h, hs => by
    cases x with
    | st fs =>
      simp only [A.sub] at h
      cases hi : fs[i]? with
      | none => simp [hi] at h
      | some z =>
        simp only [hi] at h
        obtain ⟨z', off, h1, h2, h3, -, h4⟩ := upd_spec (P := P) (w := w) (ob := ob) (S := S) (w' := w') (S' := S') v p z y h hs
        have hsh : (A.shps fs)[i]? = some z.shp := by simp [A.shps_eq, hi]
        refine ⟨.st (fs.set i z'), Sh.widths ((A.shps fs).take i) + off, by simp [A.upd, hi, h1], ?_, by simp [A.shp, Sh.offs, hsh, h3], by simp [A.isSt], fun cs cv hm hc hv => ?_⟩
        · simp only [A.shp, A.shps_eq, List.map_set, h2]
          congr 1
          apply List.ext_getElem?
          intro j
          simp only [List.getElem?_set, List.length_map, List.getElem?_map]
          split
          · rename_i e; subst e; simp [hi]; exact (List.getElem?_eq_some_iff.1 hi).1
          · rfl
        · have hc' : RCs P w ob S fs cs := hc
          rw [split_at fs i z hi] at hc'
          obtain ⟨c, d, e1, k1, k2⟩ := RCs.split hc'
          obtain ⟨cz, d2, e2, k3, k4⟩ := k2
          obtain ⟨k5, k6⟩ := h4 cz cv hm k3 hv
          have hl : c.length = Sh.widths ((A.shps fs).take i) := by rw [RCs.len _ _ k1]; simp [A.shps_eq]
          rw [← hl]
          refine ⟨by simp [e1, e2]; omega, ?_⟩
          show RCs P w' ob S' _ _
          rw [set_split fs i z z' hi]
          have hmono : ∀ (l : List A) (cc : List Value), RCs P w ob S l cc → RCs P w' ob S' l cc := by
            intro l
            induction l with
            | nil => intro cc hh; exact hh
            | cons a l ih => intro cc hh; obtain ⟨c1, c2, q1, q2, q3⟩ := hh; exact ⟨c1, c2, q1, hm _ _ q2, ih _ q3⟩
          have hh : RCs P w' ob S' (fs.take i ++ z' :: fs.drop (i + 1)) (c ++ ((cz.take off ++ cv ++ cz.drop (off + cv.length)) ++ d2)) :=
            RCs.append (hmono _ _ k1) ⟨_, _, rfl, k6, hmono _ _ k4⟩
          have e : cs.take (c.length + off) ++ cv ++ cs.drop (c.length + off + cv.length) = c ++ ((cz.take off ++ cv ++ cz.drop (off + cv.length)) ++ d2) := by
            subst e1; subst e2
            have q1 : (c ++ (cz ++ d2)).take (c.length + off) = c ++ cz.take off := by
              rw [List.take_append, List.take_of_length_le (by omega)]
              congr 1
              rw [show c.length + off - c.length = off from by omega, List.take_append_of_le_length (by omega)]
            have q2 : (c ++ (cz ++ d2)).drop (c.length + off + cv.length) = cz.drop (off + cv.length) ++ d2 := by
              rw [List.drop_append, List.drop_of_length_le (by omega), List.nil_append]
              rw [show c.length + off + cv.length - c.length = off + cv.length from by omega, List.drop_append_of_le_length (by omega)]
            rw [q1, q2]; simp [List.append_assoc]
          rw [e]; exact hh
    | _ => simp [A.sub] at h

mutual
theorem RC.one {P w ob S} : ∀ (a : A) (cs : List Value), RC P w ob S a cs → ∀ v ∈ cs, v.oneCell' = true
  | .int _ _, _, h, v, hv => by rw [h.1] at hv; simp at hv; subst hv; rfl
  | .bool _, _, h, v, hv => by rw [show _ = _ from h] at hv; simp at hv; subst hv; rfl
  | .str _, _, h, v, hv => by rw [show _ = _ from h] at hv; simp at hv; subst hv; rfl
  | .st fs, cs, h, v, hv => RCs.one fs cs h v hv
  | .sl e xs, cs, h, v, hv => by obtain ⟨a, cap, h1, _⟩ := h; rw [h1] at hv; simp at hv; subst hv; rfl
  | .nilsl, _, h, v, hv => by rw [show _ = _ from h] at hv; simp at hv; subst hv; rfl
  | .own .., _, h, v, hv => by
    obtain ⟨oi, a, cap, _, h2, -⟩ := h
    rw [h2] at hv; simp at hv; subst hv
    rfl
  | .ptr .., _, h, v, hv => by
    obtain ⟨oi, u, _, h2, -⟩ := h
    rw [h2] at hv; simp at hv; subst hv
    rfl
  | .iptr y, cs, h, v, hv => by obtain ⟨b, off, cl, k1, _⟩ := h; rw [k1] at hv; simp at hv; subst hv; rfl
  | .nilptr, _, h, v, hv => by rw [show _ = _ from h] at hv; simp at hv; subst hv; rfl
  | .fn f first caps, cs, h, v, hv => by obtain ⟨fa, ca, h1, _⟩ := h; rw [h1] at hv; simp at hv; subst hv; rfl
  | .nilfn, _, h, v, hv => by rw [show _ = _ from h] at hv; simp at hv; subst hv; rfl
  | .nilmp, _, h, v, hv => by rw [show _ = _ from h] at hv; simp at hv; subst hv; rfl
  | .iface t v, cs, h, u, hv => by obtain ⟨v', h1, _⟩ := h; rw [h1] at hv; simp at hv; subst hv; rfl
  | .nilif, _, h, v, hv => by rw [show _ = _ from h] at hv; simp at hv; subst hv; rfl
  | .xo k _, _, h, v, hv => by
    obtain ⟨oi, b, _, h2, -⟩ := h
    rw [h2] at hv; simp at hv; subst hv
    cases k <;> rfl
  | .tup _, _, h, _, _ => h.elim
theorem RCs.one {P w ob S} : ∀ (l : List A) (cs : List Value), RCs P w ob S l cs → ∀ v ∈ cs, v.oneCell' = true
  | [], _, h, v, hv => by rw [show _ = _ from h] at hv; simp at hv
  | y :: l, cs, h, v, hv => by
    obtain ⟨c, d, h1, h2, h3⟩ := h
    rw [h1] at hv
    rcases List.mem_append.1 hv with hv | hv
    · exact RC.one y c h2 v hv
    · exact RCs.one l d h3 v hv
end
end Go.Ab

/- THE ABSTRACT STEP: what an operation does to abstract values; the predicate transformer of code. -/
namespace Go.Ab

inductive TK where
  | int (k : IntKind)
  | bool
  | str
  | sl (e : TypeId)
  | arr (n : Nat) (e : TypeId)
  | st (fts : List TypeId)
  | other
  deriving Inhabited

structure TD where
  sh : Sh
  byt : Nat
  eq : Bool
  zero : A
  k : TK
  deriving Inhabited

/-- a table of types -/
abbrev Lay := TypeId → Option TD

structure St where
  tm : List (Nat × A)
  hp : List (Nat × Ob)
  nx : Nat

def look {α : Type} : List (Nat × α) → Nat → Option α
  | [], _ => none
  | (i, x) :: l, t => if t = i then some x else look l t

/-- what an operation does: its value, what it writes, what it looks at, how many names it takes -/
structure Dl where
  v : A
  wr : List (Nat × Ob) := []
  rd : List Nat := []
  nw : Nat := 0

abbrev Hp := Nat → Option Ob

def constA : Value → Option A
  | .int k n => if k.wrap n = n then some (.int k n) else none
  | .bool b => some (.bool b)
  | .string s => some (.str s.data.toList)
  | .pointer none => some .nilptr
  | .slice none 0 0 => some .nilsl
  | .nilFunc => some .nilfn
  | .map none => some .nilmp
  | .nilIface => some .nilif
  | _ => none

def evA (tm : Nat → Option A) : Operand → Option A
  | .tmp t => tm t
  | .const v => constA v
  | .func f => some (.fn (.func f) [] [])
  | .global _ => none

def evAs (tm : Nat → Option A) : List Operand → Option (List A)
  | [] => some []
  | x :: l => match evA tm x with
    | some v => match evAs tm l with
      | some vs => some (v :: vs)
      | none => none
    | none => none

def elems (ob : Ob) : List A := match ob.val with
  | .st xs => xs
  | _ => []

/-- a slice of one's own as a list that nobody writes any more -/
def pur (h : Hp) : A → Option (Prop × Dl)
  | .own o ver off len => match h o with
    | some ob => match ob.e with
      | some e => some (ob.ver = ver ∧ off + len ≤ (elems ob).length ∧ len ≤ (elems ob).length, ⟨.sl e (((elems ob).drop off).take len), [(o, { ob with fz := true })], [o], 0⟩)
      | none => none
    | none => none
  | x => some (True, ⟨x, [], [], 0⟩)

/-- the elements of something that is like a slice -/
def elemsOf (h : Hp) : A → Option (Prop × List A × List Nat)
  | .sl _ xs => some (True, xs, [])
  | .nilsl => some (True, [], [])
  | .own o ver off len => match h o with
    | some ob => some (ob.ver = ver ∧ ob.e.isSome = true ∧ off + len ≤ (elems ob).length, ((elems ob).drop off).take len, [o])
    | none => none
  | _ => none

def u8 (b : UInt8) : A := .int .u8 b.toNat
def byteOf : A → UInt8
  | .int _ n => UInt8.ofNat n.toNat
  | _ => 0

def lenOf : A → Option Nat
  | .sl _ xs => some xs.length
  | .nilsl => some 0
  | .own _ _ _ len => some len
  | .str s => some s.length
  | _ => none

-- what holds no references, and is compared part by part
mutual
def A.flat : A → Option (List Value)
  | .int k n => if k.wrap n = n then some [.int k n] else none
  | .bool b => some [.bool b]
  | .str s => some [.string ⟨s.toArray⟩]
  | .st fs => A.flats fs
  | .nilsl => some [.slice none 0 0]
  | .nilptr => some [.pointer none]
  | .nilfn => some [.nilFunc]
  | .nilmp => some [.map none]
  | .nilif => some [.nilIface]
  | _ => none
def A.flats : List A → Option (List Value)
  | [] => some []
  | x :: l => match x.flat with
    | some c => match A.flats l with
      | some d => some (c ++ d)
      | none => none
    | none => none
end

open Classical in
noncomputable def dec (p : Prop) : Bool := if p then true else false

/-- a value is of a type: numbers, bools, texts, and trees of them -/
def Conf (L : Lay) : Nat → TypeId → A → Prop
  | 0, _, _ => False
  | n + 1, t, x => match L t with
    | some d => match d.k with
      | .int k => ∃ m, x = .int k m
      | .bool => ∃ b, x = .bool b
      | .str => ∃ s, x = .str s
      | .arr m e => ∃ xs, x = .st xs ∧ xs.length = m ∧ ∀ y ∈ xs, Conf L n e y
      | .st fts => d.eq = true ∧ ∃ xs, x = .st xs ∧ xs.length = fts.length ∧ ∀ (i : Nat) (ft : TypeId) (y : A), fts[i]? = some ft → xs[i]? = some y → Conf L n ft y
      | _ => False
    | none => False

noncomputable def binA (L : Lay) (op : BinOp) (t : TypeId) (x y : A) : Option (Prop × A) :=
  match op, x, y with
  | .shl, .int k a, .int _ b => some (0 ≤ b, .int k (k.wrap (a * 2 ^ (min b.toNat k.bits))))
  | .shr, .int k a, .int _ b => some (0 ≤ b, .int k (a.fdiv (2 ^ (min b.toNat k.bits))))
  | .add, .int k a, .int k' b => some (k = k', .int k (k.wrap (a + b)))
  | .sub, .int k a, .int k' b => some (k = k', .int k (k.wrap (a - b)))
  | .mul, .int k a, .int k' b => some (k = k', .int k (k.wrap (a * b)))
  | .quo, .int k a, .int k' b => some (k = k' ∧ b ≠ 0, .int k (k.wrap (a.tdiv b)))
  | .rem, .int k a, .int k' b => some (k = k' ∧ b ≠ 0, .int k (a.tmod b))
  | .and, .int k a, .int k' b => some (k = k', .int k (k.wrap (BitVec.ofInt k.bits a &&& BitVec.ofInt k.bits b).toNat))
  | .or, .int k a, .int k' b => some (k = k', .int k (k.wrap (BitVec.ofInt k.bits a ||| BitVec.ofInt k.bits b).toNat))
  | .xor, .int k a, .int k' b => some (k = k', .int k (k.wrap (BitVec.ofInt k.bits a ^^^ BitVec.ofInt k.bits b).toNat))
  | .eql, .int k a, .int k' b => some (k = k', .bool (a == b))
  | .neq, .int k a, .int k' b => some (k = k', .bool (a != b))
  | .lss, .int k a, .int k' b => some (k = k', .bool (decide (a < b)))
  | .leq, .int k a, .int k' b => some (k = k', .bool (decide (a ≤ b)))
  | .gtr, .int k a, .int k' b => some (k = k', .bool (decide (a > b)))
  | .geq, .int k a, .int k' b => some (k = k', .bool (decide (a ≥ b)))
  | .eql, .str a, .str b => some (True, .bool (a == b))
  | .neq, .str a, .str b => some (True, .bool (a != b))
  | .eql, .bool a, .bool b => some (∃ d, L t = some d ∧ d.k = .bool, .bool (a == b))
  | .neq, .bool a, .bool b => some (∃ d, L t = some d ∧ d.k = .bool, .bool (!(a == b)))
  | .eql, .st a, .st b => some (Conf L 9 t (.st a) ∧ Conf L 9 t (.st b) ∧ (∃ d, L t = some d ∧ d.eq = true), .bool (dec (A.st a = A.st b)))
  | .neq, .st a, .st b => some (Conf L 9 t (.st a) ∧ Conf L 9 t (.st b) ∧ (∃ d, L t = some d ∧ d.eq = true), .bool (!(dec (A.st a = A.st b))))
  | _, _, _ => none

/-- a bound of a slice expression -/
def boundA (d : Nat) : Option A → Option Int
  | none => some d
  | some (.int _ n) => some n
  | _ => none

/-- the operations that are no calls of functions. 'id': the name that a new object gets. -/
noncomputable def opv (L : Lay) (op : Op) (ev : Operand → Option A) (h : Hp) (id : Nat) : Option (Prop × Dl) :=
  match op with
  | .move x | .assign x => (ev x).bind fun v => some (True, ⟨v, [], [], 0⟩)
  | .pick c a b => match ev c with
    | some (.bool t) => if t = true then (ev a).bind fun v => some (True, ⟨v, [], [], 0⟩) else (ev b).bind fun v => some (True, ⟨v, [], [], 0⟩)
    | _ => none
  | .alloc t => (L t).bind fun d => some (True, ⟨.ptr id 0 [] d.sh, [(id, ⟨0, false, none, d.zero⟩)], [], 1⟩)
  | .box t x => (L t).bind fun d => (ev x).bind fun v => some (v.shp = d.sh ∧ v.isTup = false, ⟨.ptr id 0 [] d.sh, [(id, ⟨0, false, none, v⟩)], [], 1⟩)
  | .load t x => (L t).bind fun d => match ev x with
    | some (.ptr o ver p s) => (h o).bind fun ob => (ob.val.sub p).bind fun v => some (ob.ver = ver ∧ v.shp = d.sh, ⟨v, [], [o], 0⟩)
    | some (.iptr v) => some (v.shp = d.sh, ⟨v, [], [], 0⟩)
    | _ => none
  | .store t a x => (L t).bind fun d => match ev a with
    | some (.ptr o ver p s) => (h o).bind fun ob => (ev x).bind fun v => (ob.val.sub p).bind fun u => (ob.val.upd p v).bind fun z =>
        some (ob.ver = ver ∧ ob.fz = false ∧ v.isTup = false ∧ v.shp = d.sh ∧ u.shp = d.sh ∧ (ob.e.isSome = true → p ≠ []), ⟨.tup [], [(o, { ob with val := z })], [o], 0⟩)
    | _ => none
  | .nilCheck x => match ev x with
    | some (.ptr o ver p s) => some (True, ⟨.ptr o ver p s, [], [], 0⟩)
    | some (.iptr v) => some (True, ⟨.iptr v, [], [], 0⟩)
    | some (.fn (.func f) a b) => some (True, ⟨.fn (.func f) a b, [], [], 0⟩)
    | _ => none
  | .binOp op t x y _ => (ev x).bind fun a => (ev y).bind fun b => (binA L op t a b).map fun r => (r.1, ⟨r.2, [], [], 0⟩)
  | .unOp op _ x => match op, ev x with
    | .not, some (.bool b) => some (True, ⟨.bool (!b), [], [], 0⟩)
    | .neg, some (.int k n) => some (True, ⟨.int k (k.wrap (0 - n)), [], [], 0⟩)
    | .xor, some (.int k n) => some (True, ⟨.int k (k.wrap (BitVec.ofInt k.bits (if k.signed then -1 else k.max) ^^^ BitVec.ofInt k.bits n).toNat), [], [], 0⟩)
    | _, _ => none
  | .convert s t x => (L t).bind fun d => match d.k, ev x with
    | .int k, some (.int _ n) => (L s).bind fun _ => some (True, ⟨.int k (k.wrap n), [], [], 0⟩)
    | .str, some v => (L s).bind fun ds => match ds.k with
      | .sl e => (L e).bind fun de => match de.k with
        | .int .u8 => (elemsOf h v).bind fun r => some (r.1 ∧ (∀ x ∈ r.2.1, ∃ b : UInt8, x = u8 b), ⟨.str (r.2.1.map byteOf), [], r.2.2, 0⟩)
        | _ => none
      | _ => none
    | _, _ => none
  | .fieldAddr t x k => (L t).bind fun d => match d.k with
    | .st fts => (fts[k]?).bind fun ft => (L ft).bind fun df => match ev x with
      | some (.ptr o ver p s) => (h o).bind fun ob => some (ob.ver = ver ∧ s = d.sh, ⟨.ptr o ver (p ++ [k]) df.sh, [], [o], 0⟩)
      | some (.iptr v) => (v.sub [k]).bind fun u => some (v.shp = d.sh, ⟨.iptr u, [], [], 0⟩)
      | _ => none
    | _ => none
  | .field t x k => (L t).bind fun d => match d.k with
    | .st fts => (fts[k]?).bind fun ft => (L ft).bind fun df => (ev x).bind fun v => (v.sub [k]).bind fun u => some (v.shp = d.sh, ⟨u, [], [], 0⟩)
    | _ => none
  | .indexAddr t x i => (L t).bind fun d => match ev i with
    | some (.int _ n) => match d.k, ev x with
      | .sl e, some (.own o ver off len) => (L e).bind fun de => (h o).bind fun ob => some (ob.ver = ver ∧ ob.e = some e ∧ 0 ≤ n ∧ n < len, ⟨.ptr o ver [off + n.toNat] de.sh, [], [o], 0⟩)
      | .sl e, some (.sl e' xs) => (L e).bind fun _ => (xs[n.toNat]?).bind fun v => some (e = e' ∧ 0 ≤ n, ⟨.iptr v, [], [], 0⟩)
      | .arr m e, some (.ptr o ver p s) => (L e).bind fun de => (h o).bind fun ob => some (ob.ver = ver ∧ 0 ≤ n ∧ n < m ∧ s = d.sh, ⟨.ptr o ver (p ++ [n.toNat]) de.sh, [], [o], 0⟩)
      | .arr m _, some (.iptr v) => (v.sub [n.toNat]).bind fun u => some (0 ≤ n ∧ n < m ∧ v.shp = d.sh, ⟨.iptr u, [], [], 0⟩)
      | _, _ => none
    | _ => none
  | .index t x i => (L t).bind fun d => match ev i with
    | some (.int _ n) => match d.k with
      | .arr m _ => (ev x).bind fun v => (v.sub [n.toNat]).bind fun u => some (0 ≤ n ∧ n < m ∧ v.shp = d.sh, ⟨u, [], [], 0⟩)
      | .str => match ev x with
        | some (.str s) => (s[n.toNat]?).bind fun b => some (0 ≤ n, ⟨u8 b, [], [], 0⟩)
        | _ => none
      | _ => none
    | _ => none
  | .extract x k => match ev x with
    | some (.tup vs) => (vs[k]?).bind fun v => some (True, ⟨v, [], [], 0⟩)
    | _ => none
  | .makeFunc f first caps => (evAs (fun t => ev (.tmp t)) first.toList).bind fun fs => (evAs (fun t => ev (.tmp t)) caps.toList).bind fun cs => some ((∀ x ∈ fs, x.isTup = false) ∧ (∀ x ∈ cs, x.isTup = false), ⟨.fn f fs cs, [], [], 0⟩)
  | .makeInterface t x => (L t).bind fun d => (ev x).bind fun v => some (v.isTup = false ∧ d.k ≠ .other, ⟨.iface t v, [], [], 0⟩)
  | .sliceToArrayPointer t x => (L t).bind fun d => match d.k, ev x with
    | .arr n e, some (.sl e' xs) => some (e = e' ∧ n ≤ xs.length ∧ 0 < n, ⟨.iptr (.st (xs.take n)), [], [], 0⟩)
    | _, _ => none
  | .build t parts => (L t).bind fun d => match d.zero with
    | .st zs => parts.toList.foldl (fun r p => r.bind fun r => (ev p.2).bind fun v => (r.2[p.1]?).bind fun z => some (r.1 ∧ v.shp = z.shp ∧ v.isTup = false, r.2.set p.1 v)) (some ((True : Prop), zs)) |>.map fun r => (r.1, ⟨.st r.2, [], [], 0⟩)
    | _ => none
  | .buildSlice t len parts => (L t).bind fun d => match d.k with
    | .sl e => (L e).bind fun de => parts.toList.foldl (fun r p => r.bind fun r => (ev p.2).bind fun v => (r.2[p.1]?).bind fun z => some (r.1 ∧ v.shp = z.shp ∧ v.isTup = false, r.2.set p.1 v)) (some ((True : Prop), List.replicate len de.zero)) |>.map fun r =>
        (r.1 ∧ len * de.sh.width ≤ 2 ^ 24 ∧ 0 < de.sh.width ∧ len * de.byt ≤ maxBytes, ⟨.own id 0 0 len, [(id, ⟨0, false, some e, .st r.2⟩)], [], 1⟩)
    | _ => none
  | .makeSlice t l c => (L t).bind fun d => match d.k, ev l, ev c with
    | .sl e, some (.int .i64 n), some (.int .i64 m) => (L e).bind fun de => some (0 ≤ n ∧ n = m ∧ 0 < de.sh.width ∧ n * de.byt ≤ maxBytes, ⟨.own id 0 0 n.toNat, [(id, ⟨0, false, some e, .st (List.replicate n.toNat de.zero)⟩)], [], 1⟩)
    | _, _, _ => none
  | .slice t x lo hi mx => (L t).bind fun d => match d.k, ev x with
    | .sl e', some (.sl e xs) => (L e).bind fun _ => (boundA 0 (lo.bind ev)).bind fun a => (boundA xs.length (hi.bind ev)).bind fun b => (boundA xs.length (mx.bind ev)).bind fun c =>
        some (e' = e ∧ 0 ≤ a ∧ a ≤ b ∧ b ≤ c ∧ c ≤ xs.length ∧ (lo.isSome = (lo.bind ev).isSome) ∧ (hi.isSome = (hi.bind ev).isSome) ∧ (mx.isSome = (mx.bind ev).isSome) ∧ (mx.isSome = true → hi.isSome = true), ⟨.sl e ((xs.take b.toNat).drop a.toNat), [], [], 0⟩)
    | .sl e, some .nilsl => (L e).bind fun _ => (boundA 0 (lo.bind ev)).bind fun a => (boundA 0 (hi.bind ev)).bind fun b => some (a = 0 ∧ b = 0 ∧ mx = none ∧ (lo.isSome = (lo.bind ev).isSome) ∧ (hi.isSome = (hi.bind ev).isSome), ⟨.nilsl, [], [], 0⟩)
    | .sl e, some (.own o ver off len) => (L e).bind fun _ => (boundA 0 (lo.bind ev)).bind fun a => (boundA len (hi.bind ev)).bind fun b => (h o).bind fun ob =>
        some (ob.ver = ver ∧ ob.e = some e ∧ 0 ≤ a ∧ a ≤ b ∧ b ≤ len ∧ mx = none ∧ (lo.isSome = (lo.bind ev).isSome) ∧ (hi.isSome = (hi.bind ev).isSome), ⟨.own o ver (off + a.toNat) (b - a).toNat, [], [o], 0⟩)
    | .arr n e, some (.ptr o ver p s) => (L e).bind fun de => (h o).bind fun ob => (ob.val.sub p).bind fun v => match v with
      | .st xs => (boundA 0 (lo.bind ev)).bind fun a => (boundA n (hi.bind ev)).bind fun b =>
          some (ob.ver = ver ∧ s = d.sh ∧ (A.st xs).shp = d.sh ∧ n * de.byt ≤ maxBytes ∧ 0 ≤ a ∧ a ≤ b ∧ b ≤ n ∧ mx = none ∧ (lo.isSome = (lo.bind ev).isSome) ∧ (hi.isSome = (hi.bind ev).isSome), ⟨.sl e ((xs.take b.toNat).drop a.toNat), if ob.fz = true then [] else [(o, { ob with fz := true })], [o], 0⟩)
      | _ => none
    | .arr n e, some (.iptr v) => (L e).bind fun de => match v with
      | .st xs => (boundA 0 (lo.bind ev)).bind fun a => (boundA n (hi.bind ev)).bind fun b =>
          some ((A.st xs).shp = d.sh ∧ n * de.byt ≤ maxBytes ∧ 0 ≤ a ∧ a ≤ b ∧ b ≤ n ∧ mx = none ∧ (lo.isSome = (lo.bind ev).isSome) ∧ (hi.isSome = (hi.bind ev).isSome), ⟨.sl e ((xs.take b.toNat).drop a.toNat), [], [], 0⟩)
      | _ => none
    | _, _ => none
  | .call { callee := .builtin b, args, argTypes } => match b, args.toList with
    | .len, [x] => match argTypes.toList with
      | [t] => (L t).bind fun d => match d.k with
        | .sl _ => (ev x).bind fun v => match v with
          | .sl _ xs => some (True, ⟨.int .i64 xs.length, [], [], 0⟩)
          | .nilsl => some (True, ⟨.int .i64 0, [], [], 0⟩)
          | .own _ _ _ n => some (True, ⟨.int .i64 n, [], [], 0⟩)
          | _ => none
        | _ => none
      | _ => none
    | .min, [x, y] => match ev x, ev y with
      | some (.int k a), some (.int k' b) => some (k = k', ⟨.int k (if b < a then b else a), [], [], 0⟩)
      | _, _ => none
    | .max, [x, y] => match ev x, ev y with
      | some (.int k a), some (.int k' b) => some (k = k', ⟨.int k (if a < b then b else a), [], [], 0⟩)
      | _, _ => none
    | .append, [x, y] => match argTypes.toList with
      | [t, t'] => if t = t' then (L t).bind fun d => match d.k with
        | .sl e => (ev y).bind fun w => (elemsOf h w).bind fun r => match ev x with
          | some .nilsl => (L e).bind fun de => some (r.1 ∧ (∀ x ∈ r.2.1, x.shp = de.sh) ∧ r.2.1.length * de.byt ≤ maxBytes, ⟨.own id 0 0 r.2.1.length, [(id, ⟨0, false, some e, .st r.2.1⟩)], r.2.2, 1⟩)
          | some (.own o ver off len) => (h o).bind fun ob => (L e).bind fun de =>
            if off + len + r.2.1.length ≤ (elems ob).length then
              some (r.1 ∧ ob.ver = ver ∧ ob.fz = false ∧ ob.e = some e ∧ (∀ x ∈ r.2.1, x.shp = de.sh),
                ⟨.own o ver off (len + r.2.1.length), [(o, { ob with val := .st ((elems ob).take (off + len) ++ r.2.1 ++ (elems ob).drop (off + len + r.2.1.length)) })], o :: r.2.2, 0⟩)
            else
              some (r.1 ∧ ob.ver = ver ∧ ob.fz = false ∧ ob.e = some e ∧ off = 0 ∧ len ≤ (elems ob).length ∧ (∀ x ∈ r.2.1, x.shp = de.sh) ∧ (len + r.2.1.length) * de.byt ≤ maxBytes,
                ⟨.own o (ver + 1) 0 (len + r.2.1.length), [(o, { ob with ver := ver + 1, val := .st ((elems ob).take len ++ r.2.1) })], o :: r.2.2, 0⟩)
          | _ => none
        | _ => none
        else none
      | _ => none
    | .clear, [x] => match argTypes.toList with
      | [t] => (L t).bind fun d => match d.k with
        | .sl e => (L e).bind fun de => match ev x with
          | some (.own o ver off len) => (h o).bind fun ob =>
              some (ob.ver = ver ∧ ob.fz = false ∧ ob.e = some e ∧ off + len ≤ (elems ob).length, ⟨.tup [], [(o, { ob with val := .st ((elems ob).take off ++ List.replicate len de.zero ++ (elems ob).drop (off + len)) })], [o], 0⟩)
          | _ => none
        | _ => none
      | _ => none
    | _, _ => none
  | _ => none

end Go.Ab

/- THE TABLE OF TYPES HELD AGAINST THE PROGRAM's; loads and stores of cells that stand for abstract values. -/
namespace Go.Ab

structure TOk (P : Program) (L : Lay) (t : TypeId) (d : TD) : Prop where
  pos : 0 < d.sh.width
  byt : 0 < d.byt
  eq : d.eq = true → P.stoodInHeld t = false ∧ P.eqGuardType P.depth t = false ∧ ∀ fs, P.underlying t = some (.struct fs) → ∀ f ∈ fs.toList, f.name ≠ "_"
  info : ∃ i z, P.info? t = some i ∧ i.size = d.sh.width ∧ i.bytes = d.byt ∧ i.zero = some z ∧ d.zero.flat = some z.cells.toList ∧ (d.zero.isSt = true ↔ ∃ c, z = .agg c) ∧ d.zero.shp = d.sh
  und : match d.k with
    | .int k => P.underlying t = some (.int k) ∧ d.sh = .leaf
    | .bool => P.underlying t = some .bool ∧ d.sh = .leaf
    | .str => P.underlying t = some .string ∧ d.sh = .leaf
    | .sl e => P.underlying t = some (.slice e) ∧ d.sh = .leaf
    | .arr n e => P.underlying t = some (.array n e) ∧ ∃ de, L e = some de ∧ d.sh = .node (List.replicate n de.sh)
    | .st fts => ∃ fs shs, P.underlying t = some (.struct fs) ∧ d.sh = .node shs ∧ shs.length = fts.length ∧ fs.size = fts.length ∧
        ∀ k ft, fts[k]? = some ft → ∃ df f, L ft = some df ∧ shs[k]? = some df.sh ∧ fs[k]? = some f ∧ f.type = ft ∧ f.offset = Sh.widths (shs.take k)
    | .other => d.sh = .leaf ∧ ∃ u, P.underlying t = some u ∧ (∀ fs, u ≠ .struct fs) ∧ (∀ n e, u ≠ .array n e) ∧ (∀ e, u ≠ .slice e)

def LOk (P : Program) (L : Lay) : Prop := ∀ t d, L t = some d → TOk P L t d

def Sh.isNode : Sh → Bool
  | .node _ => true
  | .leaf => false

theorem shp_isNode (x : A) : x.shp.isNode = x.isSt := by cases x <;> rfl

theorem run_isAgg {P L t d} (h : TOk P L t d) (w : World) : (isAgg t).run P w = .ok d.sh.isNode w := by
  have hu := h.und
  cases hk : d.k <;> simp only [hk] at hu
  case int k => obtain ⟨hu, hs⟩ := hu; simp [isAgg, run_underlying hu, hs, Sh.isNode]
  case bool => obtain ⟨hu, hs⟩ := hu; simp [isAgg, run_underlying hu, hs, Sh.isNode]
  case str => obtain ⟨hu, hs⟩ := hu; simp [isAgg, run_underlying hu, hs, Sh.isNode]
  case sl => obtain ⟨hu, hs⟩ := hu; simp [isAgg, run_underlying hu, hs, Sh.isNode]
  case arr => obtain ⟨hu, de, _, hs⟩ := hu; simp [isAgg, run_underlying hu, hs, Sh.isNode]
  case st => obtain ⟨fs, shs, hu, hs, _⟩ := hu; simp [isAgg, run_underlying hu, hs, Sh.isNode]
  case other =>
    obtain ⟨hs, u, hu, h1, h2, _⟩ := hu
    simp only [isAgg, Sem.run_bind, run_underlying hu, Result.andThen_ok, hs, Sh.isNode]
    cases u <;> simp_all

theorem run_sizeOf {P L t d} (h : TOk P L t d) (w : World) : (sizeOf t).run P w = .ok d.sh.width w := by
  obtain ⟨i, z, h1, h2, _⟩ := h.info
  simp [sizeOf, typeInfo, h1, h2]

theorem run_zeroValue {P L t d} (h : TOk P L t d) : ∃ z, (∀ w, (zeroValue t).run P w = .ok z w) ∧ d.zero.flat = some z.cells.toList ∧ (d.zero.isSt = true ↔ ∃ c, z = .agg c) := by
  obtain ⟨i, z, h1, h2, h3, h4, h5, h6, _⟩ := h.info
  exact ⟨z, fun w => by simp [zeroValue, typeInfo, h1, h4], h5, h6⟩

theorem esz_eq {P L t d} (h : TOk P L t d) : esz P t = d.sh.width := by
  obtain ⟨i, z, h1, h2, _⟩ := h.info
  simp [esz, Program.cellsOf, h1, h2]

theorem eby_eq {P L t d} (h : TOk P L t d) : eby P t = d.byt := by
  obtain ⟨i, z, h1, h2, h3, _⟩ := h.info
  simp [eby, Program.bytesOf, h1, h3]

mutual
theorem RC.of_flat {P w ob S} : ∀ (x : A) (cs : List Value), x.flat = some cs → RC P w ob S x cs
  | .int k n, cs, h => by
    simp only [A.flat] at h
    split at h
    · rename_i hw; simp at h; exact ⟨h.symm, hw⟩
    · simp at h
  | .bool b, cs, h => by simp [A.flat] at h; exact h.symm
  | .str s, cs, h => by simp [A.flat] at h; exact h.symm
  | .st fs, cs, h => RCs.of_flat fs cs h
  | .nilsl, cs, h => by simp [A.flat] at h; exact h.symm
  | .nilptr, cs, h => by simp [A.flat] at h; exact h.symm
  | .nilfn, cs, h => by simp [A.flat] at h; exact h.symm
  | .nilmp, cs, h => by simp [A.flat] at h; exact h.symm
  | .xo .., _, h => by simp [A.flat] at h
  | .nilif, cs, h => by simp [A.flat] at h; exact h.symm
  | .sl _ _, _, h => by simp [A.flat] at h
  | .own .., _, h => by simp [A.flat] at h
  | .ptr .., _, h => by simp [A.flat] at h
  | .iptr _, _, h => by simp [A.flat] at h
  | .fn .., _, h => by simp [A.flat] at h
  | .iface .., _, h => by simp [A.flat] at h
  | .tup _, _, h => by simp [A.flat] at h
theorem RCs.of_flat {P w ob S} : ∀ (l : List A) (cs : List Value), A.flats l = some cs → RCs P w ob S l cs
  | [], cs, h => by simp [A.flats] at h; exact h.symm ▸ rfl
  | x :: l, cs, h => by
    simp only [A.flats] at h
    cases hx : x.flat with
    | none => simp [hx] at h
    | some c =>
      cases hl : A.flats l with
      | none => simp [hx, hl] at h
      | some d =>
        simp [hx, hl] at h
        exact ⟨c, d, h.symm, RC.of_flat x c hx, RCs.of_flat l d hl⟩
end

/-- a leaf is one cell, and no aggregate -/
theorem RC.leaf {P w ob S} {x : A} {cs : List Value} (h : RC P w ob S x cs) (hs : x.isSt = false) : ∃ v, cs = [v] ∧ v.oneCell' = true ∧ v.cells = #[v] ∧ ¬ ∃ c, v = .agg c := by
  have hl := RC.len x cs h
  have h1 := RC.one x cs h
  have hsh : x.shp = .leaf := by cases x <;> first | rfl | (simp [A.isSt] at hs)
  rw [hsh] at hl
  simp only [Sh.width] at hl
  obtain ⟨v, rfl⟩ := List.length_eq_one_iff.1 hl
  have hv := h1 v (by simp)
  refine ⟨v, rfl, hv, ?_, ?_⟩
  · cases v <;> first | rfl | (simp [Value.oneCell'] at hv)
  · rintro ⟨c, rfl⟩; simp [Value.oneCell'] at hv

theorem RV1.cells {P w ob S} {x : A} {v : Value} (h : RV1 P w ob S x v) : v.cells.toList.length = x.shp.width := RC.len _ _ h.1

/-- a value made of cells -/
def mkVal (node : Bool) (cs : List Value) : Value := if node then .agg cs.toArray else cs.headD undef

theorem RV1.mk {P w ob S} {x : A} {cs : List Value} (h : RC P w ob S x cs) : RV1 P w ob S x (mkVal x.shp.isNode cs) := by
  rw [shp_isNode]
  cases hs : x.isSt with
  | true => simp [mkVal, RV1, Value.cells, h, hs]
  | false =>
    obtain ⟨v, rfl, h1, h2, h3⟩ := RC.leaf h hs
    have h3' : ¬ ∃ c, mkVal false [v] = .agg c := by simpa [mkVal] using h3
    refine ⟨by simpa [mkVal, h2] using h, ?_⟩
    rw [hs]
    exact ⟨(fun h => by cases h), fun h => (h3' h).elim⟩

theorem RV1.st {P w ob S} {fs : List A} {v : Value} (h : RV1 P w ob S (.st fs) v) : ∃ c : Array Value, v = .agg c ∧ RCs P w ob S fs c.toList := by
  obtain ⟨c, rfl⟩ := h.2.1 rfl
  exact ⟨c, rfl, h.1⟩

theorem cell_of_run {w : World} {b off : Nat} {l : List Value} (h : World.run w b off l) (j : Nat) (v : Value) (hj : l[j]? = some v) : w.cell? ((⟨b, off, none⟩ : Addr).add j) = some v := by
  obtain ⟨arr, t, fz, h1, pre, post, h2, h3⟩ := h
  have hadd : (⟨b, off, none⟩ : Addr).add j = ⟨b, off + j, none⟩ := by unfold Addr.add; split <;> simp_all
  rw [hadd]
  simp only [World.cell?, h1, Option.isSome_none, Bool.false_eq_true, if_false]
  rw [← Array.getElem?_toList, h2, List.append_assoc, List.getElem?_append_right (by omega), List.getElem?_append_left (by rw [h3]; simp; exact (List.getElem?_eq_some_iff.1 hj).1)]
  rw [← h3]; simpa using hj

theorem run_loadVar_of {P L t d} (ht : TOk P L t d) {w : World} {b off : Nat} {l : List Value} (h : World.run w b off l) (hl : l.length = d.sh.width) :
    (loadVar t ⟨b, off, none⟩).run P w = .ok (mkVal d.sh.isNode l) w := by
  have hc := run_loadCells_list (P := P) w ⟨b, off, none⟩ l (cell_of_run h)
  simp only [loadVar, Sem.run_bind, run_isAgg ht, Result.andThen_ok]
  cases hn : d.sh.isNode with
  | true => simp [run_sizeOf ht, ← hl, hc, mkVal]
  | false =>
    have : d.sh = .leaf := by cases hd : d.sh <;> simp_all [Sh.isNode]
    rw [this] at hl
    obtain ⟨v, rfl⟩ := List.length_eq_one_iff.1 hl
    have := cell_of_run h 0 v rfl
    simp [mkVal, Addr.add] at this ⊢
    simp [this]

end Go.Ab

/- THE STATE's RELATION, and what one step may do to it. -/
namespace Go.Ab

def RObj (P : Program) (L : Lay) (w : World) (ob : Nat → Option OI) (S : Nat → Prop) (x : Ob) (oi : OI) : Prop :=
  oi.ver = x.ver ∧ oi.e = x.e ∧
  match oi.blk with
  | none => x.val = .st [] ∧ x.e.isSome = true ∧ oi.cap = 0
  | some b => ∃ arr t, w.heap[b]? = some (.cells arr t (0, 0)) ∧
    match x.e with
    | none => oi.sh = x.val.shp ∧ RC P w ob S x.val arr.toList
    | some e => ∃ xs de cl rest, x.val = .st xs ∧ L e = some de ∧ (∀ y ∈ xs, y.shp = de.sh) ∧ oi.sh = .node (List.replicate oi.cap de.sh) ∧ xs.length ≤ oi.cap ∧
        arr.toList = cl ++ rest ∧ RCs P w ob S xs cl ∧ arr.size = oi.cap * de.sh.width ∧ xs.length * de.byt ≤ maxBytes ∧ xs.length ≤ maxBytes

structure RS (P : Program) (L : Lay) (mine : Nat → Prop) (tm : Nat → Option A) (hp : Hp) (fr : Nat → Prop) (tmps : Array Value) (w : World) (ob : Nat → Option OI) (S : Nat → Prop) : Prop where
  tm : ∀ t x, tm t = some x → RV P w ob S x (tmps.getD t undef)
  hp : ∀ o x, hp o = some x → ∃ oi, ob o = some oi ∧ RObj P L w ob S x oi ∧ (x.fz = false → ∀ b, oi.blk = some b → ¬ S b ∧ mine b) ∧ (x.fz = true → ∀ b, oi.blk = some b → S b)
  inj : ∀ o o' oi oi' b, ob o = some oi → ob o' = some oi' → oi.blk = some b → oi'.blk = some b → o = o'
  blk : ∀ o oi b, ob o = some oi → oi.blk = some b → b < w.heap.size
  st : ∀ b, S b → b < w.heap.size
  fr : ∀ o, fr o → ob o = none
  mine : ∀ b, w.heap.size ≤ b → mine b

structure Does (P : Program) (L : Lay) (w : World) (ob : Nat → Option OI) (S : Nat → Prop) (wr : List (Nat × Ob)) (w' : World) (ob' : Nat → Option OI) (S' : Nat → Prop) : Prop where
  same : Same w w'
  size : w.heap.size ≤ w'.heap.size
  sub : ∀ b, S b → S' b
  new : ∀ b, S' b → S b ∨ (w.heap.size ≤ b ∧ b < w'.heap.size) ∨ ∃ o x oi, look wr o = some x ∧ ob o = some oi ∧ oi.blk = some b
  keep : ∀ b, b < w.heap.size → (∀ o x oi, look wr o = some x → ob o = some oi → oi.blk ≠ some b) → w'.heap[b]? = w.heap[b]?
  keepS : ∀ b, S b → w'.heap[b]? = w.heap[b]?
  tab : ∀ o, look wr o = none → ob' o = ob o
  objs : ∀ o x, look wr o = some x → ∃ oi', ob' o = some oi' ∧ RObj P L w' ob' S' x oi' ∧ (∀ oi, ob o = some oi → oi.ver ≤ oi'.ver ∧ (oi'.ver = oi.ver → oi' = oi)) ∧
      (∀ b, oi'.blk = some b → b < w'.heap.size ∧ (w.heap.size ≤ b ∨ ∃ oi, ob o = some oi ∧ oi.blk = some b) ∧ (x.fz = true → S' b) ∧ (x.fz = false → ¬ S' b))
  inj : ∀ o o' oi oi' b, ob' o = some oi → ob' o' = some oi' → oi.blk = some b → oi'.blk = some b → o = o'

theorem Does.ext {P L w ob S wr w' ob' S'} (d : Does P L w ob S wr w' ob' S') : Ext w ob S w' ob' S' := by
  refine ⟨d.size, fun b hb => ⟨d.sub b hb, d.keepS b hb⟩, fun o oi ho => ?_⟩
  cases hw : look wr o with
  | none => exact ⟨oi, (d.tab o hw).trans ho, Nat.le_refl _, fun _ => rfl⟩
  | some x =>
    obtain ⟨oi', h1, h2, h3, h4⟩ := d.objs o x hw
    obtain ⟨h5, h6⟩ := h3 oi ho
    exact ⟨oi', h1, h5, h6⟩

theorem RObj.mono {P L w ob S w' ob' S'} (x : Ext w ob S w' ob' S') {y : Ob} {oi : OI} (hk : ∀ b, oi.blk = some b → w'.heap[b]? = w.heap[b]?) (h : RObj P L w ob S y oi) : RObj P L w' ob' S' y oi := by
  obtain ⟨h1, h2, h3⟩ := h
  refine ⟨h1, h2, ?_⟩
  cases hb : oi.blk with
  | none => simpa [hb] using h3
  | some b =>
    simp only [hb] at h3 ⊢
    obtain ⟨arr, t, k1, k2⟩ := h3
    refine ⟨arr, t, (hk b hb).trans k1, ?_⟩
    cases he : y.e with
    | none => simp only [he] at k2 ⊢; exact ⟨k2.1, RC.mono x _ _ k2.2⟩
    | some e =>
      simp only [he] at k2 ⊢
      obtain ⟨xs, de, cl, rest, q1, q2, q3, q4, q5, q6, q7, q8⟩ := k2
      exact ⟨xs, de, cl, rest, q1, q2, q3, q4, q5, q6, RCs.mono x _ _ q7, q8⟩

def upf {α : Type} (f : Nat → Option α) (d : Option Nat) (x : α) : Nat → Option α := fun t => if d = some t then some x else f t
def uph (h : Hp) (wr : List (Nat × Ob)) : Hp := fun o => match look wr o with | some x => some x | none => h o

theorem put_getD (a : Act) (d : Option Tmp) (v : Value) (t : Nat) (hd : ∀ k, d = some k → k < a.tmps.size) :
    (a.put d v).tmps.getD t undef = if d = some t then v else a.tmps.getD t undef := by
  cases d with
  | none => simp [Act.put]
  | some k =>
    have hk := hd k rfl
    simp only [Act.put, Option.some.injEq]
    by_cases e : k = t
    · subst e; simp [hk]
    · simp [e, Array.getD_eq_getD_getElem?, Array.getElem?_setIfInBounds]

/-- ONE STEP. -/
theorem RS.after {P L mine tm hp w ob S} {fr fr' : Nat → Prop} {nx : Nat} {a : Act} (r : RS P L mine tm hp fr a.tmps w ob S) {δ : Dl} {w' ob' S'} (d : Does P L w ob S δ.wr w' ob' S') {v : Value} (hv : RV P w' ob' S' δ.v v)
    (hm : ∀ o x, look δ.wr o = some x → (∃ y, hp o = some y ∧ (x.fz = false → y.fz = false)) ∨ (nx ≤ o ∧ o < nx + δ.nw))
    (hfr : ∀ o, nx ≤ o → o < nx + δ.nw → fr o) (hfr' : ∀ o, fr' o → fr o ∧ ¬ (nx ≤ o ∧ o < nx + δ.nw))
    (dst : Option Tmp) (hd : ∀ k, dst = some k → k < a.tmps.size) :
    RS P L mine (upf tm dst δ.v) (uph hp δ.wr) fr' (a.put dst v).tmps w' ob' S' := by
  have x := d.ext
  refine ⟨fun t y ht => ?_, fun o y ho => ?_, d.inj, fun o oi b ho hb => ?_, fun b hb => ?_, fun o ho => ?_, fun b hb => r.mine b (Nat.le_trans d.size hb)⟩
  · rw [put_getD a dst v t hd]
    unfold upf at ht
    by_cases e : dst = some t
    · simp only [e, if_true, Option.some.injEq] at ht ⊢; subst ht; exact hv
    · simp only [e, if_false] at ht ⊢; exact RV.mono x (r.tm t y ht)
  · unfold uph at ho
    cases hw : look δ.wr o with
    | some z =>
      simp only [hw, Option.some.injEq] at ho; subst ho
      obtain ⟨oi', h1, h2, h3, h4⟩ := d.objs o z hw
      refine ⟨oi', h1, h2, fun hf b hb => ⟨(h4 b hb).2.2.2 hf, ?_⟩, fun hf b hb => (h4 b hb).2.2.1 hf⟩
      rcases (h4 b hb).2.1 with hb' | ⟨oi, ho, hob⟩
      · exact r.mine b hb'
      · rcases hm o z hw with ⟨y, hy, hyf⟩ | hn
        · obtain ⟨oi2, q1, q2, q3, q4⟩ := r.hp o y hy
          rw [ho] at q1; cases q1
          exact (q3 (hyf hf) b hob).2
        · rw [r.fr o (hfr o hn.1 hn.2)] at ho; cases ho
    | none =>
      simp only [hw] at ho
      obtain ⟨oi, h1, h2, h3, h4⟩ := r.hp o y ho
      have hke : ∀ b, oi.blk = some b → w'.heap[b]? = w.heap[b]? := fun b hb => d.keep b (r.blk o oi b h1 hb) fun o' x' oi' hw' ho' hb' => by
        have := r.inj o' o oi' oi b ho' h1 hb' hb
        subst this; rw [hw] at hw'; cases hw'
      refine ⟨oi, (d.tab o hw).trans h1, RObj.mono x hke h2, fun hf b hb => ⟨fun hS => ?_, (h3 hf b hb).2⟩, fun hf b hb => d.sub b (h4 hf b hb)⟩
      rcases d.new b hS with q | ⟨q, _⟩ | ⟨o', x', oi', q1, q3, q4⟩
      · exact (h3 hf b hb).1 q
      · exact absurd (r.blk o oi b h1 hb) (by omega)
      · have := r.inj o' o oi' oi b q3 h1 q4 hb
        subst this; rw [hw] at q1; cases q1
  · cases hw : look δ.wr o with
    | some z =>
      obtain ⟨oi', h1, h2, h3, h4⟩ := d.objs o z hw
      rw [h1] at ho; cases ho
      exact (h4 b hb).1
    | none =>
      rw [d.tab o hw] at ho
      exact Nat.lt_of_lt_of_le (r.blk o oi b ho hb) d.size
  · rcases d.new b hb with q | ⟨_, q⟩ | ⟨o', x', oi', q1, q3, q4⟩
    · exact Nat.lt_of_lt_of_le (r.st b q) d.size
    · exact q
    · exact Nat.lt_of_lt_of_le (r.blk o' oi' b q3 q4) d.size
  · cases hw : look δ.wr o with
    | some z =>
      rcases hm o z hw with ⟨y, hy, -⟩ | hn
      · obtain ⟨oi, q1, -⟩ := r.hp o y hy
        rw [r.fr o (hfr' o ho).1] at q1; cases q1
      · exact absurd hn (hfr' o ho).2
    | none => rw [d.tab o hw]; exact r.fr o (hfr' o ho).1

/-- A step that writes nothing. -/
theorem Does.refl {P L mine tm hp fr tmps w ob S} (r : RS P L mine tm hp fr tmps w ob S) : Does P L w ob S [] w ob S :=
  ⟨Same.refl _, Nat.le_refl _, fun _ h => h, fun _ h => .inl h, fun _ _ _ => rfl, fun _ _ => rfl, fun _ _ => rfl, fun _ _ h => by simp [look] at h, r.inj⟩

end Go.Ab

/- FOUR KINDS OF STEPS: a new object, a store, a row that has grown, a freeze; and what an operand stands for. -/
namespace Go.Ab

def upo (ob : Nat → Option OI) (o : Nat) (oi : OI) : Nat → Option OI := fun k => if k = o then some oi else ob k

theorem look_one {α : Type} (o : Nat) (x : α) (k : Nat) : look [(o, x)] k = if k = o then some x else none := rfl

section
variable {P : Program} {L : Lay} {mine : Nat → Prop} {tm : Nat → Option A} {hp : Hp} {nx : Nat} {fr : Nat → Prop} {tmps : Array Value} {w : World} {ob : Nat → Option OI} {S : Nat → Prop}

/-- a new object in a new block (or in none yet) -/
theorem does_new (r : RS P L mine tm hp fr tmps w ob S) (hfr : fr nx) {w' : World} (hsm : Same w w') {x : Ob} {oi : OI} (hf : x.fz = false) (hs : w.heap.size ≤ w'.heap.size)
    (hk : ∀ b, b < w.heap.size → w'.heap[b]? = w.heap[b]?) (hb : ∀ b, oi.blk = some b → w.heap.size ≤ b ∧ b < w'.heap.size)
    (ho : RObj P L w' (upo ob nx oi) S x oi) : Does P L w ob S [(nx, x)] w' (upo ob nx oi) S := by
  have hn := r.fr nx hfr
  refine ⟨hsm, hs, fun _ h => h, fun _ h => .inl h, fun b hb _ => hk b hb, fun b hb => hk b (r.st b hb), fun o hw => ?_, fun o y hw => ?_, fun o o' oi1 oi2 b h1 h2 h3 h4 => ?_⟩
  · rw [look_one] at hw
    split at hw
    · cases hw
    · rename_i h; simp [upo, h]
  · rw [look_one] at hw
    split at hw
    · rename_i h; cases hw; subst h
      refine ⟨oi, by simp [upo], ho, (fun oi' h' => by rw [hn] at h'; cases h'), fun b h' => ⟨(hb b h').2, .inl (hb b h').1, (fun h => by rw [hf] at h; cases h), fun _ hS => ?_⟩⟩
      exact absurd (r.st b hS) (by have := (hb b h').1; omega)
    · cases hw
  · by_cases e1 : o = nx
    · by_cases e2 : o' = nx
      · rw [e1, e2]
      · simp [upo, e1] at h1; simp [upo, e2] at h2; subst h1
        exact absurd (r.blk o' oi2 b h2 h4) (by have := (hb b h3).1; omega)
    · by_cases e2 : o' = nx
      · simp [upo, e2] at h2; simp [upo, e1] at h1; subst h2
        exact absurd (r.blk o oi1 b h1 h3) (by have := (hb b h4).1; omega)
      · simp [upo, e1] at h1; simp [upo, e2] at h2
        exact r.inj o o' oi1 oi2 b h1 h2 h3 h4

/-- an object's cells are written: nothing of it turns but what it holds -/
theorem does_write (r : RS P L mine tm hp fr tmps w ob S) {w' : World} (hsm : Same w w') {o : Nat} {y x : Ob} {oi : OI} (hy : hp o = some y) (hyf : y.fz = false) (hf : x.fz = false) (hoi : ob o = some oi)
    (hs : w.heap.size ≤ w'.heap.size) (hk : ∀ b, b < w.heap.size → oi.blk ≠ some b → w'.heap[b]? = w.heap[b]?) (ho : RObj P L w' ob S x oi) : Does P L w ob S [(o, x)] w' ob S := by
  obtain ⟨oi1, q1, q2, q3, q4⟩ := r.hp o y hy
  rw [hoi] at q1; cases q1
  refine ⟨hsm, hs, fun _ h => h, fun _ h => .inl h, fun b hb h => hk b hb (h o x oi (by simp [look_one]) hoi), fun b hb => hk b (r.st b hb) (fun e => (q3 hyf b e).1 hb), fun _ _ => rfl, fun o' z hw => ?_, r.inj⟩
  rw [look_one] at hw
  split at hw
  · rename_i e; cases hw; subst e
    refine ⟨oi, hoi, ho, (fun oi' h' => by rw [hoi] at h'; cases h'; exact ⟨Nat.le_refl _, fun _ => rfl⟩), fun b h' => ⟨Nat.lt_of_lt_of_le (r.blk _ oi b hoi h') hs, .inr ⟨oi, hoi, h'⟩, (fun h => by rw [hf] at h; cases h), fun _ => (q3 hyf b h').1⟩⟩
  · cases hw

/-- an object has moved to a new block: a new version -/
theorem does_move (r : RS P L mine tm hp fr tmps w ob S) {w' : World} (hsm : Same w w') {o : Nat} {y x : Ob} {oi oi' : OI} (hyf : y.fz = false) (hf : x.fz = false) (hy : hp o = some y) (hoi : ob o = some oi)
    (hs : w.heap.size ≤ w'.heap.size) (hk : ∀ b, b < w.heap.size → oi.blk ≠ some b → w'.heap[b]? = w.heap[b]?) (hv : oi'.ver = oi.ver + 1)
    (hb : ∀ b, oi'.blk = some b → (w.heap.size ≤ b ∧ b < w'.heap.size) ∨ oi.blk = some b)
    (ho : RObj P L w' (upo ob o oi') S x oi') : Does P L w ob S [(o, x)] w' (upo ob o oi') S := by
  obtain ⟨oi1, q1, q2, q3, q4⟩ := r.hp o y hy
  rw [hoi] at q1; cases q1
  refine ⟨hsm, hs, fun _ h => h, fun _ h => .inl h, fun b hb h => hk b hb (h o x oi (by simp [look_one]) hoi), fun b hb => hk b (r.st b hb) (fun e => (q3 hyf b e).1 hb), fun o' hw => ?_, fun o' z hw => ?_, fun o1 o2 oi1 oi2 b h1 h2 h3 h4 => ?_⟩
  · rw [look_one] at hw
    split at hw
    · cases hw
    · rename_i h; simp [upo, h]
  · rw [look_one] at hw
    split at hw
    · rename_i e; cases hw; subst e
      refine ⟨oi', by simp [upo], ho, (fun oi2 h' => by rw [hoi] at h'; cases h'; exact ⟨by omega, fun h => by omega⟩), fun b h' => ?_⟩
      rcases hb b h' with ⟨h5, h6⟩ | h5
      · exact ⟨h6, .inl h5, (fun h => by rw [hf] at h; cases h), fun _ hS => absurd (r.st b hS) (by omega)⟩
      · exact ⟨Nat.lt_of_lt_of_le (r.blk _ oi b hoi h5) hs, .inr ⟨oi, hoi, h5⟩, (fun h => by rw [hf] at h; cases h), fun _ => (q3 hyf b h5).1⟩
    · cases hw
  · have key : ∀ k oik, k ≠ o → upo ob o oi' k = some oik → oik.blk = some b → oi'.blk = some b → False := fun k oik hne hk' hb1 hb2 => by
      simp [upo, hne] at hk'
      rcases hb b hb2 with ⟨h5, h6⟩ | h5
      · exact absurd (r.blk k oik b hk' hb1) (by omega)
      · exact hne (r.inj k o oik oi b hk' hoi hb1 h5)
    by_cases e1 : o1 = o
    · by_cases e2 : o2 = o
      · rw [e1, e2]
      · simp [upo, e1] at h1; subst h1; exact (key o2 oi2 e2 h2 h4 h3).elim
    · by_cases e2 : o2 = o
      · simp [upo, e2] at h2; subst h2; exact (key o1 oi1 e1 h1 h3 h4).elim
      · simp [upo, e1] at h1; simp [upo, e2] at h2
        exact r.inj o1 o2 oi1 oi2 b h1 h2 h3 h4

/-- an object is written no more -/
theorem does_freeze (r : RS P L mine tm hp fr tmps w ob S) {o : Nat} {y : Ob} {oi : OI} (hy : hp o = some y) (hoi : ob o = some oi) :
    Does P L w ob S [(o, { y with fz := true })] w ob (fun b => S b ∨ oi.blk = some b) := by
  obtain ⟨oi1, q1, q2, q3, q4⟩ := r.hp o y hy
  rw [hoi] at q1; cases q1
  have hx : Ext w ob S w ob (fun b => S b ∨ oi.blk = some b) := ⟨Nat.le_refl _, fun b hb => ⟨.inl hb, rfl⟩, fun o oi ho => ⟨oi, ho, Nat.le_refl _, fun _ => rfl⟩⟩
  refine ⟨Same.refl _, Nat.le_refl _, fun _ h => .inl h, fun b h => ?_, fun _ _ _ => rfl, fun _ _ => rfl, fun _ _ => rfl, fun o' z hw => ?_, r.inj⟩
  · rcases h with h | h
    · exact .inl h
    · exact .inr (.inr ⟨o, { y with fz := true }, oi, by simp [look_one], hoi, h⟩)
  · rw [look_one] at hw
    split at hw
    · rename_i e; cases hw; subst e
      refine ⟨oi, hoi, ?_, (fun oi' h' => by rw [hoi] at h'; cases h'; exact ⟨Nat.le_refl _, fun _ => rfl⟩), fun b h' => ⟨r.blk _ oi b hoi h', .inr ⟨oi, hoi, h'⟩, fun _ => .inr h', fun h => by cases h⟩⟩
      have := RObj.mono hx (fun _ _ => rfl) q2
      exact this
    · cases hw

theorem constA_rv {v : Value} {y : A} (h : constA v = some y) : RV P w ob S y v := by
  unfold constA at h
  split at h <;> (try split at h) <;> simp at h <;> subst h <;> first
    | exact ⟨⟨rfl, by assumption⟩, by simp [A.isSt]⟩
    | exact ⟨by simp [RC, Value.cells], by simp [A.isSt]⟩

theorem evA_rv {mine : Nat → Prop} {tm : Nat → Option A} {hp : Hp} {fr : Nat → Prop} {a : Act} (r : RS P L mine tm hp fr a.tmps w ob S) {x : Operand} {y : A} (h : evA tm x = some y) : RV P w ob S y (a.eval x) := by
  cases x with
  | tmp t => exact r.tm t y h
  | const v => exact constA_rv h
  | global g => simp [evA] at h
  | func f => simp [evA] at h; subst h; exact ⟨by simp [RC, Act.eval, Value.cells, RVl], by simp [A.isSt, Act.eval]⟩

/-- What is asked of the run of one operation. -/
def Good (P : Program) (L : Lay) (hp : Hp) (nx : Nat) (w : World) (ob : Nat → Option OI) (S : Nat → Prop) (δ : Dl) (res : Result Next) : Prop :=
  ∃ v w' ob' S', (res = .ok (.value v) w' ∨ (res = .ok .skip w' ∧ v = undef)) ∧ Does P L w ob S δ.wr w' ob' S' ∧ RV P w' ob' S' δ.v v ∧
    (∀ o x, look δ.wr o = some x → (∃ y, hp o = some y ∧ (x.fz = false → y.fz = false)) ∨ (nx ≤ o ∧ o < nx + δ.nw))

theorem Good.pure (r : RS P L mine tm hp fr tmps w ob S) {y : A} {rd : List Nat} {n : Nat} {v : Value} {res : Result Next} (h : res = .ok (.value v) w) (hv : RV P w ob S y v) : Good P L hp nx w ob S ⟨y, [], rd, n⟩ res :=
  ⟨v, w, ob, S, .inl h, Does.refl r, hv, fun _ _ h => by simp [look] at h⟩

theorem RV.one {x : A} (h : ∀ vs, x ≠ .tup vs) {v : Value} : RV P w ob S x v ↔ RV1 P w ob S x v := by
  cases x <;> first | exact Iff.rfl | exact absurd rfl (h _)

theorem RV1.int {k : IntKind} {n : Int} {v : Value} : RV1 P w ob S (.int k n) v ↔ v = .int k n ∧ k.wrap n = n := by
  constructor
  · intro h
    obtain ⟨u, h1, h2, h3, h4⟩ := RC.leaf h.1 rfl
    obtain ⟨h5, h6⟩ := h.1
    refine ⟨?_, h6⟩
    have hn : ¬ ∃ c, v = .agg c := fun hc => by have := h.2.2 hc; simp [A.isSt] at this
    cases v <;> simp_all [Value.cells]
  · rintro ⟨rfl, h⟩
    exact ⟨⟨rfl, h⟩, by simp [A.isSt]⟩

theorem RV1.leaf {x : A} {v : Value} (h : RV1 P w ob S x v) (hs : x.isSt = false) : v.cells = #[v] ∧ RC P w ob S x [v] ∧ ¬ ∃ c, v = .agg c := by
  have h3 : ¬ ∃ c, v = .agg c := fun hc => by have := h.2.2 hc; rw [hs] at this; cases this
  have h4 : v.cells = #[v] := by cases v <;> first | rfl | exact absurd ⟨_, rfl⟩ h3
  have := h.1
  rw [h4] at this
  exact ⟨h4, this, h3⟩

theorem RV1.of_leaf {x : A} {v : Value} (h : RC P w ob S x [v]) (hs : x.isSt = false) : RV1 P w ob S x v := by
  obtain ⟨u, h1, h2, h3, h4⟩ := RC.leaf h hs
  cases h1
  refine ⟨by rw [h3]; exact h, by rw [hs]; exact ⟨(fun e => by cases e), fun e => (h4 e).elim⟩⟩

end
end Go.Ab
