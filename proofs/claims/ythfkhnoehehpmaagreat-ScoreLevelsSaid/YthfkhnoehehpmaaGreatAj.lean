import Derived.Test.YthfkhnoehehpmaaGreatAh
set_option linter.unusedVariables false
set_option linter.unusedSimpArgs false
/- THE ABSTRACT STEP, COMPUTED: for closed programs. -/
namespace Go.Ab

mutual
def Sh.eqb : Sh → Sh → Bool
  | .leaf, .leaf => true
  | .node l, .node m => Sh.eqbs l m
  | _, _ => false
def Sh.eqbs : List Sh → List Sh → Bool
  | [], [] => true
  | x :: l, y :: m => Sh.eqb x y && Sh.eqbs l m
  | _, _ => false
end

mutual
theorem Sh.eqb_eq : ∀ (a b : Sh), Sh.eqb a b = true → a = b
  | .leaf, .leaf, _ => rfl
  | .node l, .node m, h => by rw [Sh.eqbs_eq l m h]
  | .leaf, .node _, h => by simp [Sh.eqb] at h
  | .node _, .leaf, h => by simp [Sh.eqb] at h
theorem Sh.eqbs_eq : ∀ (a b : List Sh), Sh.eqbs a b = true → a = b
  | [], [], _ => rfl
  | x :: l, y :: m, h => by
    simp only [Sh.eqbs, Bool.and_eq_true] at h
    rw [Sh.eqb_eq x y h.1, Sh.eqbs_eq l m h.2]
  | [], _ :: _, h => by simp [Sh.eqbs] at h
  | _ :: _, [], h => by simp [Sh.eqbs] at h
end

mutual
def A.plain : A → Bool
  | .int _ _ => true
  | .bool _ => true
  | .str _ => true
  | .st fs => A.plains fs
  | _ => false
def A.plains : List A → Bool
  | [] => true
  | x :: l => A.plain x && A.plains l
end

mutual
def A.eqb : A → A → Bool
  | .int k n, .int k' n' => decide (k = k') && n == n'
  | .bool a, .bool b => a == b
  | .str a, .str b => a == b
  | .st l, .st m => A.eqbs l m
  | _, _ => false
def A.eqbs : List A → List A → Bool
  | [], [] => true
  | x :: l, y :: m => A.eqb x y && A.eqbs l m
  | _, _ => false
end

mutual
theorem A.eqb_iff : ∀ (a b : A), a.plain = true → (A.eqb a b = true ↔ a = b)
  | .int k n, b, _ => by cases b <;> simp [A.eqb]
  | .bool x, b, _ => by cases b <;> simp [A.eqb]
  | .str x, b, _ => by cases b <;> simp [A.eqb]
  | .st l, b, h => by
    cases b <;> simp only [A.eqb, reduceCtorEq, Bool.false_eq_true, A.st.injEq]
    rename_i m
    exact A.eqbs_iff l m h
  | .sl .., _, h => by simp [A.plain] at h
  | .nilsl, _, h => by simp [A.plain] at h
  | .own .., _, h => by simp [A.plain] at h
  | .ptr .., _, h => by simp [A.plain] at h
  | .iptr _, _, h => by simp [A.plain] at h
  | .nilptr, _, h => by simp [A.plain] at h
  | .fn .., _, h => by simp [A.plain] at h
  | .nilfn, _, h => by simp [A.plain] at h
  | .nilmp, _, h => by simp [A.plain] at h
  | .xo .., _, h => by simp [A.plain] at h
  | .iface .., _, h => by simp [A.plain] at h
  | .nilif, _, h => by simp [A.plain] at h
  | .tup _, _, h => by simp [A.plain] at h
theorem A.eqbs_iff : ∀ (a b : List A), A.plains a = true → (A.eqbs a b = true ↔ a = b)
  | [], b, _ => by cases b <;> simp [A.eqbs]
  | x :: l, b, h => by
    simp only [A.plains, Bool.and_eq_true] at h
    cases b with
    | nil => simp [A.eqbs]
    | cons y m => simp only [A.eqbs, Bool.and_eq_true, A.eqb_iff x y h.1, A.eqbs_iff l m h.2, List.cons.injEq]
end

def confB (L : Lay) : Nat → TypeId → A → Bool
  | 0, _, _ => false
  | n + 1, t, x => match L t with
    | some d => match d.k, x with
      | .int k, .int k' _ => decide (k = k')
      | .bool, .bool _ => true
      | .str, .str _ => true
      | .arr m e, .st xs => xs.length == m && xs.all fun y => confB L n e y
      | .st fts, .st xs => d.eq && (xs.length == fts.length && (fts.zip xs).all fun p => confB L n p.1 p.2)
      | _, _ => false
    | none => false

theorem confB_conf {L : Lay} : ∀ (n : Nat) (t : TypeId) (x : A), confB L n t x = true → Conf L n t x ∧ x.plain = true
  | 0, _, _, h => by simp [confB] at h
  | n + 1, t, x, h => by
    simp only [confB] at h
    have hpl : ∀ l : List A, (∀ y ∈ l, y.plain = true) → A.plains l = true := fun l => by
      induction l with
      | nil => intro _; rfl
      | cons y l ih => intro h; simp only [A.plains, h y (by simp), ih fun z hz => h z (by simp [hz]), Bool.and_self]
    cases hd : L t with
    | none => simp [hd] at h
    | some d =>
      simp only [hd] at h
      simp only [Conf, hd]
      split at h
      · rename_i k k' _ hk; simp only [hk]; have := of_decide_eq_true h; subst this; exact ⟨⟨_, rfl⟩, rfl⟩
      · rename_i hk; simp only [hk]; exact ⟨⟨_, rfl⟩, rfl⟩
      · rename_i hk; simp only [hk]; exact ⟨⟨_, rfl⟩, rfl⟩
      · rename_i m e xs hk
        simp only [hk]
        simp only [Bool.and_eq_true, beq_iff_eq, List.all_eq_true] at h
        exact ⟨⟨xs, rfl, h.1, fun y hy => (confB_conf n e y (h.2 y hy)).1⟩, hpl xs fun y hy => (confB_conf n e y (h.2 y hy)).2⟩
      · rename_i fts xs hk
        simp only [hk]
        simp only [Bool.and_eq_true, beq_iff_eq, List.all_eq_true] at h
        obtain ⟨h1, h2, h3⟩ := h
        refine ⟨⟨h1, xs, rfl, h2, fun i ft y hi hy => (confB_conf n ft y (h3 (ft, y) (List.mem_of_getElem? (i := i) (by rw [List.getElem?_zip_eq_some]; exact ⟨hi, hy⟩)))).1⟩, hpl xs fun y hy => ?_⟩
        obtain ⟨i, hi⟩ := List.mem_iff_getElem?.1 hy
        have hi' : i < fts.length := by
          have := (List.getElem?_eq_some_iff.1 hi).1
          omega
        exact (confB_conf n fts[i] y (h3 (fts[i], y) (List.mem_of_getElem? (i := i) (by rw [List.getElem?_zip_eq_some]; exact ⟨List.getElem?_eq_getElem hi', hi⟩)))).2
      · cases h

def gd {α : Type} (b : Bool) (x : α) : Option α := match b with
  | true => some x
  | false => none

theorem gd_some {α : Type} {b : Bool} {x y : α} (h : gd b x = some y) : b = true ∧ x = y := by
  cases b
  · simp [gd] at h
  · simp only [gd, Option.some.injEq] at h; exact ⟨rfl, h⟩

def binC (L : Lay) (op : BinOp) (t : TypeId) (x y : A) : Option A :=
  match op, x, y with
  | .shl, .int k a, .int _ b => gd (decide (0 ≤ b)) (.int k (k.wrap (a * 2 ^ (min b.toNat k.bits))))
  | .shr, .int k a, .int _ b => gd (decide (0 ≤ b)) (.int k (a.fdiv (2 ^ (min b.toNat k.bits))))
  | .add, .int k a, .int k' b => gd (decide (k = k')) (.int k (k.wrap (a + b)))
  | .sub, .int k a, .int k' b => gd (decide (k = k')) (.int k (k.wrap (a - b)))
  | .mul, .int k a, .int k' b => gd (decide (k = k')) (.int k (k.wrap (a * b)))
  | .quo, .int k a, .int k' b => gd (decide (k = k') && decide (b ≠ 0)) (.int k (k.wrap (a.tdiv b)))
  | .rem, .int k a, .int k' b => gd (decide (k = k') && decide (b ≠ 0)) (.int k (a.tmod b))
  | .and, .int k a, .int k' b => gd (decide (k = k')) (.int k (k.wrap (BitVec.ofInt k.bits a &&& BitVec.ofInt k.bits b).toNat))
  | .or, .int k a, .int k' b => gd (decide (k = k')) (.int k (k.wrap (BitVec.ofInt k.bits a ||| BitVec.ofInt k.bits b).toNat))
  | .xor, .int k a, .int k' b => gd (decide (k = k')) (.int k (k.wrap (BitVec.ofInt k.bits a ^^^ BitVec.ofInt k.bits b).toNat))
  | .eql, .int k a, .int k' b => gd (decide (k = k')) (.bool (a == b))
  | .neq, .int k a, .int k' b => gd (decide (k = k')) (.bool (a != b))
  | .lss, .int k a, .int k' b => gd (decide (k = k')) (.bool (decide (a < b)))
  | .leq, .int k a, .int k' b => gd (decide (k = k')) (.bool (decide (a ≤ b)))
  | .gtr, .int k a, .int k' b => gd (decide (k = k')) (.bool (decide (a > b)))
  | .geq, .int k a, .int k' b => gd (decide (k = k')) (.bool (decide (a ≥ b)))
  | .eql, .str a, .str b => some (.bool (a == b))
  | .neq, .str a, .str b => some (.bool (a != b))
  | .eql, .bool a, .bool b => (L t).bind fun d => match d.k with
    | .bool => some (.bool (a == b))
    | _ => none
  | .neq, .bool a, .bool b => (L t).bind fun d => match d.k with
    | .bool => some (.bool (!(a == b)))
    | _ => none
  | .eql, .st a, .st b => (L t).bind fun d => gd (d.eq && (confB L 9 t (.st a) && confB L 9 t (.st b))) (.bool (A.eqb (.st a) (.st b)))
  | .neq, .st a, .st b => (L t).bind fun d => gd (d.eq && (confB L 9 t (.st a) && confB L 9 t (.st b))) (.bool (!(A.eqb (.st a) (.st b))))
  | _, _, _ => none

theorem binC_sound {L : Lay} {op : BinOp} {t : TypeId} {x y v : A} (h : binC L op t x y = some v) : ∃ c, binA L op t x y = some (c, v) ∧ c := by
  unfold binC at h
  split at h
  case h_19 a b =>
    rw [Option.bind_eq_some_iff] at h; obtain ⟨d, hd, h⟩ := h
    split at h
    · rename_i hk; cases h; exact ⟨_, rfl, d, hd, hk⟩
    · cases h
  case h_20 a b =>
    rw [Option.bind_eq_some_iff] at h; obtain ⟨d, hd, h⟩ := h
    split at h
    · rename_i hk; cases h; exact ⟨_, rfl, d, hd, hk⟩
    · cases h
  case h_21 a b =>
    rw [Option.bind_eq_some_iff] at h; obtain ⟨d, hd, h⟩ := h
    obtain ⟨h1, rfl⟩ := gd_some h
    simp only [Bool.and_eq_true] at h1
    obtain ⟨h1, h2, h3⟩ := h1
    have e : A.eqb (.st a) (.st b) = dec (A.st a = A.st b) := by
      rw [Bool.eq_iff_iff, dec_iff, A.eqb_iff _ _ (confB_conf _ _ _ h2).2]
    rw [e]
    exact ⟨_, rfl, (confB_conf _ _ _ h2).1, (confB_conf _ _ _ h3).1, d, hd, h1⟩
  case h_22 a b =>
    rw [Option.bind_eq_some_iff] at h; obtain ⟨d, hd, h⟩ := h
    obtain ⟨h1, rfl⟩ := gd_some h
    simp only [Bool.and_eq_true] at h1
    obtain ⟨h1, h2, h3⟩ := h1
    have e : A.eqb (.st a) (.st b) = dec (A.st a = A.st b) := by
      rw [Bool.eq_iff_iff, dec_iff, A.eqb_iff _ _ (confB_conf _ _ _ h2).2]
    rw [e]
    exact ⟨_, rfl, (confB_conf _ _ _ h2).1, (confB_conf _ _ _ h3).1, d, hd, h1⟩
  all_goals first
    | (obtain ⟨h1, rfl⟩ := gd_some h; exact ⟨_, rfl, by simpa using h1⟩)
    | (cases h; exact ⟨_, rfl, trivial⟩)
    | cases h

end Go.Ab

/- THE ABSTRACT STEP, COMPUTED: all operations. -/
namespace Go.Ab

def TK.isOther : TK → Bool
  | .other => true
  | _ => false

def elemsC (h : Hp) : A → Option (List A × List Nat)
  | .sl _ xs => some (xs, [])
  | .nilsl => some ([], [])
  | .own o ver off len => (h o).bind fun ob => gd (ob.ver == ver && (ob.e.isSome && Nat.ble (off + len) (elems ob).length)) (((elems ob).drop off).take len, [o])
  | _ => none

theorem elemsC_sound {h : Hp} {v : A} {xs : List A} {rd : List Nat} (he : elemsC h v = some (xs, rd)) : ∃ c, elemsOf h v = some (c, xs, rd) ∧ c := by
  cases v <;> simp only [elemsC, reduceCtorEq] at he
  · cases he; exact ⟨_, rfl, trivial⟩
  · cases he; exact ⟨_, rfl, trivial⟩
  · rw [Option.bind_eq_some_iff] at he; obtain ⟨ob, ho, he⟩ := he
    obtain ⟨h1, h2⟩ := gd_some he
    cases h2
    simp only [Bool.and_eq_true, beq_iff_eq, Nat.ble_eq] at h1
    refine ⟨_, (by simp only [elemsOf, ho]; try rfl), ?_⟩
    exact ⟨h1.1, h1.2.1, h1.2.2⟩

def isU8 : A → Bool
  | .int .u8 n => decide (0 ≤ n) && decide (n < 256)
  | _ => false

theorem isU8_spec {x : A} (h : isU8 x = true) : ∃ b : UInt8, x = u8 b := by
  unfold isU8 at h
  split at h
  · rename_i n
    simp only [Bool.and_eq_true, decide_eq_true_eq] at h
    refine ⟨UInt8.ofNat n.toNat, ?_⟩
    have e : (UInt8.ofNat n.toNat).toNat = n.toNat % 256 := by simp
    simp only [u8, e]
    congr 1
    omega
  · cases h

def partsC (ev : Operand → Option A) : List (Nat × Operand) → List A → Option (List A)
  | [], zs => some zs
  | p :: l, zs => (ev p.2).bind fun v => (zs[p.1]?).bind fun z => match Sh.eqb v.shp z.shp && !v.isTup with
    | true => partsC ev l (zs.set p.1 v)
    | false => none

theorem partsC_sound {ev : Operand → Option A} : ∀ {l : List (Nat × Operand)} {zs : List A} {c : Prop}, c → ∀ {ys : List A}, partsC ev l zs = some ys →
    ∃ c', l.foldl (fun r p => r.bind fun r => (ev p.2).bind fun v => (r.2[p.1]?).bind fun z => some (r.1 ∧ v.shp = z.shp ∧ v.isTup = false, r.2.set p.1 v)) (some (c, zs)) = some (c', ys) ∧ c'
  | [], zs, c, hc, ys, h => by simp only [partsC, Option.some.injEq] at h; subst h; exact ⟨c, rfl, hc⟩
  | p :: l, zs, c, hc, ys, h => by
    simp only [partsC] at h
    rw [Option.bind_eq_some_iff] at h; obtain ⟨v, hv, h⟩ := h
    rw [Option.bind_eq_some_iff] at h; obtain ⟨z, hz, h⟩ := h
    split at h
    · rename_i hb
      simp only [Bool.and_eq_true, Bool.not_eq_true'] at hb
      simp only [List.foldl_cons, Option.bind_some, hv, hz]
      exact partsC_sound (l := l) ⟨hc, Sh.eqb_eq _ _ hb.1, hb.2⟩ h
    · cases h

def boundC (d : Nat) : Option A → Option Int
  | none => some d
  | some (.int _ n) => some n
  | _ => none

theorem boundC_eq (d : Nat) (x : Option A) : boundC d x = boundA d x := by unfold boundC boundA; rfl

def sameSome (lo : Option Operand) (ev : Operand → Option A) : Bool := match lo with
  | none => true
  | some x => (ev x).isSome

theorem sameSome_spec {lo : Option Operand} {ev : Operand → Option A} (h : sameSome lo ev = true) : lo.isSome = (lo.bind ev).isSome := by
  cases lo with
  | none => rfl
  | some x => simp only [sameSome] at h; simp [h]

def allShp (xs : List A) (s : Sh) : Bool := xs.all fun x => Sh.eqb x.shp s

theorem allShp_spec {xs : List A} {s : Sh} (h : allShp xs s = true) : ∀ x ∈ xs, x.shp = s := fun x hx => Sh.eqb_eq _ _ (List.all_eq_true.1 h x hx)

def opc (L : Lay) (op : Op) (tm : Nat → Option A) (h : Hp) (id : Nat) : Option Dl :=
  match op with
  | .move x => (evA tm x).bind fun v => some ⟨v, [], [], 0⟩
  | .assign x => (evA tm x).bind fun v => some ⟨v, [], [], 0⟩
  | .pick c a b => match evA tm c with
    | some (.bool true) => (evA tm a).bind fun v => some ⟨v, [], [], 0⟩
    | some (.bool false) => (evA tm b).bind fun v => some ⟨v, [], [], 0⟩
    | _ => none
  | .alloc t => (L t).bind fun d => some ⟨.ptr id 0 [] d.sh, [(id, ⟨0, false, none, d.zero⟩)], [], 1⟩
  | .box t x => (L t).bind fun d => (evA tm x).bind fun v => gd (Sh.eqb v.shp d.sh && !v.isTup) ⟨.ptr id 0 [] d.sh, [(id, ⟨0, false, none, v⟩)], [], 1⟩
  | .load t x => (L t).bind fun d => match evA tm x with
    | some (.ptr o ver p s) => (h o).bind fun ob => (ob.val.sub p).bind fun v => gd (ob.ver == ver && Sh.eqb v.shp d.sh) ⟨v, [], [o], 0⟩
    | some (.iptr v) => gd (Sh.eqb v.shp d.sh) ⟨v, [], [], 0⟩
    | _ => none
  | .store t a x => (L t).bind fun d => match evA tm a with
    | some (.ptr o ver p s) => (h o).bind fun ob => (evA tm x).bind fun v => (ob.val.sub p).bind fun u => (ob.val.upd p v).bind fun z =>
        gd (ob.ver == ver && (!ob.fz && (!v.isTup && (Sh.eqb v.shp d.sh && (Sh.eqb u.shp d.sh && (!ob.e.isSome || !p.isEmpty)))))) ⟨.tup [], [(o, { ob with val := z })], [o], 0⟩
    | _ => none
  | .nilCheck x => match evA tm x with
    | some (.ptr o ver p s) => some ⟨.ptr o ver p s, [], [], 0⟩
    | some (.iptr v) => some ⟨.iptr v, [], [], 0⟩
    | some (.fn (.func f) a b) => some ⟨.fn (.func f) a b, [], [], 0⟩
    | _ => none
  | .binOp op t x y _ => (evA tm x).bind fun a => (evA tm y).bind fun b => (binC L op t a b).bind fun r => some ⟨r, [], [], 0⟩
  | .unOp op _ x => match op, evA tm x with
    | .not, some (.bool b) => some ⟨.bool (!b), [], [], 0⟩
    | .neg, some (.int k n) => some ⟨.int k (k.wrap (0 - n)), [], [], 0⟩
    | .xor, some (.int k n) => some ⟨.int k (k.wrap (BitVec.ofInt k.bits (if k.signed then -1 else k.max) ^^^ BitVec.ofInt k.bits n).toNat), [], [], 0⟩
    | _, _ => none
  | .convert s t x => (L t).bind fun d => match d.k, evA tm x with
    | .int k, some (.int _ n) => (L s).bind fun _ => some ⟨.int k (k.wrap n), [], [], 0⟩
    | .str, some v => (L s).bind fun ds => match ds.k with
      | .sl e => (L e).bind fun de => match de.k with
        | .int .u8 => (elemsC h v).bind fun r => gd (r.1.all isU8) ⟨.str (r.1.map byteOf), [], r.2, 0⟩
        | _ => none
      | _ => none
    | _, _ => none
  | .fieldAddr t x k => (L t).bind fun d => match d.k with
    | .st fts => (fts[k]?).bind fun ft => (L ft).bind fun df => match evA tm x with
      | some (.ptr o ver p s) => (h o).bind fun ob => gd (ob.ver == ver && Sh.eqb s d.sh) ⟨.ptr o ver (p ++ [k]) df.sh, [], [o], 0⟩
      | some (.iptr v) => (v.sub [k]).bind fun u => gd (Sh.eqb v.shp d.sh) ⟨.iptr u, [], [], 0⟩
      | _ => none
    | _ => none
  | .field t x k => (L t).bind fun d => match d.k with
    | .st fts => (fts[k]?).bind fun ft => (L ft).bind fun _ => (evA tm x).bind fun v => (v.sub [k]).bind fun u => gd (Sh.eqb v.shp d.sh) ⟨u, [], [], 0⟩
    | _ => none
  | .indexAddr t x i => (L t).bind fun d => match evA tm i with
    | some (.int _ n) => match d.k, evA tm x with
      | .sl e, some (.own o ver off len) => (L e).bind fun de => (h o).bind fun ob => gd (ob.ver == ver && (ob.e == some e && (decide (0 ≤ n) && decide (n < len)))) ⟨.ptr o ver [off + n.toNat] de.sh, [], [o], 0⟩
      | .sl e, some (.sl e' xs) => (L e).bind fun _ => (xs[n.toNat]?).bind fun v => gd (e == e' && decide (0 ≤ n)) ⟨.iptr v, [], [], 0⟩
      | .arr m e, some (.ptr o ver p s) => (L e).bind fun de => (h o).bind fun ob => gd (ob.ver == ver && (decide (0 ≤ n) && (decide (n < m) && Sh.eqb s d.sh))) ⟨.ptr o ver (p ++ [n.toNat]) de.sh, [], [o], 0⟩
      | .arr m _, some (.iptr v) => (v.sub [n.toNat]).bind fun u => gd (decide (0 ≤ n) && (decide (n < m) && Sh.eqb v.shp d.sh)) ⟨.iptr u, [], [], 0⟩
      | _, _ => none
    | _ => none
  | .index t x i => (L t).bind fun d => match evA tm i with
    | some (.int _ n) => match d.k with
      | .arr m _ => (evA tm x).bind fun v => (v.sub [n.toNat]).bind fun u => gd (decide (0 ≤ n) && (decide (n < m) && Sh.eqb v.shp d.sh)) ⟨u, [], [], 0⟩
      | .str => match evA tm x with
        | some (.str s) => (s[n.toNat]?).bind fun b => gd (decide (0 ≤ n)) ⟨u8 b, [], [], 0⟩
        | _ => none
      | _ => none
    | _ => none
  | .extract x k => match evA tm x with
    | some (.tup vs) => (vs[k]?).bind fun v => some ⟨v, [], [], 0⟩
    | _ => none
  | .makeFunc f first caps => (evAs tm first.toList).bind fun fs => (evAs tm caps.toList).bind fun cs => gd (fs.all (fun x => !x.isTup) && cs.all (fun x => !x.isTup)) ⟨.fn f fs cs, [], [], 0⟩
  | .makeInterface t x => (L t).bind fun d => (evA tm x).bind fun v => gd (!v.isTup && !d.k.isOther) ⟨.iface t v, [], [], 0⟩
  | .sliceToArrayPointer t x => (L t).bind fun d => match d.k, evA tm x with
    | .arr n e, some (.sl e' xs) => gd (e == e' && (Nat.ble n xs.length && Nat.blt 0 n)) ⟨.iptr (.st (xs.take n)), [], [], 0⟩
    | _, _ => none
  | .build t parts => (L t).bind fun d => match d.zero with
    | .st zs => (partsC (evA tm) parts.toList zs).bind fun r => some ⟨.st r, [], [], 0⟩
    | _ => none
  | .buildSlice t len parts => (L t).bind fun d => match d.k with
    | .sl e => (L e).bind fun de => (partsC (evA tm) parts.toList (List.replicate len de.zero)).bind fun r =>
        gd (Nat.ble (len * de.sh.width) 16777216 && (Nat.blt 0 de.sh.width && Nat.ble (len * de.byt) maxBytes)) ⟨.own id 0 0 len, [(id, ⟨0, false, some e, .st r⟩)], [], 1⟩
    | _ => none
  | .makeSlice t l c => (L t).bind fun d => match d.k, evA tm l, evA tm c with
    | .sl e, some (.int .i64 n), some (.int .i64 m) => (L e).bind fun de => gd (decide (0 ≤ n) && (n == m && (Nat.blt 0 de.sh.width && decide (n * de.byt ≤ maxBytes)))) ⟨.own id 0 0 n.toNat, [(id, ⟨0, false, some e, .st (List.replicate n.toNat de.zero)⟩)], [], 1⟩
    | _, _, _ => none
  | .slice t x lo hi mx => (L t).bind fun d => match d.k, evA tm x with
    | .sl e', some (.sl e xs) => (L e).bind fun _ => (boundC 0 (lo.bind (evA tm))).bind fun a => (boundC xs.length (hi.bind (evA tm))).bind fun b => (boundC xs.length (mx.bind (evA tm))).bind fun c =>
        gd (e' == e && (decide (0 ≤ a) && (decide (a ≤ b) && (decide (b ≤ c) && (decide (c ≤ xs.length) && (sameSome lo (evA tm) && (sameSome hi (evA tm) && (sameSome mx (evA tm) && (!mx.isSome || hi.isSome))))))))) ⟨.sl e ((xs.take b.toNat).drop a.toNat), [], [], 0⟩
    | .sl e, some .nilsl => (L e).bind fun _ => (boundC 0 (lo.bind (evA tm))).bind fun a => (boundC 0 (hi.bind (evA tm))).bind fun b => gd (a == 0 && (b == 0 && (mx.isNone && (sameSome lo (evA tm) && sameSome hi (evA tm))))) ⟨.nilsl, [], [], 0⟩
    | .sl e, some (.own o ver off len) => (L e).bind fun _ => (boundC 0 (lo.bind (evA tm))).bind fun a => (boundC len (hi.bind (evA tm))).bind fun b => (h o).bind fun ob =>
        gd (ob.ver == ver && (ob.e == some e && (decide (0 ≤ a) && (decide (a ≤ b) && (decide (b ≤ len) && (mx.isNone && (sameSome lo (evA tm) && sameSome hi (evA tm)))))))) ⟨.own o ver (off + a.toNat) (b - a).toNat, [], [o], 0⟩
    | .arr n e, some (.ptr o ver p s) => (L e).bind fun de => (h o).bind fun ob => (ob.val.sub p).bind fun v => match v with
      | .st xs => (boundC 0 (lo.bind (evA tm))).bind fun a => (boundC n (hi.bind (evA tm))).bind fun b =>
          gd (ob.ver == ver && (Sh.eqb s d.sh && (Sh.eqb (A.st xs).shp d.sh && (Nat.ble (n * de.byt) maxBytes && (decide (0 ≤ a) && (decide (a ≤ b) && (decide (b ≤ n) && (mx.isNone && (sameSome lo (evA tm) && sameSome hi (evA tm))))))))))
            ⟨.sl e ((xs.take b.toNat).drop a.toNat), if ob.fz = true then [] else [(o, { ob with fz := true })], [o], 0⟩
      | _ => none
    | .arr n e, some (.iptr v) => (L e).bind fun de => match v with
      | .st xs => (boundC 0 (lo.bind (evA tm))).bind fun a => (boundC n (hi.bind (evA tm))).bind fun b =>
          gd (Sh.eqb (A.st xs).shp d.sh && (Nat.ble (n * de.byt) maxBytes && (decide (0 ≤ a) && (decide (a ≤ b) && (decide (b ≤ n) && (mx.isNone && (sameSome lo (evA tm) && sameSome hi (evA tm))))))))
            ⟨.sl e ((xs.take b.toNat).drop a.toNat), [], [], 0⟩
      | _ => none
    | _, _ => none
  | .call { callee := .builtin b, args, argTypes } => match b, args.toList with
    | .len, [x] => match argTypes.toList with
      | [t] => (L t).bind fun d => match d.k with
        | .sl _ => (evA tm x).bind fun v => match v with
          | .sl _ xs => some ⟨.int .i64 xs.length, [], [], 0⟩
          | .nilsl => some ⟨.int .i64 0, [], [], 0⟩
          | .own _ _ _ n => some ⟨.int .i64 n, [], [], 0⟩
          | _ => none
        | _ => none
      | _ => none
    | .min, [x, y] => match evA tm x, evA tm y with
      | some (.int k a), some (.int k' b) => gd (decide (k = k')) ⟨.int k (if b < a then b else a), [], [], 0⟩
      | _, _ => none
    | .max, [x, y] => match evA tm x, evA tm y with
      | some (.int k a), some (.int k' b) => gd (decide (k = k')) ⟨.int k (if a < b then b else a), [], [], 0⟩
      | _, _ => none
    | .append, [x, y] => match argTypes.toList with
      | [t, t'] => match Nat.beq t t' with
        | true => (L t).bind fun d => match d.k with
          | .sl e => (evA tm y).bind fun w => (elemsC h w).bind fun r => match evA tm x with
            | some .nilsl => (L e).bind fun de => gd (allShp r.1 de.sh && Nat.ble (r.1.length * de.byt) maxBytes) ⟨.own id 0 0 r.1.length, [(id, ⟨0, false, some e, .st r.1⟩)], r.2, 1⟩
            | some (.own o ver off len) => (h o).bind fun ob => (L e).bind fun de =>
              match Nat.ble (off + len + r.1.length) (elems ob).length with
              | true =>
                gd (ob.ver == ver && (!ob.fz && (ob.e == some e && allShp r.1 de.sh)))
                  ⟨.own o ver off (len + r.1.length), [(o, { ob with val := .st ((elems ob).take (off + len) ++ r.1 ++ (elems ob).drop (off + len + r.1.length)) })], o :: r.2, 0⟩
              | false =>
                gd (ob.ver == ver && (!ob.fz && (ob.e == some e && (off == 0 && (Nat.ble len (elems ob).length && (allShp r.1 de.sh && Nat.ble ((len + r.1.length) * de.byt) maxBytes))))))
                  ⟨.own o (ver + 1) 0 (len + r.1.length), [(o, { ob with ver := ver + 1, val := .st ((elems ob).take len ++ r.1) })], o :: r.2, 0⟩
            | _ => none
          | _ => none
        | false => none
      | _ => none
    | .clear, [x] => match argTypes.toList with
      | [t] => (L t).bind fun d => match d.k with
        | .sl e => (L e).bind fun de => match evA tm x with
          | some (.own o ver off len) => (h o).bind fun ob =>
              gd (ob.ver == ver && (!ob.fz && (ob.e == some e && Nat.ble (off + len) (elems ob).length))) ⟨.tup [], [(o, { ob with val := .st ((elems ob).take off ++ List.replicate len de.zero ++ (elems ob).drop (off + len)) })], [o], 0⟩
          | _ => none
        | _ => none
      | _ => none
    | _, _ => none
  | _ => none

theorem opc_sound {L : Lay} {op : Op} {tm : Nat → Option A} {h : Hp} {id : Nat} {δ : Dl} (ho : opc L op tm h id = some δ) : ∃ c, opv L op (evA tm) h id = some (c, δ) ∧ c := by
  cases op
  case move x => simp only [opc, Option.bind_eq_some_iff] at ho; obtain ⟨v, hv, ho⟩ := ho; cases ho; refine ⟨_, (by simp only [opv, hv, Option.bind_some]; try rfl), ?_⟩; exact trivial
  case assign x => simp only [opc, Option.bind_eq_some_iff] at ho; obtain ⟨v, hv, ho⟩ := ho; cases ho; refine ⟨_, (by simp only [opv, hv, Option.bind_some]; try rfl), ?_⟩; exact trivial
  case pick c a b =>
    simp only [opc] at ho
    split at ho
    · rename_i hc; simp only [Option.bind_eq_some_iff] at ho; obtain ⟨v, hv, ho⟩ := ho; cases ho; refine ⟨_, (by simp only [opv, hc, hv, Option.bind_some, if_true]; try rfl), ?_⟩; exact trivial
    · rename_i hc; simp only [Option.bind_eq_some_iff] at ho; obtain ⟨v, hv, ho⟩ := ho; cases ho; refine ⟨_, (by simp only [opv, hc, hv, Option.bind_some, Bool.false_eq_true, if_false]; try rfl), ?_⟩; exact trivial
    · cases ho
  case alloc t => simp only [opc, Option.bind_eq_some_iff] at ho; obtain ⟨d, hd, ho⟩ := ho; cases ho; refine ⟨_, (by simp only [opv, hd, Option.bind_some]; try rfl), ?_⟩; exact trivial
  case box t x =>
    simp only [opc, Option.bind_eq_some_iff] at ho; obtain ⟨d, hd, v, hv, ho⟩ := ho
    obtain ⟨h1, rfl⟩ := gd_some ho
    simp only [Bool.and_eq_true, Bool.not_eq_true'] at h1
    refine ⟨_, (by simp only [opv, hd, hv, Option.bind_some]; try rfl), ?_⟩; exact ⟨Sh.eqb_eq _ _ h1.1, h1.2⟩
  case load t x =>
    simp only [opc, Option.bind_eq_some_iff] at ho; obtain ⟨d, hd, ho⟩ := ho
    split at ho
    · rename_i hx
      simp only [Option.bind_eq_some_iff] at ho; obtain ⟨ob, hob, v, hv, ho⟩ := ho
      obtain ⟨h1, rfl⟩ := gd_some ho
      simp only [Bool.and_eq_true, beq_iff_eq] at h1
      refine ⟨_, (by simp only [opv, hd, hx, hob, hv, Option.bind_some]; try rfl), ?_⟩; exact ⟨h1.1, Sh.eqb_eq _ _ h1.2⟩
    · rename_i hx
      obtain ⟨h1, rfl⟩ := gd_some ho
      refine ⟨_, (by simp only [opv, hd, hx, Option.bind_some]; try rfl), ?_⟩; exact Sh.eqb_eq _ _ h1
    · cases ho
  case store t a x =>
    simp only [opc, Option.bind_eq_some_iff] at ho; obtain ⟨d, hd, ho⟩ := ho
    split at ho
    · rename_i hx
      simp only [Option.bind_eq_some_iff] at ho; obtain ⟨ob, hob, v, hv, u, hu, z, hz, ho⟩ := ho
      obtain ⟨h1, rfl⟩ := gd_some ho
      simp only [Bool.and_eq_true, beq_iff_eq, Bool.not_eq_true', Bool.or_eq_true] at h1
      obtain ⟨h1, h2, h3, h4, h5, h6⟩ := h1
      refine ⟨_, (by simp only [opv, hd, hx, hob, hv, hu, hz, Option.bind_some]; try rfl), ?_⟩; refine ⟨h1, h2, h3, Sh.eqb_eq _ _ h4, Sh.eqb_eq _ _ h5, fun h => ?_⟩
      rcases h6 with h6 | h6
      · rw [h6] at h; cases h
      · intro e; rw [e] at h6; cases h6
    · cases ho
  case nilCheck x =>
    simp only [opc] at ho
    split at ho
    · rename_i hx; cases ho; refine ⟨_, (by simp only [opv, hx]; try rfl), ?_⟩; exact trivial
    · rename_i hx; cases ho; refine ⟨_, (by simp only [opv, hx]; try rfl), ?_⟩; exact trivial
    · rename_i hx; cases ho; refine ⟨_, (by simp only [opv, hx]; try rfl), ?_⟩; exact trivial
    · cases ho
  case binOp op t x y t' =>
    simp only [opc, Option.bind_eq_some_iff] at ho; obtain ⟨u, hu, v, hv, r, hr, ho⟩ := ho
    cases ho
    obtain ⟨c, h1, h2⟩ := binC_sound hr
    exact ⟨c, by simp only [opv, hu, hv, Option.bind_some, h1, Option.map_some], h2⟩
  case unOp op t x =>
    simp only [opc] at ho
    split at ho
    · rename_i hx; cases ho; refine ⟨_, (by simp only [opv, hx]; try rfl), ?_⟩; exact trivial
    · rename_i hx; cases ho; refine ⟨_, (by simp only [opv, hx]; try rfl), ?_⟩; exact trivial
    · rename_i hx; cases ho; refine ⟨_, (by simp only [opv, hx]; try rfl), ?_⟩; exact trivial
    · cases ho
  case convert s t x =>
    simp only [opc, Option.bind_eq_some_iff] at ho; obtain ⟨d, hd, ho⟩ := ho
    split at ho
    · rename_i hk hx
      simp only [Option.bind_eq_some_iff] at ho; obtain ⟨ds, hds, ho⟩ := ho
      cases ho
      refine ⟨_, (by simp only [opv, hd, hk, hx, hds, Option.bind_some]; try rfl), ?_⟩; exact trivial
    · rename_i hk hx
      simp only [Option.bind_eq_some_iff] at ho; obtain ⟨ds, hds, ho⟩ := ho
      split at ho
      · rename_i e hke
        simp only [Option.bind_eq_some_iff] at ho; obtain ⟨de, hde, ho⟩ := ho
        split at ho
        · rename_i hk8
          simp only [Option.bind_eq_some_iff] at ho; obtain ⟨⟨xs, rd⟩, hr, ho⟩ := ho
          obtain ⟨h1, rfl⟩ := gd_some ho
          obtain ⟨c, e1, e2⟩ := elemsC_sound hr
          simp only [List.all_eq_true] at h1
          refine ⟨_, (by simp only [opv, hd, hk, hx, hds, hke, hde, hk8, e1, Option.bind_some]; try rfl), ?_⟩; exact ⟨e2, fun x hx => isU8_spec (h1 x hx)⟩
        · cases ho
      · cases ho
    · cases ho
  case fieldAddr t x k =>
    simp only [opc, Option.bind_eq_some_iff] at ho; obtain ⟨d, hd, ho⟩ := ho
    split at ho
    · rename_i fts hk
      simp only [Option.bind_eq_some_iff] at ho; obtain ⟨ft, hft, df, hdf, ho⟩ := ho
      split at ho
      · rename_i hx
        simp only [Option.bind_eq_some_iff] at ho; obtain ⟨ob, hob, ho⟩ := ho
        obtain ⟨h1, rfl⟩ := gd_some ho
        simp only [Bool.and_eq_true, beq_iff_eq] at h1
        refine ⟨_, (by simp only [opv, hd, hk, hft, hdf, hx, hob, Option.bind_some]; try rfl), ?_⟩; exact ⟨h1.1, Sh.eqb_eq _ _ h1.2⟩
      · rename_i hx
        simp only [Option.bind_eq_some_iff] at ho; obtain ⟨u, hu, ho⟩ := ho
        obtain ⟨h1, rfl⟩ := gd_some ho
        refine ⟨_, (by simp only [opv, hd, hk, hft, hdf, hx, hu, Option.bind_some]; try rfl), ?_⟩; exact Sh.eqb_eq _ _ h1
      · cases ho
    · cases ho
  case field t x k =>
    simp only [opc, Option.bind_eq_some_iff] at ho; obtain ⟨d, hd, ho⟩ := ho
    split at ho
    · rename_i fts hk
      simp only [Option.bind_eq_some_iff] at ho; obtain ⟨ft, hft, df, hdf, v, hv, u, hu, ho⟩ := ho
      obtain ⟨h1, rfl⟩ := gd_some ho
      refine ⟨_, (by simp only [opv, hd, hk, hft, hdf, hv, hu, Option.bind_some]; try rfl), ?_⟩; exact Sh.eqb_eq _ _ h1
    · cases ho
  case indexAddr t x i =>
    simp only [opc, Option.bind_eq_some_iff] at ho; obtain ⟨d, hd, ho⟩ := ho
    split at ho
    · rename_i n hi
      split at ho
      · rename_i hk hx
        simp only [Option.bind_eq_some_iff] at ho; obtain ⟨de, hde, ob, hob, ho⟩ := ho
        obtain ⟨h1, rfl⟩ := gd_some ho
        simp only [Bool.and_eq_true, beq_iff_eq, decide_eq_true_eq] at h1
        refine ⟨_, (by simp only [opv, hd, hi, hk, hx, hde, hob, Option.bind_some]; try rfl), ?_⟩; exact h1
      · rename_i hk hx
        simp only [Option.bind_eq_some_iff] at ho; obtain ⟨de, hde, v, hv, ho⟩ := ho
        obtain ⟨h1, rfl⟩ := gd_some ho
        simp only [Bool.and_eq_true, beq_iff_eq, decide_eq_true_eq] at h1
        refine ⟨_, (by simp only [opv, hd, hi, hk, hx, hde, hv, Option.bind_some]; try rfl), ?_⟩; exact h1
      · rename_i hk hx
        simp only [Option.bind_eq_some_iff] at ho; obtain ⟨de, hde, ob, hob, ho⟩ := ho
        obtain ⟨h1, rfl⟩ := gd_some ho
        simp only [Bool.and_eq_true, beq_iff_eq, decide_eq_true_eq] at h1
        obtain ⟨h1, h2, h3, h4⟩ := h1
        refine ⟨_, (by simp only [opv, hd, hi, hk, hx, hde, hob, Option.bind_some]; try rfl), ?_⟩; exact ⟨h1, h2, h3, Sh.eqb_eq _ _ h4⟩
      · rename_i hk hx
        simp only [Option.bind_eq_some_iff] at ho; obtain ⟨u, hu, ho⟩ := ho
        obtain ⟨h1, rfl⟩ := gd_some ho
        simp only [Bool.and_eq_true, decide_eq_true_eq] at h1
        obtain ⟨h2, h3, h4⟩ := h1
        refine ⟨_, (by simp only [opv, hd, hi, hk, hx, hu, Option.bind_some]; try rfl), ?_⟩; exact ⟨h2, h3, Sh.eqb_eq _ _ h4⟩
      · cases ho
    · cases ho
  case index t x i =>
    simp only [opc, Option.bind_eq_some_iff] at ho; obtain ⟨d, hd, ho⟩ := ho
    split at ho
    · rename_i n hi
      split at ho
      · rename_i hk
        simp only [Option.bind_eq_some_iff] at ho; obtain ⟨v, hv, u, hu, ho⟩ := ho
        obtain ⟨h1, rfl⟩ := gd_some ho
        simp only [Bool.and_eq_true, decide_eq_true_eq] at h1
        obtain ⟨h2, h3, h4⟩ := h1
        refine ⟨_, (by simp only [opv, hd, hi, hk, hv, hu, Option.bind_some]; try rfl), ?_⟩; exact ⟨h2, h3, Sh.eqb_eq _ _ h4⟩
      · rename_i hk
        split at ho
        · rename_i hx
          simp only [Option.bind_eq_some_iff] at ho; obtain ⟨b, hb, ho⟩ := ho
          obtain ⟨h1, rfl⟩ := gd_some ho
          refine ⟨_, (by simp only [opv, hd, hi, hk, hx, hb, Option.bind_some]; try rfl), ?_⟩; exact of_decide_eq_true h1
        · cases ho
      · cases ho
    · cases ho
  case extract x k =>
    simp only [opc] at ho
    split at ho
    · rename_i hx
      simp only [Option.bind_eq_some_iff] at ho; obtain ⟨v, hv, ho⟩ := ho
      cases ho
      refine ⟨_, (by simp only [opv, hx, hv, Option.bind_some]; try rfl), ?_⟩; exact trivial
    · cases ho
  case makeFunc f first caps =>
    simp only [opc, Option.bind_eq_some_iff] at ho; obtain ⟨fs, hfs, cs, hcs, ho⟩ := ho
    obtain ⟨h1, rfl⟩ := gd_some ho
    simp only [Bool.and_eq_true, List.all_eq_true, Bool.not_eq_true'] at h1
    refine ⟨_, ?_, h1⟩
    show (evAs (fun t => evA tm (.tmp t)) first.toList).bind _ = _
    rw [show evAs (fun t => evA tm (.tmp t)) first.toList = some fs from hfs, Option.bind_some, show evAs (fun t => evA tm (.tmp t)) caps.toList = some cs from hcs]
    rfl
  case makeInterface t x =>
    simp only [opc, Option.bind_eq_some_iff] at ho; obtain ⟨d, hd, v, hv, ho⟩ := ho
    obtain ⟨h1, rfl⟩ := gd_some ho
    simp only [Bool.and_eq_true, Bool.not_eq_true'] at h1
    refine ⟨_, (by simp only [opv, hd, hv, Option.bind_some]; try rfl), ?_⟩; refine ⟨h1.1, fun e => ?_⟩
    have := h1.2
    rw [e] at this; cases this
  case sliceToArrayPointer t x =>
    simp only [opc, Option.bind_eq_some_iff] at ho; obtain ⟨d, hd, ho⟩ := ho
    split at ho
    · rename_i hk hx
      obtain ⟨h1, rfl⟩ := gd_some ho
      simp only [Bool.and_eq_true, beq_iff_eq, Nat.ble_eq, Nat.blt_eq] at h1
      refine ⟨_, (by simp only [opv, hd, hk, hx, Option.bind_some]; try rfl), ?_⟩; exact h1
    · cases ho
  case build t parts =>
    simp only [opc, Option.bind_eq_some_iff] at ho; obtain ⟨d, hd, ho⟩ := ho
    split at ho
    · rename_i zs hz
      simp only [Option.bind_eq_some_iff] at ho; obtain ⟨r, hr, ho⟩ := ho
      cases ho
      obtain ⟨c, h1, h2⟩ := partsC_sound (c := True) trivial hr
      exact ⟨c, by simp only [opv, hd, hz, h1, Option.bind_some, Option.map_some], h2⟩
    · cases ho
  case buildSlice t len parts =>
    simp only [opc, Option.bind_eq_some_iff] at ho; obtain ⟨d, hd, ho⟩ := ho
    split at ho
    · rename_i e hk
      simp only [Option.bind_eq_some_iff] at ho; obtain ⟨de, hde, r, hr, ho⟩ := ho
      obtain ⟨g1, rfl⟩ := gd_some ho
      simp only [Bool.and_eq_true, Nat.ble_eq, Nat.blt_eq] at g1
      obtain ⟨c, h1, h2⟩ := partsC_sound (c := True) trivial hr
      refine ⟨_, (by simp only [opv, hd, hk, hde, h1, Option.bind_some, Option.map_some]; try rfl), ?_⟩; exact ⟨h2, g1⟩
    · cases ho
  case makeSlice t l c =>
    simp only [opc, Option.bind_eq_some_iff] at ho; obtain ⟨d, hd, ho⟩ := ho
    split at ho
    · rename_i e n m hk hl hc
      simp only [Option.bind_eq_some_iff] at ho; obtain ⟨de, hde, ho⟩ := ho
      obtain ⟨g1, rfl⟩ := gd_some ho
      simp only [Bool.and_eq_true, beq_iff_eq, Nat.blt_eq, decide_eq_true_eq] at g1
      refine ⟨_, (by simp only [opv, hd, hk, hl, hc, hde, Option.bind_some]; try rfl), ?_⟩; exact g1
    · cases ho
  case slice t x lo hi mx =>
    simp only [opc, Option.bind_eq_some_iff, boundC_eq] at ho; obtain ⟨d, hd, ho⟩ := ho
    split at ho
    · rename_i hk hx
      simp only [Option.bind_eq_some_iff] at ho; obtain ⟨de, hde, a, ha, b, hb, c, hc, ho⟩ := ho
      obtain ⟨g1, rfl⟩ := gd_some ho
      simp only [Bool.and_eq_true, beq_iff_eq, decide_eq_true_eq, Bool.or_eq_true, Bool.not_eq_true'] at g1
      obtain ⟨g1, g2, g3, g4, g5, g6, g7, g8, g9⟩ := g1
      refine ⟨_, (by simp only [opv, hd, hk, hx, hde, ha, hb, hc, Option.bind_some]; try rfl), ?_⟩; refine ⟨g1, g2, g3, g4, g5, sameSome_spec g6, sameSome_spec g7, sameSome_spec g8, fun h => ?_⟩
      rcases g9 with g9 | g9
      · rw [g9] at h; cases h
      · exact g9
    · rename_i hk hx
      simp only [Option.bind_eq_some_iff] at ho; obtain ⟨de, hde, a, ha, b, hb, ho⟩ := ho
      obtain ⟨g1, rfl⟩ := gd_some ho
      simp only [Bool.and_eq_true, beq_iff_eq, Option.isNone_iff_eq_none] at g1
      obtain ⟨g1, g2, g3, g4, g5⟩ := g1
      refine ⟨_, (by simp only [opv, hd, hk, hx, hde, ha, hb, Option.bind_some]; try rfl), ?_⟩; exact ⟨g1, g2, g3, sameSome_spec g4, sameSome_spec g5⟩
    · rename_i hk hx
      simp only [Option.bind_eq_some_iff] at ho; obtain ⟨de, hde, a, ha, b, hb, ob, hob, ho⟩ := ho
      obtain ⟨g1, rfl⟩ := gd_some ho
      simp only [Bool.and_eq_true, beq_iff_eq, Option.isNone_iff_eq_none, decide_eq_true_eq] at g1
      obtain ⟨g1, g2, g3, g4, g5, g6, g7, g8⟩ := g1
      refine ⟨_, (by simp only [opv, hd, hk, hx, hde, ha, hb, hob, Option.bind_some]; try rfl), ?_⟩; exact ⟨g1, g2, g3, g4, g5, g6, sameSome_spec g7, sameSome_spec g8⟩
    · rename_i hk hx
      simp only [Option.bind_eq_some_iff] at ho; obtain ⟨de, hde, ob, hob, v, hv, ho⟩ := ho
      split at ho
      · simp only [Option.bind_eq_some_iff] at ho; obtain ⟨a, ha, b, hb, ho⟩ := ho
        obtain ⟨g1, rfl⟩ := gd_some ho
        simp only [Bool.and_eq_true, beq_iff_eq, Option.isNone_iff_eq_none, decide_eq_true_eq, Nat.ble_eq] at g1
        obtain ⟨g1, g2, g3, g4, g5, g6, g7, g8, g9, g10⟩ := g1
        refine ⟨_, (by simp only [opv, hd, hk, hx, hde, hob, hv, ha, hb, Option.bind_some]; try rfl), ?_⟩; exact ⟨g1, Sh.eqb_eq _ _ g2, Sh.eqb_eq _ _ g3, g4, g5, g6, g7, g8, sameSome_spec g9, sameSome_spec g10⟩
      · cases ho
    · rename_i hk hx
      simp only [Option.bind_eq_some_iff] at ho; obtain ⟨de, hde, ho⟩ := ho
      split at ho
      · simp only [Option.bind_eq_some_iff] at ho; obtain ⟨a, ha, b, hb, ho⟩ := ho
        obtain ⟨g1, rfl⟩ := gd_some ho
        simp only [Bool.and_eq_true, beq_iff_eq, Option.isNone_iff_eq_none, decide_eq_true_eq, Nat.ble_eq] at g1
        obtain ⟨g3, g4, g5, g6, g7, g8, g9, g10⟩ := g1
        refine ⟨_, (by simp only [opv, hd, hk, hx, hde, ha, hb, Option.bind_some]; try rfl), ?_⟩; exact ⟨Sh.eqb_eq _ _ g3, g4, g5, g6, g7, g8, sameSome_spec g9, sameSome_spec g10⟩
      · cases ho
    · cases ho
  case call cl =>
    obtain ⟨callee, args, argTypes⟩ := cl
    cases callee with
    | builtin b =>
      simp only [opc] at ho
      split at ho <;> try cases ho
      · rename_i x hl
        split at ho <;> try cases ho
        rename_i t ht
        simp only [Option.bind_eq_some_iff] at ho; obtain ⟨d, hd, ho⟩ := ho
        split at ho <;> try cases ho
        rename_i hk
        simp only [Option.bind_eq_some_iff] at ho; obtain ⟨v, hv, ho⟩ := ho
        split at ho <;> cases ho
        all_goals refine ⟨_, (by simp only [opv, hl, ht, hd, hk, hv, Option.bind_some]; try rfl), ?_⟩; exact trivial
      · rename_i x y hl
        split at ho
        · rename_i hx hy
          obtain ⟨g1, rfl⟩ := gd_some ho
          refine ⟨_, (by simp only [opv, hl, hx, hy]; try rfl), ?_⟩; exact of_decide_eq_true g1
        · cases ho
      · rename_i x y hl
        split at ho
        · rename_i hx hy
          obtain ⟨g1, rfl⟩ := gd_some ho
          refine ⟨_, (by simp only [opv, hl, hx, hy]; try rfl), ?_⟩; exact of_decide_eq_true g1
        · cases ho
      · rename_i x y hl
        split at ho <;> try cases ho
        rename_i t t' ht
        split at ho <;> try cases ho
        rename_i htt
        have htt := Nat.eq_of_beq_eq_true htt
        subst htt
        simp only [Option.bind_eq_some_iff] at ho; obtain ⟨d, hd, ho⟩ := ho
        split at ho <;> try cases ho
        rename_i e hk
        simp only [Option.bind_eq_some_iff] at ho; obtain ⟨v, hv, ⟨xs, rd⟩, hr, ho⟩ := ho
        obtain ⟨c, e1, e2⟩ := elemsC_sound hr
        split at ho
        · rename_i hx
          simp only [Option.bind_eq_some_iff] at ho; obtain ⟨de, hde, ho⟩ := ho
          obtain ⟨g1, rfl⟩ := gd_some ho
          simp only [Bool.and_eq_true, Nat.ble_eq] at g1
          refine ⟨_, (by simp only [opv, hl, ht, if_true, hd, hk, hv, e1, hx, hde, Option.bind_some]; try rfl), ?_⟩; exact ⟨e2, allShp_spec g1.1, g1.2⟩
        · rename_i hx
          simp only [Option.bind_eq_some_iff] at ho; obtain ⟨ob, hob, de, hde, ho⟩ := ho
          split at ho
          · rename_i hle
            have hle := Nat.le_of_ble_eq_true hle
            obtain ⟨g1, rfl⟩ := gd_some ho
            simp only [Bool.and_eq_true, beq_iff_eq, Bool.not_eq_true'] at g1
            obtain ⟨g1, g2, g3, g4⟩ := g1
            refine ⟨_, (by simp only [opv, hl, ht, if_true, hd, hk, hv, e1, hx, hob, hde, Option.bind_some, hle]; try rfl), ?_⟩; exact ⟨e2, g1, g2, g3, allShp_spec g4⟩
          · rename_i hle
            have hle : ¬ _ ≤ _ := fun h => by rw [Nat.ble_eq_true_of_le h] at hle; cases hle
            obtain ⟨g1, rfl⟩ := gd_some ho
            simp only [Bool.and_eq_true, beq_iff_eq, Bool.not_eq_true', Nat.ble_eq] at g1
            obtain ⟨g1, g2, g3, g4, g5, g6, g7⟩ := g1
            refine ⟨_, (by simp only [opv, hl, ht, if_true, hd, hk, hv, e1, hx, hob, hde, Option.bind_some, hle, if_false]; try rfl), ?_⟩; exact ⟨e2, g1, g2, g3, g4, g5, allShp_spec g6, g7⟩
        · cases ho
      · rename_i x hl
        split at ho <;> try cases ho
        rename_i t ht
        simp only [Option.bind_eq_some_iff] at ho; obtain ⟨d, hd, ho⟩ := ho
        split at ho <;> try cases ho
        rename_i e hk
        simp only [Option.bind_eq_some_iff] at ho; obtain ⟨de, hde, ho⟩ := ho
        split at ho <;> try cases ho
        rename_i hx
        simp only [Option.bind_eq_some_iff] at ho; obtain ⟨ob, hob, ho⟩ := ho
        obtain ⟨g1, rfl⟩ := gd_some ho
        simp only [Bool.and_eq_true, beq_iff_eq, Bool.not_eq_true', Nat.ble_eq] at g1
        refine ⟨_, (by simp only [opv, hl, ht, hd, hk, hde, hx, hob, Option.bind_some]; try rfl), ?_⟩; exact g1
    | _ => simp [opc] at ho
  all_goals simp [opc] at ho

end Go.Ab
