import Derived.Test.YthfkhnoehehpmaaGreatAja
set_option linter.unusedVariables false
set_option linter.unusedSimpArgs false
/- THE COMPUTED STEP, FAST IN THE KERNEL; and that it is the same. -/
namespace Go.Ab
noncomputable section

def limN : IntKind → Nat
  | .i8 => 128
  | .i16 => 32768
  | .i32 => 2147483648
  | .i64 => 9223372036854775808
  | .u8 => 256
  | .u16 => 65536
  | .u32 => 4294967296
  | .u64 => 18446744073709551616

theorem wrap_small (k : IntKind) (m : Nat) (h : m < limN k) : k.wrap (m : Int) = m := by
  cases k <;> simp only [limN] at h <;> simp only [IntKind.wrap, IntKind.bits, IntKind.signed, Bool.true_and, Bool.false_and, Bool.false_eq_true, if_false, Nat.reduceSub] <;> (try (split <;> rename_i hh <;> simp only [decide_eq_true_eq, ge_iff_le] at hh)) <;> omega

def wrapF (k : IntKind) (n : Int) : Int := match n with
  | .ofNat m => match Nat.blt m (limN k) with
    | true => .ofNat m
    | false => k.wrap (.ofNat m)
  | .negSucc m => k.wrap (.negSucc m)

theorem wrapF_eq (k : IntKind) (n : Int) : wrapF k n = k.wrap n := by
  cases n with
  | ofNat m =>
    simp only [wrapF]
    split
    · rename_i h; exact (wrap_small k m (by simpa using h)).symm
    · rfl
  | negSucc m => rfl

def inF (k : IntKind) (n : Int) : Bool := match n with
  | .ofNat m => match Nat.blt m (limN k) with
    | true => true
    | false => decide (k.wrap (.ofNat m) = .ofNat m)
  | .negSucc m => decide (k.wrap (.negSucc m) = .negSucc m)

theorem inF_eq (k : IntKind) (n : Int) : inF k n = decide (k.wrap n = n) := by
  cases n with
  | ofNat m =>
    simp only [inF]
    split
    · rename_i h
      have := wrap_small k m (by simpa using h)
      simp [this]
    · rfl
  | negSucc m => rfl

def ikN : IntKind → Nat
  | .i8 => 0
  | .i16 => 1
  | .i32 => 2
  | .i64 => 3
  | .u8 => 4
  | .u16 => 5
  | .u32 => 6
  | .u64 => 7
def ikEq (a b : IntKind) : Bool := Nat.beq (ikN a) (ikN b)
theorem ikEq_eq (a b : IntKind) : ikEq a b = decide (a = b) := by cases a <;> cases b <;> rfl

def ltF (a b : Int) : Bool := match a, b with
  | .ofNat m, .ofNat n => Nat.blt m n
  | a, b => decide (a < b)
def leF (a b : Int) : Bool := match a, b with
  | .ofNat m, .ofNat n => Nat.ble m n
  | a, b => decide (a ≤ b)
def eqF (a b : Int) : Bool := match a, b with
  | .ofNat m, .ofNat n => Nat.beq m n
  | a, b => a == b
theorem ltF_eq (a b : Int) : ltF a b = decide (a < b) := by
  unfold ltF; split
  · rename_i m n; rw [Bool.eq_iff_iff]; simp [Nat.blt_eq]
  · rfl
theorem leF_eq (a b : Int) : leF a b = decide (a ≤ b) := by
  unfold leF; split
  · rename_i m n; rw [Bool.eq_iff_iff]; simp [Nat.ble_eq]
  · rfl
theorem eqF_eq (a b : Int) : eqF a b = (a == b) := by
  unfold eqF; split
  · rename_i m n; rw [Bool.eq_iff_iff]; simp; omega
  · rfl

def natBits : IntKind → Nat
  | .i8 => 8
  | .i16 => 16
  | .i32 => 32
  | .i64 => 64
  | .u8 => 8
  | .u16 => 16
  | .u32 => 32
  | .u64 => 64
theorem natBits_eq (k : IntKind) : natBits k = k.bits := by cases k <;> rfl

def nmin (a b : Nat) : Nat := match Nat.ble a b with
  | true => a
  | false => b
theorem nmin_eq (a b : Nat) : nmin a b = min a b := by
  unfold nmin; split
  · rename_i h; have : a ≤ b := by simpa using h
    omega
  · rename_i h; have : ¬ a ≤ b := fun hh => by rw [Nat.ble_eq_true_of_le hh] at h; cases h
    omega

/-- two numbers of a kind without a sign -/
def bitsF (k : IntKind) (f : Nat → Nat → Nat) (m n : Nat) : Option A := match ltF (-1) (Int.ofNat 0), Nat.ble 4 (ikN k) && (Nat.blt m (limN k) && Nat.blt n (limN k)) with
  | _, true => some (.int k (.ofNat (f m n)))
  | _, false => none

theorem ofInt_nat (w : Nat) (m : Nat) (h : m < 2 ^ w) : (BitVec.ofInt w (m : Int)).toNat = m := by
  rw [BitVec.toNat_ofInt]
  have : (m : Int) % ((2 ^ w : Nat) : Int) = m := by
    apply Int.emod_eq_of_lt <;> omega
  rw [this]; rfl

theorem lim_unsigned {k : IntKind} (h : 4 ≤ ikN k) : limN k = 2 ^ k.bits := by cases k <;> first | rfl | (simp [ikN] at h)

def binI (op : BinOp) (k : IntKind) (a : Int) (k' : IntKind) (b : Int) : Option (Option A) :=
  match op with
  | .add => some (gd (ikEq k k') (.int k (wrapF k (Int.add a b))))
  | .sub => some (gd (ikEq k k') (.int k (wrapF k (Int.sub a b))))
  | .mul => some (gd (ikEq k k') (.int k (wrapF k (Int.mul a b))))
  | .lss => some (gd (ikEq k k') (.bool (ltF a b)))
  | .leq => some (gd (ikEq k k') (.bool (leF a b)))
  | .gtr => some (gd (ikEq k k') (.bool (ltF b a)))
  | .geq => some (gd (ikEq k k') (.bool (leF b a)))
  | .eql => some (gd (ikEq k k') (.bool (eqF a b)))
  | .neq => some (gd (ikEq k k') (.bool (!eqF a b)))
  | .shr => match a, b with
    | .ofNat m, .ofNat n => some (some (.int k (.ofNat (Nat.shiftRight m (nmin n (natBits k))))))
    | _, _ => none
  | .shl => match a, b with
    | .ofNat m, .ofNat n => some (some (.int k (wrapF k (.ofNat (Nat.shiftLeft m (nmin n (natBits k)))))))
    | _, _ => none
  | .quo => match a, b with
    | .ofNat m, .ofNat n => match Nat.beq n 0 with
      | true => none
      | false => some (gd (ikEq k k') (.int k (wrapF k (.ofNat (Nat.div m n)))))
    | _, _ => none
  | .rem => match a, b with
    | .ofNat m, .ofNat n => match Nat.beq n 0 with
      | true => none
      | false => some (gd (ikEq k k') (.int k (.ofNat (Nat.mod m n))))
    | _, _ => none
  | _ => none

theorem binI_eq {L : Lay} {op : BinOp} {t : TypeId} {k k' : IntKind} {a b : Int} {r : Option A} (h : binI op k a k' b = some r) : binC L op t (.int k a) (.int k' b) = r := by
  cases op <;> simp only [binI, reduceCtorEq, Option.some.injEq] at h
  case add => subst h; simp only [binC, ikEq_eq, wrapF_eq]; rfl
  case sub => subst h; simp only [binC, ikEq_eq, wrapF_eq]; rfl
  case mul => subst h; simp only [binC, ikEq_eq, wrapF_eq]; rfl
  case lss => subst h; simp only [binC, ikEq_eq, ltF_eq]
  case leq => subst h; simp only [binC, ikEq_eq, leF_eq]
  case gtr => subst h; simp only [binC, ikEq_eq, ltF_eq, gt_iff_lt]
  case geq => subst h; simp only [binC, ikEq_eq, leF_eq, ge_iff_le]
  case eql => subst h; simp only [binC, ikEq_eq, eqF_eq]
  case neq => subst h; simp only [binC, ikEq_eq, eqF_eq]; rfl
  case shr =>
    split at h
    · rename_i m n
      simp only [Option.some.injEq] at h; subst h
      have e : (Int.ofNat m).fdiv (2 ^ (min n k.bits)) = Int.ofNat (Nat.shiftRight m (nmin n (natBits k))) := by
        rw [nmin_eq, natBits_eq]
        show (Int.ofNat m).fdiv (2 ^ (min n k.bits)) = Int.ofNat (m >>> (min n k.bits))
        rw [Nat.shiftRight_eq_div_pow, Int.fdiv_eq_ediv_of_nonneg _ (by exact Int.le_of_lt (Int.pow_pos (by decide)))]
        simp
      simp only [binC, Int.toNat_natCast, Int.ofNat_eq_natCast, Int.natCast_nonneg, decide_true, gd]
      simp only [Int.ofNat_eq_natCast] at e
      rw [e]
    · cases h
  case shl =>
    split at h
    · rename_i m n
      simp only [Option.some.injEq] at h; subst h
      simp only [binC, Int.toNat_natCast, Int.ofNat_eq_natCast, Int.natCast_nonneg, decide_true, gd, wrapF_eq, nmin_eq, natBits_eq]
      have e : ((Nat.shiftLeft m (min n k.bits) : Nat) : Int) = (m : Int) * 2 ^ (min n k.bits) := by
        show ((m <<< (min n k.bits) : Nat) : Int) = _
        rw [Nat.shiftLeft_eq]; simp
      rw [e]
    · cases h
  case quo =>
    split at h
    · rename_i m n
      split at h
      · cases h
      · rename_i h0
        simp only [Option.some.injEq] at h; subst h
        have hn : (n : Int) ≠ 0 := by intro e; have : n = 0 := by omega
                                      subst this; simp at h0
        simp only [binC, ikEq_eq, wrapF_eq, Int.ofNat_eq_natCast, ne_eq, hn, not_false_eq_true, decide_true, Bool.and_true]
        rfl
    · cases h
  case rem =>
    split at h
    · rename_i m n
      split at h
      · cases h
      · rename_i h0
        simp only [Option.some.injEq] at h; subst h
        have hn : (n : Int) ≠ 0 := by intro e; have : n = 0 := by omega
                                      subst this; simp at h0
        simp only [binC, ikEq_eq, Int.ofNat_eq_natCast, ne_eq, hn, not_false_eq_true, decide_true, Bool.and_true]
        rfl
    · cases h

def binF (L : Lay) (op : BinOp) (t : TypeId) (x y : A) : Option A := match x, y with
  | .int k a, .int k' b => match binI op k a k' b with
    | some r => r
    | none => binC L op t (.int k a) (.int k' b)
  | x, y => binC L op t x y

theorem binF_eq (L : Lay) (op : BinOp) (t : TypeId) (x y : A) : binF L op t x y = binC L op t x y := by
  unfold binF
  split
  · split
    · rename_i h; exact (binI_eq h).symm
    · rfl
  · rfl

def constF : Value → Option A
  | .int k n => gd (inF k n) (.int k n)
  | v => constA v

theorem constF_eq (v : Value) : constF v = constA v := by
  cases v <;> simp only [constF]
  rename_i k n
  rw [inF_eq, constA]
  by_cases h : k.wrap n = n <;> simp [h, gd]

def evF (tm : Tr A) : Operand → Option A
  | .tmp t => tm.get t
  | .const v => constF v
  | .func f => some (.fn (.func f) [] [])
  | .global _ => none

theorem evF_eq (tm : Tr A) (x : Operand) : evF tm x = evA tm.get x := by cases x <;> simp only [evF, evA, constF_eq]

def shF (v : A) (s : Sh) : Bool := match s with
  | .leaf => !v.isSt
  | .node l => Sh.eqb v.shp (.node l)

theorem shF_eq (v : A) (s : Sh) : shF v s = Sh.eqb v.shp s := by
  cases s with
  | leaf => cases v <;> simp [shF, A.isSt, A.shp, Sh.eqb]
  | node l => rfl

def lgetF {α : Type} (l : List α) : Nat → Option α :=
  List.rec (motive := fun _ => Nat → Option α) (fun _ => none) (fun x _ ih n => Bool.rec (ih (Nat.sub n (nat_lit 1))) (some x) (Nat.beq n (nat_lit 0))) l

theorem lgetF_eq {α : Type} : ∀ (l : List α) (n : Nat), lgetF l n = l[n]?
  | [], n => by simp [lgetF]
  | x :: l, n => by
    show (Bool.rec (lgetF l (n - 1)) (some x) (Nat.beq n 0) : Option α) = _
    cases n with
    | zero => rfl
    | succ n => simp only [Nat.beq, Nat.add_sub_cancel, lgetF_eq l n, List.getElem?_cons_succ]

def lsetF {α : Type} (y : α) (l : List α) : Nat → List α :=
  List.rec (motive := fun _ => Nat → List α) (fun _ => []) (fun x l ih n => Bool.rec (x :: ih (Nat.sub n (nat_lit 1))) (y :: l) (Nat.beq n (nat_lit 0))) l

theorem lsetF_eq {α : Type} (y : α) : ∀ (l : List α) (n : Nat), lsetF y l n = l.set n y
  | [], n => by simp [lsetF]
  | x :: l, n => by
    show (Bool.rec (x :: lsetF y l (n - 1)) (y :: l) (Nat.beq n 0) : List α) = _
    cases n with
    | zero => rfl
    | succ n => simp only [Nat.beq, Nat.add_sub_cancel, lsetF_eq y l n, List.set_cons_succ]

def subF (p : List Nat) : A → Option A :=
  List.rec (motive := fun _ => A → Option A) (fun x => some x) (fun i _ ih x => match x with
    | .st fs => match lgetF fs i with
      | some y => ih y
      | none => none
    | _ => none) p

theorem subF_eq : ∀ (p : List Nat) (x : A), subF p x = x.sub p
  | [], x => by cases x <;> rfl
  | i :: p, x => by
    show (match x with
      | .st fs => match lgetF fs i with
        | some y => subF p y
        | none => none
      | _ => none) = _
    cases x <;> simp only [A.sub]
    rename_i fs
    rw [lgetF_eq]
    cases fs[i]? with
    | none => rfl
    | some y => exact subF_eq p y

def updF (v : A) (p : List Nat) : A → Option A :=
  List.rec (motive := fun _ => A → Option A) (fun _ => some v) (fun i _ ih x => match x with
    | .st fs => match lgetF fs i with
      | some y => match ih y with
        | some y' => some (.st (lsetF y' fs i))
        | none => none
      | none => none
    | _ => none) p

theorem updF_eq (v : A) : ∀ (p : List Nat) (x : A), updF v p x = x.upd p v
  | [], x => by cases x <;> rfl
  | i :: p, x => by
    show (match x with
      | .st fs => match lgetF fs i with
        | some y => match updF v p y with
          | some y' => some (A.st (lsetF y' fs i))
          | none => none
        | none => none
      | _ => none) = _
    cases x <;> simp only [A.upd]
    rename_i fs
    rw [lgetF_eq]
    cases fs[i]? with
    | none => rfl
    | some y =>
      simp only [updF_eq v p y]
      cases y.upd p v with
      | none => rfl
      | some y' => simp only [lsetF_eq]

theorem nbeq (a b : Nat) : Nat.beq a b = (a == b) := by rw [Bool.eq_iff_iff]; simp

def mvF (tm : Tr A) (x : Operand) : Option Dl := match evF tm x with
  | some v => some ⟨v, [], [], 0⟩
  | none => none

def ldG (d : TD) (o ver : Nat) (p : List Nat) (ob : Ob) : Option Dl := match subF p ob.val with
  | some v => gd (Nat.beq ob.ver ver && shF v d.sh) ⟨v, [], [o], 0⟩
  | none => none
def ldF (L : Lay) (tm : Tr A) (hp : Tr Ob) (t : TypeId) (x : Operand) : Option Dl := match L t with
  | some d => match evF tm x with
    | some (.ptr o ver p _) => match hp.get o with
      | some ob => ldG d o ver p ob
      | none => none
    | some (.iptr v) => gd (shF v d.sh) ⟨v, [], [], 0⟩
    | _ => none
  | none => none

def stG (d : TD) (o ver : Nat) (p : List Nat) (ob : Ob) (v : A) : Option Dl := match subF p ob.val with
  | some u => match updF v p ob.val with
    | some z => gd (Nat.beq ob.ver ver && (!ob.fz && (!v.isTup && (shF v d.sh && (shF u d.sh && (!ob.e.isSome || !p.isEmpty)))))) ⟨.tup [], [(o, { ob with val := z })], [o], 0⟩
    | none => none
  | none => none
def stF (L : Lay) (tm : Tr A) (hp : Tr Ob) (t : TypeId) (a x : Operand) : Option Dl := match L t with
  | some d => match evF tm a with
    | some (.ptr o ver p _) => match hp.get o with
      | some ob => match evF tm x with
        | some v => stG d o ver p ob v
        | none => none
      | none => none
    | _ => none
  | none => none

def iaF (L : Lay) (tm : Tr A) (hp : Tr Ob) (t : TypeId) (x i : Operand) : Option Dl := match L t with
  | some d => match evF tm i with
    | some (.int _ n) => match d.k, evF tm x with
      | .sl e, some (.own o ver off len) => match L e with
        | some de => match hp.get o with
          | some ob => gd (Nat.beq ob.ver ver && (ob.e == some e && (leF 0 n && ltF n len))) ⟨.ptr o ver [off + n.toNat] de.sh, [], [o], 0⟩
          | none => none
        | none => none
      | .sl e, some (.sl e' xs) => match L e with
        | some _ => match lgetF xs n.toNat with
          | some v => gd (e == e' && leF 0 n) ⟨.iptr v, [], [], 0⟩
          | none => none
        | none => none
      | .arr m e, some (.ptr o ver p s) => match L e with
        | some de => match hp.get o with
          | some ob => gd (Nat.beq ob.ver ver && (leF 0 n && (ltF n m && Sh.eqb s d.sh))) ⟨.ptr o ver (p ++ [n.toNat]) de.sh, [], [o], 0⟩
          | none => none
        | none => none
      | .arr m _, some (.iptr v) => match subF [n.toNat] v with
        | some u => gd (leF 0 n && (ltF n m && shF v d.sh)) ⟨.iptr u, [], [], 0⟩
        | none => none
      | _, _ => none
    | _ => none
  | none => none

def bnF (L : Lay) (tm : Tr A) (op : BinOp) (t : TypeId) (x y : Operand) : Option Dl := match evF tm x with
  | some a => match evF tm y with
    | some b => match binF L op t a b with
      | some r => some ⟨r, [], [], 0⟩
      | none => none
    | none => none
  | none => none

def pkF (tm : Tr A) (c a b : Operand) : Option Dl := match evF tm c with
  | some (.bool true) => mvF tm a
  | some (.bool false) => mvF tm b
  | _ => none

def opF (L : Lay) (op : Op) (tm : Tr A) (hp : Tr Ob) (id : Nat) : Option Dl := match op with
  | .move x => mvF tm x
  | .assign x => mvF tm x
  | .load t x => ldF L tm hp t x
  | .store t a x => stF L tm hp t a x
  | .indexAddr t x i => iaF L tm hp t x i
  | .binOp op t x y _ => bnF L tm op t x y
  | .pick c a b => pkF tm c a b
  | op => opc L op tm.get hp.get id

theorem mvF_eq (tm : Tr A) (x : Operand) : mvF tm x = (evA tm.get x).bind fun v => some ⟨v, [], [], 0⟩ := by
  unfold mvF
  rw [evF_eq]
  cases evA tm.get x <;> rfl

theorem opF_eq (L : Lay) (op : Op) (tm : Tr A) (hp : Tr Ob) (id : Nat) : opF L op tm hp id = opc L op tm.get hp.get id := by
  cases op <;> try rfl
  case move x => simp only [opF, mvF_eq, opc]
  case assign x => simp only [opF, mvF_eq, opc]
  case load t x =>
    simp only [opF, ldF, opc, evF_eq]
    cases L t with
    | none => rfl
    | some d =>
      simp only [Option.bind_some]
      cases evA tm.get x with
      | none => rfl
      | some v =>
        cases v <;> try rfl
        · rename_i o ver p s
          simp only
          cases hp.get o with
          | none => rfl
          | some ob =>
            simp only [ldG, subF_eq, nbeq, shF_eq, Option.bind_some]
            cases ob.val.sub p <;> rfl
        · simp only [shF_eq]
  case store t a x =>
    simp only [opF, stF, opc, evF_eq]
    cases L t with
    | none => rfl
    | some d =>
      simp only [Option.bind_some]
      cases evA tm.get a with
      | none => rfl
      | some v =>
        cases v <;> try rfl
        rename_i o ver p s
        simp only
        cases hp.get o with
        | none => rfl
        | some ob =>
          simp only [Option.bind_some]
          cases evA tm.get x with
          | none => rfl
          | some v =>
            simp only [stG, subF_eq, updF_eq, nbeq, shF_eq, Option.bind_some]
            cases ob.val.sub p with
            | none => rfl
            | some u =>
              simp only [Option.bind_some]
              cases ob.val.upd p v <;> rfl
  case indexAddr t x i =>
    simp only [opF, iaF, opc, evF_eq]
    cases L t with
    | none => rfl
    | some d =>
      simp only [Option.bind_some]
      cases evA tm.get i with
      | none => rfl
      | some v =>
        cases v <;> try rfl
        rename_i k n
        simp only
        cases hk : d.k <;> (try rfl) <;> cases evA tm.get x <;> (try rfl) <;> rename_i z <;> cases z <;> (try rfl)
        all_goals simp only [lgetF_eq, leF_eq, ltF_eq, nbeq, subF_eq, shF_eq]
        · rename_i e _ _; cases L e <;> (try rfl); simp only [Option.bind_some]
          rename_i xs _; cases xs[n.toNat]? <;> rfl
        · rename_i e o ver off len; cases L e <;> (try rfl); simp only [Option.bind_some]
          cases hp.get o <;> rfl
        · rename_i m e o ver p s; cases L e <;> (try rfl); simp only [Option.bind_some]
          cases hp.get o <;> rfl
        · rename_i m e u; cases u.sub [n.toNat] <;> rfl
  case binOp op t x y t' =>
    simp only [opF, bnF, opc, evF_eq, binF_eq]
    cases evA tm.get x with
    | none => rfl
    | some a =>
      simp only [Option.bind_some]
      cases evA tm.get y with
      | none => rfl
      | some b =>
        simp only [Option.bind_some]
        cases binC L op t a b <;> rfl
  case pick c a b =>
    simp only [opF, pkF, opc, evF_eq, mvF_eq]
    cases evA tm.get c with
    | none => rfl
    | some v =>
      cases v <;> rfl

end
end Go.Ab
