import Derived.Test.YthfkhnoehehpmaaGreatAjd
import Derived.Test.YthfkhnoehehpmaaGreatAi
import Derived.Test.YthfkhnoehehpmaaGreatAjb
set_option linter.unusedVariables false
set_option linter.unusedSimpArgs false
/- THE INTERPRETER: all together. -/
namespace Go.Ab
noncomputable section

def setY (ys : List (Nat × XC)) (o : Nat) (x : XC) : List (Nat × XC) := (o, x) :: ys.filter fun p => !Nat.beq p.1 o
def dropY (l : List Nat) (ys : List (Nat × XC)) : List (Nat × XC) := ys.filter fun p => !l.contains p.1

theorem look_filter {α : Type} {q : Nat → Bool} : ∀ (l : List (Nat × α)) (k : Nat), look (l.filter fun p => q p.1) k = if q k = true then look l k else none
  | [], k => by simp [look]
  | (i, x) :: l, k => by
    have ih := look_filter (q := q) l k
    simp only [List.filter_cons]
    by_cases hq : q i = true
    · simp only [hq, if_true, look]
      by_cases e : k = i
      · subst e; simp [hq]
      · simp only [e, if_false]; exact ih
    · simp only [hq, look]
      by_cases e : k = i
      · subst e; simp only [hq, if_false] at ih ⊢; exact ih
      · simp only [e, if_false]; exact ih

theorem setY_look (ys : List (Nat × XC)) (o : Nat) (x : XC) (k : Nat) : look (setY ys o x) k = if k = o then some x else look ys k := by
  simp only [setY, look]
  by_cases e : k = o
  · simp [e]
  · simp only [e, if_false]
    rw [look_filter (q := fun i => !Nat.beq i o)]
    have : Nat.beq k o = false := by
      cases h : Nat.beq k o with
      | false => rfl
      | true => exact absurd (Nat.eq_of_beq_eq_true h) e
    simp [this]

theorem setY_yf (s : CS) (o : Nat) (x : XC) : (fun k => (look (setY s.ys o x) k).map XC.xo) = upy s.yf o (some x.xo) := by
  funext k
  rw [setY_look]
  simp only [upy, CS.yf]
  split <;> rfl

theorem dropY_yf (s : CS) (l : List Nat) : (fun k => (look (dropY l s.ys) k).map XC.xo) = fun k => if k ∈ l then none else s.yf k := by
  funext k
  simp only [dropY]
  rw [look_filter (q := fun i => !l.contains i)]
  by_cases h : k ∈ l <;> simp [h, CS.yf]

def isDfr (ys : List (Nat × XC)) (o : Nat) : Bool := match look ys o with
  | some .dfr => true
  | _ => false

theorem isDfr_spec {s : CS} {o : Nat} (h : isDfr s.ys o = true) : s.yf o = some .dfr := by
  unfold isDfr at h
  split at h
  · rename_i hl; simp [CS.yf, hl, XC.xo]
  · cases h

def mkOk (l : List Nat) (s2 : CS) : Bool := l.all fun o => isDfr s2.ys o && !s2.mks.contains o

theorem mkOk_spec {l : List Nat} {s2 : CS} (h : mkOk l s2 = true) : ∀ o ∈ l, s2.as.ys o = some .dfr ∧ o ∉ s2.as.mks := fun o ho => by
  unfold mkOk at h
  rw [List.all_eq_true] at h
  have := h o ho
  simp only [Bool.and_eq_true, Bool.not_eq_true', List.contains_eq_mem, decide_eq_false_iff_not] at this
  exact ⟨isDfr_spec this.1, this.2⟩

/-- the frame's own temporaries, with one put -/
def putT (tm : Tr A) (d : Option Tmp) (v : A) : Option (Tr A) := match d with
  | none => some tm
  | some k => match Nat.blt k 65536 with
    | true => some (Tr.set v 65536 tm k)
    | false => none

theorem putT_spec {tm tm' : Tr A} {d : Option Tmp} {v : A} (h : putT tm d v = some tm') : tm'.get = upf tm.get d v := by
  unfold putT at h
  split at h
  · cases h; funext t; simp [upf]
  · split at h
    · rename_i k hk
      cases h
      funext t
      rw [Tr.get_set _ _ _ _ (by simpa using hk)]
      simp [upf]
    · cases h

def putX (s : CS) (d : Option Tmp) (v : A) (hp : Tr Ob) (nx : Nat) (ys : List (Nat × XC)) : Option CS := (putT s.tm d v).bind fun tm => some ⟨tm, hp, nx, ys, s.mks⟩

theorem putX_spec {s s' : CS} {d : Option Tmp} {v : A} {hp : Tr Ob} {nx : Nat} {ys : List (Nat × XC)} (h : putX s d v hp nx ys = some s') : s'.as = ⟨upf s.as.tm d v, hp.get, nx, fun k => (look ys k).map XC.xo, s.as.mks⟩ := by
  unfold putX at h
  rw [Option.bind_eq_some_iff] at h
  obtain ⟨tm, h1, h2⟩ := h
  cases h2
  simp only [CS.as, putT_spec h1]
  rfl

def bindT : List Nat → List A → Tr A → Option (Tr A)
  | p :: ps, v :: vs, t => match Nat.blt p 65536 with
    | true => bindT ps vs (Tr.set v 65536 t p)
    | false => none
  | _, _, t => some t

theorem bindT_spec : ∀ (ps : List Nat) (vs : List A) (t t' : Tr A), bindT ps vs t = some t' → t'.get = bindPs ps vs t.get
  | [], _, _, _, h => by simp only [bindT, Option.some.injEq] at h; subst h; rfl
  | _ :: _, [], _, _, h => by simp only [bindT, Option.some.injEq] at h; subst h; rfl
  | p :: ps, v :: vs, t, t', h => by
    simp only [bindT] at h
    split at h
    · rename_i hp
      rw [bindT_spec ps vs _ _ h]
      simp only [bindPs]
      congr 1
      funext k
      rw [Tr.get_set _ _ _ _ (by simpa using hp)]
      simp [upf]
    · cases h

theorem ofL_tm (vs : List A) (h : vs.length ≤ 65536) : (Tr.ofL vs 0 .lf).get = fun t => vs[t]? := by
  funext t
  rw [Tr.ofL_get _ _ _ (by omega)]
  simp only [Nat.not_lt_zero, if_false, Nat.zero_add, Nat.sub_zero, Tr.get_lf]
  split
  · rfl
  · rename_i h; rw [List.getElem?_eq_none (by omega)]

abbrev RN := Bool → Nat → Code → CS → Option (Exit × CS)

/-- what the interpreter leans on: the program, its functions and types, contracts, which functions it may enter, and the types without cells -/
structure Cfg where
  P : Program
  FT : FuncId → Option Func
  L : Lay
  E : FuncId → List A → Hp → Nat → Option Dl
  okF : FuncId → Bool
  units : TypeId → Bool

section
variable (K : Cfg)

def sharedC (rn : RN) (f : FuncId) (vs : List A) (s : CS) (d : Option Tmp) : Option CS :=
  match K.FT f with
  | none => none
  | some fn => match fn.body with
    | none => none
    | some c => match K.okF f && (Nat.ble vs.length fn.ntmps && Nat.ble vs.length 65536) with
      | true => match rn false fn.ntmps c ⟨Tr.ofL vs 0 .lf, s.hp, s.nx, s.ys, []⟩ with
        | some (e, s2) => (resCs K.L s2 fn.results.toList).bind fun rs => match isEnd e && (rs.all (fun v => !v.isTup) && mkOk s.mks s2) with
          | true => putX s d (packA rs) s2.hp s2.nx (dropY s2.mks s2.ys)
          | false => none
        | none => none
      | false => none

def isReady : LoopState → Bool
  | .ready => true
  | _ => false
def notBusy : LoopState → Bool
  | .busy => false
  | _ => true

def yieldC (rn : RN) (oo : Nat) (vs : List A) (s : CS) (d : Option Tmp) : Option CS :=
  match look s.ys oo with
  | some (.loop y) => match Nat.beq vs.length y.ps.size && (y.ps.toList.all (fun p => Nat.blt p y.N) && (codeOk y.N y.assign && codeOk y.N y.body)) with
    | true => (bindT y.ps.toList vs y.tm).bind fun tm => match rn true y.N y.assign ⟨tm, s.hp, s.nx, s.ys, []⟩ with
      | some (.normal, s1) => match look s1.ys oo with
        | some (.loop y1) => match isReady y1.st && s1.mks.isEmpty with
          | true => match rn true y.N y.body ⟨s1.tm, s1.hp, s1.nx, setY s1.ys oo (.loop { y1 with st := .busy }), []⟩ with
            | some (e, s2) => match look s2.ys oo, jumpOf e with
              | some (.loop y2), some jump => match s2.mks.isEmpty && s.mks.all (isDfr s2.ys) with
                | true => putX s d (.bool jump.isNone) s2.hp s2.nx (setY s2.ys oo (.loop { y2 with st := if jump.isNone then .ready else .done, pend := jump }))
                | false => none
              | _, _ => none
            | none => none
          | false => none
        | _ => none
      | _ => none
    | false => none
  | _ => none

def fzHp (y : Ob) (hp : Tr Ob) (o : Nat) : Tr Ob := match y.fz with
  | true => hp
  | false => Tr.set { y with fz := true } 1048576 hp o

/-- slices of one's own, as slices that nobody writes any more -/
def purT : List Operand → CS → CS
  | [], s => s
  | .tmp t :: l, s => match s.tm.get t with
    | some (.own o ver off len) => match s.hp.get o with
      | some y => match y.e, y.ver == ver && (Nat.ble (off + len) (elems y).length && (Nat.blt o 1048576 && Nat.blt t 65536)) with
        | some e, true => purT l ⟨Tr.set (.sl e (((elems y).drop off).take len)) 65536 s.tm t, fzHp y s.hp o, s.nx, s.ys, s.mks⟩
        | _, _ => purT l s
      | none => purT l s
    | _ => purT l s
  | _ :: l, s => purT l s

def slTy (t : TypeId) : Bool := match K.P.underlying t with
  | some (.slice _) => true
  | _ => false

/-- is it nil? -/
def isNilC (hp : Tr Ob) : A → Option Bool
  | .nilsl => some true
  | .sl _ (_ :: _) => some false
  | .own o ver _ (_ + 1) => match hp.get o with
    | some y => gd (y.ver == ver) false
    | none => none
  | _ => none

def mapTy (mt : TypeId) : Bool := match K.P.underlying mt with
  | some (.map kt _) => match K.P.underlying kt with
    | some (.int .i64) => true
    | _ => false
  | _ => false

/-- is a call answered by a contract? -/
def tryE (f : FuncId) (first caps : List A) (args : List Operand) (s : CS) : Option Dl := match (evAs s.tm.get args).bind fun vs => gd (vs.all fun v => !v.isTup) vs with
  | some vs => K.E f (first ++ vs ++ caps) s.hp.get s.nx
  | none => none

def callV (rn : RN) (x : Operand) (args : List Operand) (d : Option Tmp) (s : CS) : Option CS := match evF s.tm x with
  | some (.fn (.func f) first caps) => match tryE K f first caps args s with
    | some δ => putC s d δ
    | none => match tryE K f first caps args (purT args s) with
      | some δ => putC (purT args s) d δ
      | none => match (evAs s.tm.get args).bind fun vs => gd (vs.all fun v => !v.isTup) vs with
        | some vs => sharedC K rn f (first ++ vs ++ caps) s d
        | none => none
  | some (.xo .yl oo) => match (evAs s.tm.get args).bind fun vs => gd (vs.all fun v => !v.isTup) vs with
    | some vs => yieldC rn oo vs s d
    | none => none
  | _ => none

def capT (args : List Operand) (ts : List TypeId) (d : Option Tmp) (s : CS) : Option CS := match args, ts with
  | [x], [t] => match slTy K t, evA s.tm.get x with
    | true, some .nilsl => putX s d (.int .i64 0) s.hp s.nx s.ys
    | _, _ => none
  | _, _ => none

def apnT (x y : Operand) (t t' : TypeId) (d : Option Tmp) (s : CS) : Option CS := match K.P.underlying t', evA s.tm.get x, evA s.tm.get y, K.L t with
  | some (.int .i64), some .nilsl, some (.int .i64 n), some td => match td.k with
    | .sl e => (K.L e).bind fun de => match decide (0 < n) && (decide (n * de.byt ≤ maxBytes) && decide (n ≤ maxBytes)) with
      | true => putC s d ⟨.own s.nx 0 0 n.toNat, [(s.nx, ⟨0, false, some e, .st (List.replicate n.toNat de.zero)⟩)], [], 1⟩
      | false => none
    | _ => none
  | _, _, _, _ => none

def plainT (op : Op) (d : Option Tmp) (s : CS) : Option CS := match opF K.L op s.tm s.hp s.nx with
  | some δ => putC s d δ
  | none => none

def appT (args : Array Operand) (ts : Array TypeId) (d : Option Tmp) (s : CS) : Option CS := match args.toList, ts.toList with
  | [x, y], [t, t'] => match Nat.beq t t' with
    | true => plainT K (.call { callee := .builtin .append, args := args, argTypes := ts }) d s
    | false => apnT K x y t t' d s
  | _, _ => none

def callT (rn : RN) (c : Call) (d : Option Tmp) (s : CS) : Option CS := match c with
  | { callee := .value x, args := args, argTypes := _ } => callV K rn x args.toList d s
  | { callee := .builtin .cap, args := args, argTypes := ts } => capT K args.toList ts.toList d s
  | { callee := .builtin .append, args := args, argTypes := ts } => appT K args ts d s
  | c => plainT K (.call c) d s

def binT (bo : BinOp) (t : TypeId) (x y : Operand) (t' : TypeId) (d : Option Tmp) (s : CS) : Option CS := match y with
  | .const (.slice none 0 0) => match slTy K t, (evA s.tm.get x).bind (isNilC s.hp), bo with
    | true, some b, .eql => putX s d (.bool b) s.hp s.nx s.ys
    | true, some b, .neq => putX s d (.bool (!b)) s.hp s.nx s.ys
    | _, _, _ => none
  | _ => plainT K (.binOp bo t x y t') d s

def sliceT (op : Op) (x : Operand) (d : Option Tmp) (s : CS) : Option CS := match opc K.L op s.tm.get s.hp.get s.nx with
  | some δ => putC s d δ
  | none => plainT K op d (purT [x] s)

def mupT (mt : TypeId) (m k v : Operand) (d : Option Tmp) (s : CS) : Option CS := match mapTy K mt, evA s.tm.get m, evA s.tm.get k, evA s.tm.get v with
  | true, some (.xo .mp oo), some (.int .i64 n), some (.st []) => match look s.ys oo with
    | some (.map ks) => putX s d (.tup []) s.hp s.nx (setY s.ys oo (.map (mapIns ks n)))
    | _ => none
  | _, _, _, _ => none

def rngT (mt : TypeId) (x : Operand) (d : Option Tmp) (s : CS) : Option CS := match mapTy K mt, evA s.tm.get x with
  | true, some (.xo .mp oo) => match look s.ys oo with
    | some (.map ks) => putX s d (.xo .it s.nx) s.hp (s.nx + 1) (setY s.ys s.nx (.iter oo ks.length [] ks.length))
    | _ => none
  | _, _ => none

def nextT (x : Operand) (d : Option Tmp) (s : CS) : Option CS := match evA s.tm.get x with
  | some (.xo .it oo) => match look s.ys oo with
    | some (.iter m since seen stepped) => match look s.ys m with
      | some (.map ks) => match Nat.ble ks.length since && Nat.ble since stepped, leftN ks.length seen with
        | true, [] => putX s d (.tup [.bool false]) s.hp s.nx s.ys
        | true, [i] => match ks[i]? with
          | some n => match decide (IntKind.wrap .i64 n = n) with
            | true => putX s d (.tup [.bool true, .int .i64 n, .st []]) s.hp s.nx (setY s.ys oo (.iter m since (seen ++ [i]) ks.length))
            | false => none
          | none => none
        | _, _ => none
      | _ => none
    | _ => none
  | _ => none

def entT (x : Operand) (d : Option Tmp) (s : CS) : Option CS := match evA s.tm.get x with
  | some (.xo .it oo) => match look s.ys oo with
    | some (.iter m _ seen stepped) => match look s.ys m, seen.getLast? with
      | some (.map ks), some i => match ks[i]? with
        | some n => match Nat.beq stepped ks.length && decide (IntKind.wrap .i64 n = n) with
          | true => putX s d (.tup [.int .i64 n, .st []]) s.hp s.nx s.ys
          | false => none
        | none => none
      | _, _ => none
    | _ => none
  | _ => none

def bldT (t : TypeId) (parts : Array (Nat × Operand)) (d : Option Tmp) (s : CS) : Option CS := match parts.toList, K.units t with
  | [], true => putX s d (.st []) s.hp s.nx s.ys
  | _, _ => plainT K (.build t parts) d s

def opT (rn : RN) (o : Oper) (s : CS) : Option CS := match o.op with
  | .call c => callT K rn c o.dst s
  | .binOp bo t x y t' => binT K bo t x y t' o.dst s
  | .slice t x lo hi mx => sliceT K (.slice t x lo hi mx) x o.dst s
  | .makeMap _ none => putX s o.dst (.xo .mp s.nx) s.hp (s.nx + 1) (setY s.ys s.nx (.map []))
  | .mapUpdate mt m k v => mupT K mt m k v o.dst s
  | .range mt x => rngT K mt x o.dst s
  | .next x false => nextT x o.dst s
  | .entry x => entT x o.dst s
  | .build t parts => bldT K t parts o.dst s
  | op => plainT K op o.dst s

def stepT (rn : RN) (ops : Array Oper) (o : Oper) (k : CS → Option CS) (s : CS) : Option CS := match wantC ops o s.tm with
  | some true => match opT K rn o s with
    | some s1 => k s1
    | none => none
  | some false => match putX s o.dst (.tup []) s.hp s.nx s.ys with
    | some s1 => k s1
    | none => none
  | none => none

noncomputable def runT (rn : RN) (ops : Array Oper) (l : List Oper) : CS → Option CS :=
  List.rec (motive := fun _ => CS → Option CS) (fun s => some s) (fun o _ ih s => stepT K rn ops o ih s) l

theorem runT_nil (rn : RN) (ops : Array Oper) (s : CS) : runT K rn ops [] s = some s := rfl
theorem runT_cons (rn : RN) (ops : Array Oper) (o : Oper) (l : List Oper) (s : CS) : runT K rn ops (o :: l) s = stepT K rn ops o (runT K rn ops l) s := rfl

noncomputable def regT (rn : RN) (ops : Array Oper) (s : CS) : Option (Exit × CS) := match runT K rn ops ops.toList s with
  | some s1 => some (.normal, s1)
  | none => none

def cfA (rn : RN) (f : FuncId) (vs : List A) (hp : Hp) (nx : Nat) : Option Dl := match K.E f vs hp nx with
  | some δ => some δ
  | none => callX K.FT K.L (rn false) K.okF f vs hp nx

def regA (rn : RN) (ops : Array Oper) (s : CS) : Option (Exit × CS) := match runOps K.L (cfA K rn) ops ops.toList s with
  | some r => match ordD ops r.2 with
    | true => some (.normal, r.1)
    | false => match runOps K.L (cfA K rn) ops ops.toList (freezeC (frozen s r) s) with
      | some r => match ordD ops r.2 with
        | true => some (.normal, r.1)
        | false => none
      | none => none
  | none => none

def seqC (rn : Code → CS → Option (Exit × CS)) (a b : Code) (s : CS) : Option (Exit × CS) := match rn a s with
  | some (.normal, s1) => rn b s1
  | r => r

def condC (rn : Code → CS → Option (Exit × CS)) (c : Operand) (a b : Code) (s : CS) : Option (Exit × CS) := match evA s.tm.get c with
  | some (.bool true) => rn a s
  | some (.bool false) => rn b s
  | _ => none

def blockC (rn : Code → CS → Option (Exit × CS)) (id : Nat) (a : Code) (s : CS) : Option (Exit × CS) := match rn a s with
  | some (.exit i, s1) => match Nat.beq i id with
    | true => some (.normal, s1)
    | false => some (.exit i, s1)
  | r => r

def loopC (rn : Code → CS → Option (Exit × CS)) (a : Code) (s : CS) : Option (Exit × CS) := match rn a s with
  | some (.normal, s1) => rn (.loop a) s1
  | r => r

def rfunC (rn : RN) (ro : Bool) (N : Nat) (gop : Operand) (ps : Array Tmp) (assign body : Code) (s : CS) : Option (Exit × CS) := match ro, evA s.tm.get gop with
  | false, some (.fn (.func f) first caps) => match K.FT f with
    | none => none
    | some fn => match fn.body with
      | none => none
      | some c => match K.okF f && (Nat.ble (first ++ [A.xo .yl (s.nx + 1)] ++ caps).length fn.ntmps && Nat.ble (first ++ [A.xo .yl (s.nx + 1)] ++ caps).length 65536) with
        | true => match rn false fn.ntmps c ⟨Tr.ofL (first ++ [.xo .yl (s.nx + 1)] ++ caps) 0 .lf, s.hp, s.nx + 2, setY (setY s.ys s.nx .dfr) (s.nx + 1) (.loop ⟨ps, N, s.tm, assign, body, .ready, none⟩), []⟩ with
          | some (e, s2) => (resCs K.L s2 fn.results.toList).bind fun rs => match look s2.ys (s.nx + 1) with
            | some (.loop y2) => match isEnd e && (rs.all (fun v => !v.isTup) && (notBusy y2.st && (!s2.mks.contains (s.nx + 1) && mkOk (s.nx :: s.mks) s2))), pendExit y2.pend with
              | true, some e' => some (e', ⟨s.tm, s2.hp, s2.nx, dropY ((s.nx + 1) :: s2.mks) s2.ys, s.nx :: s.mks⟩)
              | _, _ => none
            | _ => none
          | none => none
        | false => none
  | _, _ => none

noncomputable def stepC (rn : RN) (ro : Bool) (N : Nat) (c : Code) (s : CS) : Option (Exit × CS) := match c with
  | .skip => some (.normal, s)
  | .label _ => some (.normal, s)
  | .exit id => some (.exit id, s)
  | .goto l => some (.goto l, s)
  | .ret => some (.ret, s)
  | .region _ ops false => regT K rn ops s
  | .region _ ops true => regA K rn ops s
  | .seq a b => seqC (rn ro N) a b s
  | .cond c a b => condC (rn ro N) c a b s
  | .block id a => blockC (rn ro N) id a s
  | .loop a => loopC (rn ro N) a s
  | .scope a => scopeGo (rn ro N) a 1000 a s
  | .rangeFunc gop ps assign body => rfunC K rn ro N gop ps assign body s
  | .refuse _ => none

noncomputable def runC (n : Nat) : RN := Nat.rec (motive := fun _ => RN) (fun _ _ _ _ => none) (fun _ ih => stepC K ih) n

theorem runC_zero (ro : Bool) (N : Nat) (c : Code) (s : CS) : runC K 0 ro N c s = none := rfl
theorem runC_succ (n : Nat) : runC K (n + 1) = stepC K (runC K n) := rfl

end

end
end Go.Ab
