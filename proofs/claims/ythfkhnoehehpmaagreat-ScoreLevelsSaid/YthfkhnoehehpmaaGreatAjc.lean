import Derived.Test.YthfkhnoehehpmaaGreatAjb
set_option linter.unusedVariables false
set_option linter.unusedSimpArgs false
/- THE INTERPRETER: code. -/
namespace Go.Ab
noncomputable section

/-- a loop over a function, computed -/
structure YC where
  ps : Array Tmp
  N : Nat
  tm : Tr A
  assign : Code
  body : Code
  st : LoopState
  pend : Option Code

def YC.yr (y : YC) : YR := ⟨y.ps, y.N, y.tm.get, y.assign, y.body, y.st, y.pend⟩

inductive XC where
  | loop (y : YC)
  | dfr
  | map (ks : List Int)
  | iter (m since : Nat) (seen : List Nat) (stepped : Nat)

def XC.xo : XC → XO
  | .loop y => .loop y.yr
  | .dfr => .dfr
  | .map ks => .map ks
  | .iter m since seen stepped => .iter m since seen stepped

structure CS where
  tm : Tr A
  hp : Tr Ob
  nx : Nat
  ys : List (Nat × XC) := []
  mks : List Nat := []

def CS.yf (s : CS) : Nat → Option XO := fun o => (look s.ys o).map XC.xo

def CS.as (s : CS) : AS := ⟨s.tm.get, s.hp.get, s.nx, s.yf, s.mks⟩

abbrev Foot := List Nat × List Nat

def dynClash (f : Nat → Foot) (i j : Nat) : Bool := meets (f j).1 (f i).1 || (meets (f j).1 (f i).2 || meets (f i).1 (f j).2)

def staClash (ops : Array Oper) (i j : Nat) : Bool :=
  match ops[i]?, ops[j]? with
  | some oi, some oj =>
    (match oj.dst with | some d => (oi.looksAt ops).contains d || oi.dst == some d | none => false) ||
    (match oi.dst with | some d => (oj.looksAt ops).contains d | none => false)
  | _, _ => false

theorem clash_split {ops : Array Oper} {f : Nat → Foot} {i j : Nat} (h : clash ops f i j = true) : staClash ops i j = true ∨ dynClash f i j = true := by
  unfold clash at h
  unfold staClash dynClash
  split at h
  · rename_i oi oj h1 h2
    simp only [h1, h2]
    simp only [Bool.or_eq_true] at h ⊢
    rcases h with (((h | h) | h) | h) | h
    · exact .inl (.inl h)
    · exact .inl (.inr h)
    · exact .inr (.inl h)
    · exact .inr (.inr (.inl h))
    · exact .inr (.inr (.inr h))
  · cases h

def pairsB (n : Nat) (p : Nat → Nat → Bool) (ok : Nat → Nat → Bool) : Bool := (List.range n).all fun i => (List.range i).all fun j => !p i j || ok i j

theorem pairsB_spec {n : Nat} {p ok : Nat → Nat → Bool} (h : pairsB n p ok = true) {i j : Nat} (hj : j < i) (hi : i < n) (hp : p i j = true) : ok i j = true := by
  unfold pairsB at h
  rw [List.all_eq_true] at h
  have h1 := h i (List.mem_range.2 hi)
  rw [List.all_eq_true] at h1
  have h2 := h1 j (List.mem_range.2 hj)
  simpa [hp] using h2

def backB (ops : Array Oper) : Bool := (List.range ops.size).all fun i => match ops[i]? with
  | some o => o.after.all fun e => !Region.binds .any e || Nat.blt e.on i
  | none => true

theorem backB_spec {ops : Array Oper} (h : backB ops = true) : backOk ops := by
  intro i o ho e he hb
  unfold backB at h
  rw [List.all_eq_true] at h
  have h1 := h i (List.mem_range.2 (Array.getElem?_eq_some_iff.1 ho).1)
  simp only [ho, Array.all_eq_true_iff_forall_mem] at h1
  have h2 := h1 e he
  simpa [hb] using h2

/-- what is asked of a drawn region ahead of all runs -/
def ordS (ops : Array Oper) : Bool := backB ops && pairsB ops.size (staClash ops) fun i j => ((clos ops).getD i 0).testBit j

/-- what is asked of it in a run -/
def ordD (ops : Array Oper) (fs : List Foot) : Bool := (fs.all fun f => f.1.isEmpty) || pairsB ops.size (dynClash fun i => fs.getD i ([], [])) fun i j => ((clos ops).getD i 0).testBit j

theorem ordered_of {ops : Array Oper} {δs : List Dl} (h1 : ordS ops = true) (h2 : ordD ops (δs.map footOf) = true) : Ordered ops (fun i => footOf (δs.getD i default)) := by
  simp only [ordS, Bool.and_eq_true] at h1
  have hf : (fun i => (δs.map footOf).getD i ([], [])) = fun i => footOf (δs.getD i default) := by
    funext i
    simp only [List.getD_eq_getElem?_getD, List.getElem?_map]
    cases δs[i]? <;> rfl
  refine ⟨backB_spec h1.1, fun i j hj hi hc => ?_⟩
  rcases clash_split hc with hc | hc
  · exact pairsB_spec h1.2 hj hi hc
  · unfold ordD at h2
    rw [hf] at h2
    simp only [Bool.or_eq_true] at h2
    rcases h2 with h2 | h2
    · exfalso
      rw [List.all_eq_true] at h2
      have he : ∀ k, (footOf (δs.getD k default)).1 = [] := fun k => by
        rw [List.getD_eq_getElem?_getD]
        cases hk : δs[k]? with
        | none => rfl
        | some d =>
          have := h2 (footOf d) (List.mem_map_of_mem (List.mem_of_getElem? hk))
          simpa using this
      simp only [dynClash, he, meets, List.any_nil, Bool.or_self, Bool.false_eq_true] at hc
    · exact pairsB_spec h2 hj hi hc

def dstB (ops : Array Oper) (N : Nat) : Bool := ops.all fun o => match o.dst with
  | some k => Nat.blt k N
  | none => true

theorem dstB_spec {ops : Array Oper} {N : Nat} (h : dstB ops N = true) : dstOk ops N := by
  intro i o k ho hk
  unfold dstB at h
  rw [Array.all_eq_true_iff_forall_mem] at h
  have := h o (Array.mem_of_getElem? ho)
  simpa [hk] using this

def codeOk (N : Nat) : Code → Bool
  | .region _ ops draw => dstB ops N && (!draw || ordS ops)
  | .rangeFunc _ ps a b => ps.all (fun p => Nat.blt p N) && (codeOk N a && codeOk N b)
  | .seq a b => codeOk N a && codeOk N b
  | .cond _ a b => codeOk N a && codeOk N b
  | .block _ a => codeOk N a
  | .loop a => codeOk N a
  | .scope a => codeOk N a
  | _ => true

def wantC (ops : Array Oper) (o : Oper) (tm : Tr A) : Option Bool :=
  match o.guard with
  | none => some true
  | some (j, want) => match (ops[j]?).bind (·.dst) with
    | none => some false
    | some d => match tm.get d with
      | some (.bool b) => some (b == want)
      | some (.tup []) => some false
      | _ => none

theorem wantC_eq (ops : Array Oper) (o : Oper) (tm : Tr A) : wantC ops o tm = wantA ops o tm.get := rfl

def setAll (wr : List (Nat × Ob)) (t : Tr Ob) : Tr Ob := wr.foldr (fun p t => Tr.set p.2 1048576 t p.1) t

theorem setAll_get : ∀ (wr : List (Nat × Ob)) (t : Tr Ob), (∀ p ∈ wr, p.1 < 1048576) → (setAll wr t).get = uph t.get wr
  | [], t, _ => by funext k; rfl
  | p :: l, t, h => by
    funext k
    have ih := congrFun (setAll_get l t fun q hq => h q (by simp [hq])) k
    show (Tr.set p.2 1048576 (setAll l t) p.1).get k = _
    rw [Tr.get_set _ _ _ _ (h p (by simp))]
    obtain ⟨i, x⟩ := p
    simp only [uph, look]
    by_cases e : i = k
    · subst e; simp
    · have e' : k ≠ i := Ne.symm e
      simp only [e, e', if_false]
      rw [ih]; rfl

def putC (s : CS) (d : Option Tmp) (δ : Dl) : Option CS :=
  match δ.wr.all fun p => Nat.blt p.1 1048576 with
  | true => match d with
    | none => some ⟨s.tm, setAll δ.wr s.hp, s.nx + δ.nw, s.ys, s.mks⟩
    | some k => match Nat.blt k 65536 with
      | true => some ⟨Tr.set δ.v 65536 s.tm k, setAll δ.wr s.hp, s.nx + δ.nw, s.ys, s.mks⟩
      | false => none
  | false => none

theorem putC_spec {s s' : CS} {d : Option Tmp} {δ : Dl} (h : putC s d δ = some s') : s'.as = ⟨upf s.as.tm d δ.v, uph s.as.hp δ.wr, s.as.nx + δ.nw, s.as.ys, s.as.mks⟩ := by
  unfold putC at h
  split at h
  · rename_i hw
    rw [List.all_eq_true] at hw
    have hw' : ∀ p ∈ δ.wr, p.1 < 1048576 := fun p hp => by simpa using hw p hp
    split at h
    · cases h
      simp only [CS.as, setAll_get _ _ hw']
      congr 1
    · split at h
      · rename_i k hk
        cases h
        simp only [CS.as, setAll_get _ _ hw']
        congr 1
        funext t
        rw [Tr.get_set _ _ _ _ (by simpa using hk)]
        simp [upf]
      · cases h
  · cases h

/-- one operation; 'cf' answers calls -/
def opX (L : Lay) (cf : FuncId → List A → Hp → Nat → Option Dl) (op : Op) (s : CS) : Option Dl :=
  match op with
  | .call { callee := .value x, args, .. } => match evA s.tm.get x with
    | some (.fn (.func f) first caps) => (evAs s.tm.get args.toList).bind fun vs => match vs.all fun v => !v.isTup with
      | true => cf f (first ++ vs ++ caps) s.hp.get s.nx
      | false => none
    | _ => none
  | op => opF L op s.tm s.hp s.nx

def runOps (L : Lay) (cf : FuncId → List A → Hp → Nat → Option Dl) (ops : Array Oper) : List Oper → CS → Option (CS × List Foot)
  | [], s => some (s, [])
  | o :: l, s => match wantC ops o s.tm with
    | some true => (opX L cf o.op s).bind fun δ => (putC s o.dst δ).bind fun s1 => (runOps L cf ops l s1).bind fun r => some (r.1, footOf δ :: r.2)
    | some false => (putC s o.dst ⟨.tup [], [], [], 0⟩).bind fun s1 => (runOps L cf ops l s1).bind fun r => some (r.1, ([], []) :: r.2)
    | none => none

def freezeC (l : List Nat) (s : CS) : CS := match l with
  | [] => s
  | i :: l => freezeC l (match s.hp.get i with
    | some ob => match ob.fz, Nat.blt i 1048576 with
      | false, true => ⟨s.tm, Tr.set { ob with fz := true } 1048576 s.hp i, s.nx, s.ys, s.mks⟩
      | _, _ => s
    | none => s)

/-- what a region has frozen -/
def frozen (s : CS) (r : CS × List Foot) : List Nat := (r.2.flatMap (·.1)).filter fun i => match s.hp.get i, r.1.hp.get i with
  | some a, some b => !a.fz && b.fz
  | _, _ => false

theorem freezeC_imp {P : Program} {L : Lay} : ∀ (l : List Nat) (s : CS), Imp P L s.as (freezeC l s).as
  | [], s => Imp.refl _
  | i :: l, s => by
    simp only [freezeC]
    refine Imp.trans ?_ (freezeC_imp l _)
    split
    · rename_i ob ho
      split
      · rename_i hf hb
        have hb : i < 1048576 := by simpa using hb
        have h := Imp.freeze (P := P) (L := L) (s := s.as) (o := i) (y := ob) ho
        have e : (Tr.set { ob with fz := true } 1048576 s.hp i).get = uph s.hp.get [(i, { ob with fz := true })] := by
          funext k
          rw [Tr.get_set _ _ _ _ hb]
          simp only [uph, look]
          by_cases h : i = k
          · subst h; simp
          · have h' : k ≠ i := Ne.symm h
            simp [h, h']
        have e2 : (CS.mk s.tm (Tr.set { ob with fz := true } 1048576 s.hp i) s.nx s.ys s.mks).as = ⟨s.as.tm, uph s.as.hp [(i, { ob with fz := true })], s.as.nx, s.as.ys, s.as.mks⟩ := by
          simp only [CS.as, e]; rfl
        rw [e2]; exact h
      · exact Imp.refl _
    · exact Imp.refl _

def scopeGo (run : Code → CS → Option (Exit × CS)) (B : Code) : Nat → Code → CS → Option (Exit × CS)
  | 0, _, _ => none
  | m + 1, c, s => match run c s with
    | some (.goto l, s1) => match findLabel B l with
      | some rest => scopeGo run B m rest s1
      | none => some (.goto l, s1)
    | r => r

theorem findLabel_ok {N : Nat} : ∀ {c rest : Code} {l : Nat}, findLabel c l = some rest → codeOk N c = true → codeOk N rest = true
  | .seq a b, rest, l, h, hok => by
    simp only [codeOk, Bool.and_eq_true] at hok
    simp only [findLabel] at h
    split at h
    · rename_i r hr
      cases h
      simp only [codeOk, Bool.and_eq_true]
      exact ⟨findLabel_ok hr hok.1, hok.2⟩
    · exact findLabel_ok h hok.2
  | .label l', rest, l, h, _ => by
    simp only [findLabel] at h
    split at h
    · cases h; rfl
    · cases h
  | .skip, _, _, h, _ => by simp [findLabel] at h
  | .region .., _, _, h, _ => by simp [findLabel] at h
  | .cond .., _, _, h, _ => by simp [findLabel] at h
  | .block .., _, _, h, _ => by simp [findLabel] at h
  | .loop .., _, _, h, _ => by simp [findLabel] at h
  | .rangeFunc .., _, _, h, _ => by simp [findLabel] at h
  | .exit .., _, _, h, _ => by simp [findLabel] at h
  | .scope .., _, _, h, _ => by simp [findLabel] at h
  | .goto .., _, _, h, _ => by simp [findLabel] at h
  | .ret, _, _, h, _ => by simp [findLabel] at h
  | .refuse .., _, _, h, _ => by simp [findLabel] at h

theorem scopeGo_sound {P : Program} {L : Lay} {r : Option Nat} {N : Nat} {run : Code → CS → Option (Exit × CS)} {B : Code} (hB : codeOk N B = true)
    (hrun : ∀ c s e s', codeOk N c = true → run c s = some (e, s') → Runs P L r N c s.as e s'.as) : ∀ (m : Nat) (c : Code) (s s' : CS) (e : Exit), codeOk N c = true → scopeGo run B m c s = some (e, s') → Scoped P L r N B c s.as e s'.as
  | 0, _, _, _, _, _, h => by simp [scopeGo] at h
  | m + 1, c, s, s', e, hok, h => by
    simp only [scopeGo] at h
    split at h
    · rename_i l s1 h1
      split at h
      · rename_i rest hf
        exact .jump (hrun c s _ _ hok h1) hf (scopeGo_sound hB hrun m rest s1 s' e (findLabel_ok hf hB) h)
      · rename_i hf
        simp only [Option.some.injEq, Prod.mk.injEq] at h; obtain ⟨rfl, rfl⟩ := h
        exact .out (hrun c s _ _ hok h1) fun l' e => by cases e; exact hf
    · rename_i hne
      refine .out (hrun c s _ _ hok h) fun l he => ?_
      subst he
      exact absurd h (hne _ _)

section
variable {P : Program} {L : Lay} {N : Nat} {cf : FuncId → List A → Hp → Nat → Option Dl}

theorem opX_sound (hL : LOk P L) (hcf : ∀ f vs hp nx δ, cf f vs hp nx = some δ → CallD P L f vs hp nx δ) {ops : Array Oper} {o : Oper} {s : CS} {δ : Dl} {r : Option Nat} (hw : wantC ops o s.tm = some true) (h : opX L cf o.op s = some δ) :
    ActI P L r ops o s.as.tm s.as.hp s.as.nx δ := by
  unfold opX at h
  split at h
  · rename_i x args ts hop
    split at h
    · rename_i f first caps hx
      rw [Option.bind_eq_some_iff] at h; obtain ⟨vs, hvs, h⟩ := h
      split at h
      · rename_i ht
        rw [List.all_eq_true] at ht
        exact act_call hop hw hx hvs (fun v hv => by simpa using ht v hv) (hcf _ _ _ _ _ h)
      · cases h
    · cases h
  · rw [opF_eq] at h
    obtain ⟨c, h1, h2⟩ := opc_sound h
    exact act_local hL hw h1 h2

theorem runOps_sound (hL : LOk P L) (hcf : ∀ f vs hp nx δ, cf f vs hp nx = some δ → CallD P L f vs hp nx δ) {ops : Array Oper} {r : Option Nat} : ∀ (l : List Oper) (i : Nat) (s s' : CS) (fs : List Foot), ops.toList.drop i = l → i ≤ ops.size → runOps L cf ops l s = some (s', fs) →
    ∃ δs, Seq P L r ops i s.as δs s'.as ∧ δs.map footOf = fs
  | [], i, s, s', fs, hl, hi, h => by
    simp only [runOps, Option.some.injEq, Prod.mk.injEq] at h
    obtain ⟨rfl, rfl⟩ := h
    refine ⟨[], .nil ?_, rfl⟩
    have := List.drop_eq_nil_iff.1 hl
    simp at this; omega
  | o :: l, i, s, s', fs, hl, hi, h => by
    have hlt : i < ops.size := by
      rcases Nat.lt_or_ge i ops.size with h | h
      · exact h
      · rw [List.drop_eq_nil_iff.2 (by simpa using h)] at hl; cases hl
    have ho : ops[i]? = some o := by
      have : (ops.toList.drop i)[0]? = some o := by rw [hl]; rfl
      simpa using this
    have hl' : ops.toList.drop (i + 1) = l := by
      rw [← List.drop_drop, hl]; rfl
    simp only [runOps] at h
    split at h
    · rename_i hw
      simp only [Option.bind_eq_some_iff] at h
      obtain ⟨δ, hδ, s1, hs1, ⟨s2, fs2⟩, h2, h3⟩ := h
      cases h3
      obtain ⟨δs, e1, e2⟩ := runOps_sound hL hcf l (i + 1) s1 _ _ hl' hlt h2
      refine ⟨δ :: δs, .cons ho (opX_sound hL hcf hw hδ) ?_, by simp [e2]⟩
      rw [← putC_spec hs1]; exact e1
    · rename_i hw
      simp only [Option.bind_eq_some_iff] at h
      obtain ⟨s1, hs1, ⟨s2, fs2⟩, h2, h3⟩ := h
      cases h3
      obtain ⟨δs, e1, e2⟩ := runOps_sound hL hcf l (i + 1) s1 _ _ hl' hlt h2
      refine ⟨⟨.tup [], [], [], 0⟩ :: δs, .cons ho (act_skip hw) ?_, by simp [e2, footOf]⟩
      have := putC_spec hs1
      rw [← this]; exact e1
    · cases h

end
end
end Go.Ab
