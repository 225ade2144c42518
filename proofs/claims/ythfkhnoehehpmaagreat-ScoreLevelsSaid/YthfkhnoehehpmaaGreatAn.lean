import Derived.Test.YthfkhnoehehpmaaGreatAl
set_option linter.unusedVariables false
set_option linter.unusedSimpArgs false
/- RUNS OF CODE, AS A PREDICATE TRANSFORMER: for proofs with open values. -/
namespace Go.Ab

mutual
theorem ren_nil {σ : Nat → Nat} : ∀ x : A, x.rl = [] → x.ren σ = x
  | .st fs, h => by simp only [A.ren, renL_nil fs h]
  | .sl _ xs, h => by simp only [A.ren, renL_nil xs h]
  | .own o _ _ _, h => by simp [A.rl] at h
  | .ptr o _ _ _, h => by simp [A.rl] at h
  | .iptr x, h => by simp only [A.ren, ren_nil x h]
  | .fn _ a b, h => by
    simp only [A.rl, List.append_eq_nil_iff] at h
    simp only [A.ren, renL_nil a h.1, renL_nil b h.2]
  | .iface _ v, h => by simp only [A.ren, ren_nil v h]
  | .tup vs, h => by simp only [A.ren, renL_nil vs h]
  | .int .., _ => rfl
  | .bool _, _ => rfl
  | .str _, _ => rfl
  | .nilsl, _ => rfl
  | .nilptr, _ => rfl
  | .nilfn, _ => rfl
  | .nilmp, _ => rfl
  | .nilif, _ => rfl
  | .xo _ o, h => by simp [A.rl] at h
theorem renL_nil {σ : Nat → Nat} : ∀ l : List A, A.rlL l = [] → A.renL σ l = l
  | [], _ => rfl
  | x :: l, h => by
    simp only [A.rlL, List.append_eq_nil_iff] at h
    simp only [A.renL, ren_nil x h.1, renL_nil l h.2]
end

/-- from s the code comes to an end that Φ takes -/
def RW (P : Program) (L : Lay) (r : Option Nat) (N : Nat) (c : Code) (s : AS) (Φ : Exit → AS → Prop) : Prop := ∃ e s', Runs P L r N c s e s' ∧ Φ e s'

def stepS (s : AS) (d : Option Tmp) (δ : Dl) : AS := ⟨upf s.tm d δ.v, uph s.hp δ.wr, s.nx + δ.nw, s.ys, s.mks⟩

/-- one operation -/
def opW (P : Program) (L : Lay) (op : Op) (s : AS) (k : Dl → Prop) : Prop :=
  match op with
  | .call { callee := .value x, args := args, argTypes := _ } => match evA s.tm x with
    | some (.fn (.func f) first caps) => match evAs s.tm args.toList with
      | some vs => (∀ v ∈ vs, v.isTup = false) ∧ ∃ δ, CallD P L f (first ++ vs ++ caps) s.hp s.nx δ ∧ k δ
      | none => False
    | _ => False
  | op => match opv L op (evA s.tm) s.hp s.nx with
    | some (c, δ) => c ∧ k δ
    | none => False

/-- operations in the text's order -/
def wpo (P : Program) (L : Lay) (ops : Array Oper) : List Oper → AS → (AS → Prop) → Prop
  | [], s, Φ => Φ s
  | o :: l, s, Φ => match wantA ops o s.tm with
    | some true => opW P L o.op s fun δ => wpo P L ops l (stepS s o.dst δ) Φ
    | some false => wpo P L ops l (stepS s o.dst ⟨.tup [], [], [], 0⟩) Φ
    | none => False

/-- operations whose order is drawn: what each looks at and writes is kept -/
def wpd (P : Program) (L : Lay) (ops : Array Oper) : List Oper → AS → List Foot → (AS → List Foot → Prop) → Prop
  | [], s, fs, Φ => Φ s fs
  | o :: l, s, fs, Φ => match wantA ops o s.tm with
    | some true => opW P L o.op s fun δ => wpd P L ops l (stepS s o.dst δ) (fs ++ [footOf δ]) Φ
    | some false => wpd P L ops l (stepS s o.dst ⟨.tup [], [], [], 0⟩) (fs ++ [([], [])]) Φ
    | none => False

section
variable {P : Program} {L : Lay} {r : Option Nat} {N : Nat} {ops : Array Oper} {o : Oper}

theorem opW_act (hL : LOk P L) {s : AS} {k : Dl → Prop} (hw : wantA ops o s.tm = some true) (h : opW P L o.op s k) : ∃ δ, ActI P L r ops o s.tm s.hp s.nx δ ∧ k δ := by
  unfold opW at h
  split at h
  · rename_i x args ts ho
    split at h
    · rename_i f first caps hx
      split at h
      · rename_i vs hvs
        obtain ⟨h1, δ, h2, h3⟩ := h
        exact ⟨δ, act_call ho hw hx hvs h1 h2, h3⟩
      · exact h.elim
    · exact h.elim
  · split at h
    · rename_i c δ hδ
      exact ⟨δ, act_local hL hw hδ h.1, h.2⟩
    · exact h.elim

theorem wpo_seq (hL : LOk P L) (hd : dstOk ops N) : ∀ (l : List Oper) (i : Nat) (s : AS) (Φ : AS → Prop), ops.toList.drop i = l → i ≤ ops.size → wpo P L ops l s Φ → ∃ s', SeqT P L r N ops i s s' ∧ Φ s'
  | [], i, s, Φ, hl, hi, h => by
    refine ⟨s, .nil ?_, h⟩
    have := List.drop_eq_nil_iff.1 hl
    simp at this; omega
  | o :: l, i, s, Φ, hl, hi, h => by
    have hlt : i < ops.size := by
      rcases Nat.lt_or_ge i ops.size with h | h
      · exact h
      · rw [List.drop_eq_nil_iff.2 (by simpa using h)] at hl; cases hl
    have ho : ops[i]? = some o := by
      have : (ops.toList.drop i)[0]? = some o := by rw [hl]; rfl
      simpa using this
    have hl' : ops.toList.drop (i + 1) = l := by
      rw [← List.drop_drop, hl]; rfl
    have hdo : ∀ k, o.dst = some k → k < N := fun k hk => hd i o k ho hk
    simp only [wpo] at h
    split at h
    · rename_i hw
      obtain ⟨δ, h1, h2⟩ := opW_act (r := r) (ops := ops) hL hw h
      obtain ⟨s', h3, h4⟩ := wpo_seq hL hd l (i + 1) _ Φ hl' hlt h2
      exact ⟨s', .cons ho (actG_of h1 hdo) h3, h4⟩
    · rename_i hw
      obtain ⟨s', h3, h4⟩ := wpo_seq hL hd l (i + 1) _ Φ hl' hlt h
      exact ⟨s', .cons ho (actG_of (act_skip hw) hdo) h3, h4⟩
    · exact h.elim

theorem wpd_seq (hL : LOk P L) : ∀ (l : List Oper) (i : Nat) (s : AS) (fs : List Foot) (Φ : AS → List Foot → Prop), ops.toList.drop i = l → i ≤ ops.size → wpd P L ops l s fs Φ → ∃ δs s', Seq P L r ops i s δs s' ∧ Φ s' (fs ++ δs.map footOf)
  | [], i, s, fs, Φ, hl, hi, h => by
    refine ⟨[], s, .nil ?_, by simpa [wpd] using h⟩
    have := List.drop_eq_nil_iff.1 hl
    simp at this; omega
  | o :: l, i, s, fs, Φ, hl, hi, h => by
    have hlt : i < ops.size := by
      rcases Nat.lt_or_ge i ops.size with h | h
      · exact h
      · rw [List.drop_eq_nil_iff.2 (by simpa using h)] at hl; cases hl
    have ho : ops[i]? = some o := by
      have : (ops.toList.drop i)[0]? = some o := by rw [hl]; rfl
      simpa using this
    have hl' : ops.toList.drop (i + 1) = l := by
      rw [← List.drop_drop, hl]; rfl
    simp only [wpd] at h
    split at h
    · rename_i hw
      obtain ⟨δ, h1, h2⟩ := opW_act (r := r) (ops := ops) hL hw h
      obtain ⟨δs, s', h3, h4⟩ := wpd_seq hL l (i + 1) _ _ Φ hl' hlt h2
      exact ⟨δ :: δs, s', .cons ho h1 h3, by simpa using h4⟩
    · rename_i hw
      obtain ⟨δs, s', h3, h4⟩ := wpd_seq hL l (i + 1) _ _ Φ hl' hlt h
      exact ⟨_ :: δs, s', .cons ho (act_skip hw) h3, by simpa [footOf] using h4⟩
    · exact h.elim

theorem RW.region (hL : LOk P L) {id : Nat} {s : AS} {Φ : Exit → AS → Prop} (hd : dstB ops N = true) (h : wpo P L ops ops.toList s (Φ .normal)) : RW P L r N (.region id ops false) s Φ := by
  obtain ⟨s', h1, h2⟩ := wpo_seq (r := r) hL (dstB_spec hd) _ 0 s _ rfl (Nat.zero_le _) h
  exact ⟨_, s', Runs.regionT h1, h2⟩

theorem RW.drawn (hL : LOk P L) (hm : P.follows .mixedOrders = true) {id : Nat} {s : AS} {Φ : Exit → AS → Prop} (hd : dstB ops N = true) (hs : ordS ops = true) (h : wpd P L ops ops.toList s [] (fun s' fs => ordD ops fs = true ∧ Φ .normal s')) : RW P L r N (.region id ops true) s Φ := by
  obtain ⟨δs, s', h1, h2, h3⟩ := wpd_seq (r := r) hL _ 0 s _ _ rfl (Nat.zero_le _) h
  exact ⟨_, s', Runs.region_any hm h1 (dstB_spec hd) (ordered_of hs (by simpa using h2)), h3⟩

theorem RW.mono {c : Code} {s : AS} {Φ Ψ : Exit → AS → Prop} (h : RW P L r N c s Φ) (hi : ∀ e s', Φ e s' → Ψ e s') : RW P L r N c s Ψ := let ⟨e, s', h1, h2⟩ := h; ⟨e, s', h1, hi e s' h2⟩

theorem RW.seq {a b : Code} {s : AS} {Φ : Exit → AS → Prop} (h : RW P L r N a s (fun e s1 => e = .normal ∧ RW P L r N b s1 Φ)) : RW P L r N (.seq a b) s Φ := by
  obtain ⟨e, s1, h1, rfl, e2, s2, h2, h3⟩ := h
  exact ⟨e2, s2, Runs.seq h1 h2, h3⟩

theorem RW.seq_any {a b : Code} {s : AS} {Φ : Exit → AS → Prop} (h : RW P L r N a s (fun e s1 => (e = .normal ∧ RW P L r N b s1 Φ) ∨ (e ≠ .normal ∧ Φ e s1))) : RW P L r N (.seq a b) s Φ := by
  obtain ⟨e, s1, h1, h2⟩ := h
  rcases h2 with ⟨rfl, e2, s2, h2, h3⟩ | ⟨h2, h3⟩
  · exact ⟨e2, s2, Runs.seq h1 h2, h3⟩
  · exact ⟨e, s1, Runs.seq_out h1 h2, h3⟩

theorem RW.skip {s : AS} {Φ : Exit → AS → Prop} (h : Φ .normal s) : RW P L r N .skip s Φ := ⟨_, _, Runs.skip, h⟩
theorem RW.ret {s : AS} {Φ : Exit → AS → Prop} (h : Φ .ret s) : RW P L r N .ret s Φ := ⟨_, _, Runs.ret, h⟩
theorem RW.exit {s : AS} {id : Nat} {Φ : Exit → AS → Prop} (h : Φ (.exit id) s) : RW P L r N (.exit id) s Φ := ⟨_, _, Runs.exit, h⟩
theorem RW.goto {s : AS} {id : Nat} {Φ : Exit → AS → Prop} (h : Φ (.goto id) s) : RW P L r N (.goto id) s Φ := ⟨_, _, Runs.goto, h⟩
theorem RW.label {s : AS} {id : Nat} {Φ : Exit → AS → Prop} (h : Φ .normal s) : RW P L r N (.label id) s Φ := ⟨_, _, Runs.label, h⟩

theorem RW.cond {c : Operand} {x y : Code} {s : AS} {Φ : Exit → AS → Prop} {b : Bool} (hc : evA s.tm c = some (.bool b)) (h1 : b = true → RW P L r N x s Φ) (h2 : b = false → RW P L r N y s Φ) : RW P L r N (.cond c x y) s Φ := by
  cases b with
  | true => obtain ⟨e, s', h3, h4⟩ := h1 rfl; exact ⟨e, s', Runs.cond_true hc h3, h4⟩
  | false => obtain ⟨e, s', h3, h4⟩ := h2 rfl; exact ⟨e, s', Runs.cond_false hc h3, h4⟩

theorem RW.block {id : Nat} {c : Code} {s : AS} {Φ : Exit → AS → Prop} (h : RW P L r N c s (fun e s' => (e = .exit id ∧ Φ .normal s') ∨ (e ≠ .exit id ∧ Φ e s'))) : RW P L r N (.block id c) s Φ := by
  obtain ⟨e, s', h1, h2⟩ := h
  rcases h2 with ⟨rfl, h2⟩ | ⟨h2, h3⟩
  · exact ⟨_, s', Runs.block_exit h1, h2⟩
  · exact ⟨e, s', Runs.block h1 h2, h3⟩

theorem RW.loop {c : Code} {Φ : Exit → AS → Prop} (I : AS → Prop) (m : AS → Nat) (h : ∀ s, I s → RW P L r N c s (fun e s' => (e = .normal ∧ I s' ∧ m s' < m s) ∨ (e ≠ .normal ∧ Φ e s'))) {s : AS} (h0 : I s) : RW P L r N (.loop c) s Φ := by
  have key : ∀ n s, m s ≤ n → I s → ∃ e s', Loops P L r N c s e s' ∧ Φ e s' := by
    intro n
    induction n with
    | zero =>
      intro s hn hs
      obtain ⟨e, s', h1, h2⟩ := h s hs
      rcases h2 with ⟨-, -, h2⟩ | ⟨h2, h3⟩
      · omega
      · exact ⟨e, s', .stop h1 h2, h3⟩
    | succ n ih =>
      intro s hn hs
      obtain ⟨e, s', h1, h2⟩ := h s hs
      rcases h2 with ⟨rfl, h3, h4⟩ | ⟨h2, h3⟩
      · obtain ⟨e2, s2, h5, h6⟩ := ih s' (by omega) h3
        exact ⟨e2, s2, .next h1 h5, h6⟩
      · exact ⟨e, s', .stop h1 h2, h3⟩
  obtain ⟨e, s', h1, h2⟩ := key _ s (Nat.le_refl _) h0
  exact ⟨e, s', Runs.loop h1, h2⟩

/-- a loop with a count -/
theorem RW.count {c : Code} {Φ : Exit → AS → Prop} (I : Nat → AS → Prop) (n : Nat) (h : ∀ i s, i < n → I i s → RW P L r N c s (fun e s' => e = .normal ∧ I (i + 1) s')) (hend : ∀ s, I n s → RW P L r N c s (fun e s' => e ≠ .normal ∧ Φ e s')) {s : AS} (h0 : I 0 s) : RW P L r N (.loop c) s Φ := by
  have key : ∀ k i s, i + k = n → I i s → ∃ e s', Loops P L r N c s e s' ∧ Φ e s' := by
    intro k
    induction k with
    | zero =>
      intro i s hk hs
      have : i = n := by omega
      subst this
      obtain ⟨e, s', h1, h2, h3⟩ := hend s hs
      exact ⟨e, s', .stop h1 h2, h3⟩
    | succ k ih =>
      intro i s hk hs
      obtain ⟨e, s', h1, rfl, h3⟩ := h i s (by omega) hs
      obtain ⟨e2, s2, h5, h6⟩ := ih (i + 1) s' (by omega) h3
      exact ⟨e2, s2, .next h1 h5, h6⟩
  obtain ⟨e, s', h1, h2⟩ := key n 0 s (by omega) h0
  exact ⟨e, s', Runs.loop h1, h2⟩

/-- a contract of a function without objects -/
theorem callD_pure (hL : LOk P L) {f : FuncId} {fn : Func} {c : Code} (hf : P.funcs[f]? = some fn) (hname : (fn.name == "runtime.NumGoroutine") = false) (hb : fn.body = some c) {vs : List A} (hlen : vs.length ≤ fn.ntmps) (hv : A.rlL vs = []) {rs : List A}
    (h : RW P L none fn.ntmps c ⟨fun t => vs[t]?, fun _ => none, 0, fun _ => none, []⟩ (fun e s' => (e = .ret ∨ e = .normal) ∧ ∃ c, resAll L s' fn.results.toList = some (c, rs) ∧ c)) (hr : A.rlL rs = []) (ht : ∀ v ∈ rs, v.isTup = false) {hp : Hp} {nx : Nat} :
    CallD P L f vs hp nx ⟨packA rs, [], [], 0⟩ := by
  obtain ⟨e, s', h1, h2, cr, h3, h4⟩ := h
  have hd : Nat → Ob := fun _ => default
  have key := callD_body (L := L) hL (vs0 := vs) (k := 0) (h0 := hd) (h1 := hd) (out := []) (s' := s') (e := e) (rs := rs) hf hname hb hlen (fun i hi => by cases hi) (refs_rlL _ _ (by rw [hv]; simp)) (fun i hi => by omega)
    (by simpa using h1) h2 h3 h4 ht (fun i hi => by simp at hi) (refs_rlL _ _ (by rw [hr]; simp)) (fun i hi => by omega) (ids := fun i => i) (fun i j hi => by omega) (hp := hp) (nx := nx) (fun i hi => by omega)
  have hvs : vs.map (A.ren (nameOf (fun i => i) 0 nx [])) = vs := by rw [← renL_eq]; exact renL_nil vs hv
  have hpk : (packA rs).ren (nameOf (fun i => i) 0 nx []) = packA rs := by
    refine ren_nil _ ?_
    unfold packA
    split
    · simpa [A.rlL] using hr
    · exact hr
  rw [hvs, hpk] at key
  simpa using key

end
end Go.Ab
