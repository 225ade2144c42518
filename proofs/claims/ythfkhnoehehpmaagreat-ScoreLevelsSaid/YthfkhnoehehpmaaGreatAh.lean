import Derived.Test.YthfkhnoehehpmaaGreatAg
import Derived.OrdersIn
import Derived.RangeFuncRecord
set_option linter.unusedVariables false
set_option linter.unusedSimpArgs false
/- ONE OPERATION OF A REGION, AS AN ABSTRACT STEP. -/
namespace Go.Ab

/-- the widest fence, for activations (none) or for rounds of a loop over a function -/
def Fw (r : Option Nat) : Fence := { Fence.wide with round := r }

theorem Fw_room (r : Option Nat) (n : Nat) : (Fw r).room n := fun _ h => by simp [Fw, Fence.wide] at h

/-- a loop over a function: its rounds' parameters, temporaries, code; and where it stands -/
structure YR where
  ps : Array Tmp
  N : Nat
  tm : Nat → Option A
  assign : Code
  body : Code
  st : LoopState
  pend : Option Code

/-- special objects -/
inductive XO where
  | loop (y : YR)
  | dfr
  | map (ks : List Int)
  | iter (m since : Nat) (seen : List Nat) (stepped : Nat)

/-- a set of numbers, as a map's entries -/
def mkEs (ks : List Int) : Array MapEntry := (ks.mapIdx fun i k => ⟨.int .i64 k, .agg #[], i⟩).toArray

structure AS where
  tm : Nat → Option A
  hp : Hp
  nx : Nat
  ys : Nat → Option XO := fun _ => none
  mks : List Nat := []

/-- what stays the same while a body runs -/
structure Gh where
  mine : Nat → Prop
  w : World
  ob : Nat → Option OI
  S : Nat → Prop
  D : List Deferred
  N : Nat
  ys : Nat → Option XO := fun _ => none
  mks : List Nat := []

def Gh.wy (g : Gh) (s : AS) : Gh := { g with ys := s.ys, mks := s.mks }

/-- what a special object's block holds -/
def XOk (P : Program) (w : World) (ob : Nat → Option OI) (S : Nat → Prop) : XO → Nat → Prop
  | .loop y, b => ∃ fn tmps D, w.heap[b]? = some (.loop { state := y.st, pending := y.pend, fn, tmps, params := y.ps, assign := y.assign, body := y.body, defers := D }) ∧ tmps.size = y.N ∧ ∀ t x, y.tm t = some x → RV P w ob S x (tmps.getD t undef)
  | .dfr, b => w.heap[b]? = some (.deferred (some []))
  | .map ks, b => w.heap[b]? = some (.map (mkEs ks) ks.length)
  | .iter m since seen stepped, b => ∃ oi bm, ob m = some oi ∧ (oi.ver = 0 → oi.blk = some bm) ∧ w.heap[b]? = some (.mapIter (some bm) since seen.toArray stepped)

theorem XOk.mono {P : Program} {w ob S w' ob' S'} (e : Ext w ob S w' ob' S') {x : XO} {b : Nat} (hk : w'.heap[b]? = w.heap[b]?) (h : XOk P w ob S x b) : XOk P w' ob' S' x b := by
  cases x with
  | loop y =>
    obtain ⟨fn, tmps, D, h1, h2, h3⟩ := h
    exact ⟨fn, tmps, D, hk.trans h1, h2, fun t x ht => RV.mono e (h3 t x ht)⟩
  | dfr => exact hk.trans h
  | map ks => exact hk.trans h
  | iter m since seen stepped =>
    obtain ⟨oi, bm, h1, h2, h3⟩ := h
    obtain ⟨oi', k1, k2, k3⟩ := e.tab m oi h1
    refine ⟨oi', bm, k1, fun e0 => ?_, hk.trans h3⟩
    have e' : oi' = oi := k3 (by omega)
    subst e'
    exact h2 e0

/-- the marks on the deferred calls -/
def Marks (ob : Nat → Option OI) (ys : Nat → Option XO) (D : List Deferred) : List Nat → List Deferred → Prop
  | [], ds => ds = D
  | o :: l, ds => ∃ b oi ds', ds = ⟨.collected b, #[]⟩ :: ds' ∧ ys o = some .dfr ∧ ob o = some oi ∧ oi.ver = 0 ∧ oi.blk = some b ∧ Marks ob ys D l ds'

theorem Marks.congr {ob ob' : Nat → Option OI} {ys ys' : Nat → Option XO} {D : List Deferred} : ∀ {l : List Nat} {ds : List Deferred}, (∀ o ∈ l, ys o = some .dfr → ys' o = some .dfr ∧ ob' o = ob o) → Marks ob ys D l ds → Marks ob' ys' D l ds
  | [], _, _, h => h
  | o :: l, ds, hh, h => by
    obtain ⟨b, oi, ds', h1, h2, h3, h4, h5, h6⟩ := h
    obtain ⟨k1, k2⟩ := hh o (by simp) h2
    exact ⟨b, oi, ds', h1, k1, k2.trans h3, h4, h5, Marks.congr (fun o ho => hh o (by simp [ho])) h6⟩

structure Inv (P : Program) (L : Lay) (g : Gh) (tm : Nat → Option A) (hp : Hp) (fr : Nat → Prop) (a : Act) (w : World) (ob : Nat → Option OI) (S : Nat → Prop) : Prop where
  rs : RS P L g.mine tm hp fr a.tmps w ob S
  ext : Ext g.w g.ob g.S w ob S
  keep : Same g.w w ∧ ∀ b, ¬ g.mine b → w.heap[b]? = g.w.heap[b]?
  defs : g.mks.Nodup ∧ Marks ob g.ys g.D g.mks a.defers
  xs : ∀ o x, g.ys o = some x → hp o = none ∧ ∃ oi b, ob o = some oi ∧ oi.ver = 0 ∧ oi.blk = some b ∧ ¬ S b ∧ g.mine b ∧ XOk P w ob S x b
  size : a.tmps.size = g.N
  news : ∀ b, S b → g.S b ∨ g.mine b
  own : ∀ o oi b, ob o = some oi → oi.blk = some b → g.w.heap.size ≤ b ∨ ∃ oi0, g.ob o = some oi0 ∧ oi0.blk = some b

def At (P : Program) (L : Lay) (g : Gh) (tm : Nat → Option A) (hp : Hp) (fr : Nat → Prop) (a : Act) (w : World) : Prop := ∃ ob S, Inv P L g tm hp fr a w ob S

section
variable {P : Program} {L : Lay} {g : Gh} {tm : Nat → Option A} {hp : Hp} {fr fr' : Nat → Prop} {a : Act} {w w' : World} {ob ob' : Nat → Option OI} {S S' : Nat → Prop} {δ : Dl} {nx : Nat}

def Names (hp : Hp) (nx : Nat) (δ : Dl) : Prop := ∀ o x, look δ.wr o = some x → (∃ y, hp o = some y ∧ (x.fz = false → y.fz = false)) ∨ (nx ≤ o ∧ o < nx + δ.nw)

theorem put_size (a : Act) (d : Option Tmp) (v : Value) : (a.put d v).tmps.size = a.tmps.size := by
  cases d <;> simp [Act.put]

theorem put_defers (a : Act) (d : Option Tmp) (v : Value) : (a.put d v).defers = a.defers := by
  cases d <;> rfl

theorem Inv.notWr (i : Inv P L g tm hp fr a w ob S) (hm : Names hp nx δ) (hfr : ∀ o, nx ≤ o → o < nx + δ.nw → fr o) {o : Nat} {x : XO} (h : g.ys o = some x) : look δ.wr o = none := by
  cases hw : look δ.wr o with
  | none => rfl
  | some z =>
    obtain ⟨h1, oi, b, h2, -⟩ := i.xs o x h
    rcases hm o z hw with ⟨y, hy, -⟩ | hn
    · rw [h1] at hy; cases hy
    · rw [i.rs.fr o (hfr o hn.1 hn.2)] at h2; cases h2

theorem Inv.xsAfter (i : Inv P L g tm hp fr a w ob S) (d : Does P L w ob S δ.wr w' ob' S') (hm : Names hp nx δ) (hfr : ∀ o, nx ≤ o → o < nx + δ.nw → fr o) :
    ∀ o x, g.ys o = some x → uph hp δ.wr o = none ∧ ∃ oi b, ob' o = some oi ∧ oi.ver = 0 ∧ oi.blk = some b ∧ ¬ S' b ∧ g.mine b ∧ XOk P w' ob' S' x b := by
  intro o x h
  have hw := i.notWr hm hfr h
  obtain ⟨h1, oi, b, h2, h3, h4, h5, h6, h7⟩ := i.xs o x h
  have hlt := i.rs.blk o oi b h2 h4
  have hne : ∀ o' z oi', look δ.wr o' = some z → ob o' = some oi' → oi'.blk ≠ some b := fun o' z oi' q1 q2 q3 => by
    have := i.rs.inj o' o oi' oi b q2 h2 q3 h4
    subst this; rw [hw] at q1; cases q1
  refine ⟨by simp only [uph, hw]; exact h1, oi, b, (d.tab o hw).trans h2, h3, h4, fun hS => ?_, h6, h7.mono d.ext (d.keep b hlt hne)⟩
  rcases d.new b hS with q | ⟨q, _⟩ | ⟨o', z, oi', q1, q3, q4⟩
  · exact h5 q
  · omega
  · exact hne o' z oi' q1 q3 q4

theorem Inv.after (i : Inv P L g tm hp fr a w ob S) (d : Does P L w ob S δ.wr w' ob' S') {v : Value} (hv : RV P w' ob' S' δ.v v) (hm : Names hp nx δ)
    (hfr : ∀ o, nx ≤ o → o < nx + δ.nw → fr o) (hfr' : ∀ o, fr' o → fr o ∧ ¬ (nx ≤ o ∧ o < nx + δ.nw)) (dst : Option Tmp) (hd : ∀ k, dst = some k → k < g.N) :
    Inv P L g (upf tm dst δ.v) (uph hp δ.wr) fr' (a.put dst v) w' ob' S' := by
  refine ⟨i.rs.after d hv hm hfr hfr' dst fun k hk => by rw [i.size]; exact hd k hk, i.ext.trans d.ext, ⟨i.keep.1.trans d.same, fun b hb => ?_⟩, ⟨i.defs.1, by rw [put_defers]; exact i.defs.2.congr fun o _ h => ⟨h, d.tab o (i.notWr hm hfr h)⟩⟩, i.xsAfter d hm hfr, by rw [put_size]; exact i.size, fun b hb => ?_, fun o oi b ho hb => ?_⟩
  rotate_left
  · rcases d.new b hb with h | ⟨h, _⟩ | ⟨o, x, oi, h1, h3, h4⟩
    · exact i.news b h
    · exact .inr (i.rs.mine b h)
    · rcases hm o x h1 with ⟨y, hy, -⟩ | hn
      · obtain ⟨oi2, q1, q2, q3, q4⟩ := i.rs.hp o y hy
        rw [h3] at q1; cases q1
        cases hf : y.fz with
        | false => exact .inr (q3 hf b h4).2
        | true => exact i.news b (q4 hf b h4)
      · rw [i.rs.fr o (hfr o hn.1 hn.2)] at h3; cases h3
  · cases hw : look δ.wr o with
    | some x =>
      obtain ⟨oi', h1, h2, h3, h4⟩ := d.objs o x hw
      rw [h1] at ho; cases ho
      rcases (h4 b hb).2.1 with h | ⟨oi2, h5, h6⟩
      · exact .inl (Nat.le_trans i.ext.size h)
      · exact i.own o oi2 b h5 h6
    | none =>
      rw [d.tab o hw] at ho
      exact i.own o oi b ho hb
  rw [← i.keep.2 b hb]
  have hlt : b < w.heap.size := by
    rcases Nat.lt_or_ge b w.heap.size with h | h
    · exact h
    · exact absurd (i.rs.mine b h) hb
  by_cases hS : S b
  · exact d.keepS b hS
  refine d.keep b hlt fun o x oi hw ho hob => ?_
  rcases hm o x hw with ⟨y, hy, -⟩ | hn
  · obtain ⟨oi2, q1, q2, q3, q4⟩ := i.rs.hp o y hy
    rw [ho] at q1; cases q1
    cases hf : y.fz with
    | false => exact hb (q3 hf b hob).2
    | true => exact hS (q4 hf b hob)
  · rw [i.rs.fr o (hfr o hn.1 hn.2)] at ho; cases ho

theorem Ext.heap (h : w'.heap = w.heap) : Ext w ob S w' ob S := ⟨by rw [h]; exact Nat.le_refl _, fun b hb => ⟨hb, by rw [h]⟩, fun o oi ho => ⟨oi, ho, Nat.le_refl _, fun _ => rfl⟩⟩

theorem RS.heap {mine : Nat → Prop} {tmps : Array Value} (r : RS P L mine tm hp fr tmps w ob S) (h : w'.heap = w.heap) : RS P L mine tm hp fr tmps w' ob S :=
  ⟨fun t x ht => RV.mono (Ext.heap h) (r.tm t x ht), fun o x ho => by
    obtain ⟨oi, h1, h2, h3, h4⟩ := r.hp o x ho
    exact ⟨oi, h1, RObj.mono (Ext.heap h) (fun b _ => by rw [h]) h2, h3, h4⟩, r.inj, fun o oi b h1 h2 => by rw [h]; exact r.blk o oi b h1 h2, fun b hb => by rw [h]; exact r.st b hb, r.fr, fun b hb => r.mine b (by rw [← h]; exact hb)⟩

theorem Inv.heap (i : Inv P L g tm hp fr a w ob S) (h : w'.heap = w.heap) (hsm : Same w w' := by first | exact Same.refl _ | exact (Same.refl _).drew) : Inv P L g tm hp fr a w' ob S :=
  ⟨i.rs.heap h, i.ext.trans (Ext.heap h), ⟨i.keep.1.trans hsm, fun b hb => by rw [h]; exact i.keep.2 b hb⟩, i.defs, fun o x ho => by
    obtain ⟨h1, oi, b, h2, h3, h4, h5, h6, h7⟩ := i.xs o x ho
    exact ⟨h1, oi, b, h2, h3, h4, h5, h6, h7.mono (Ext.heap h) (by rw [h])⟩, i.size, i.news, i.own⟩

end

/-- is an operation wanted? by what its guard yielded -/
def wantA (ops : Array Oper) (o : Oper) (tm : Nat → Option A) : Option Bool :=
  match o.guard with
  | none => some true
  | some (j, want) => match (ops[j]?).bind (·.dst) with
    | none => some false
    | some d => match tm d with
      | some (.bool b) => some (b == want)
      | some (.tup []) => some false
      | _ => none

section
variable {P : Program} {L : Lay} {g : Gh} {tm : Nat → Option A} {hp : Hp} {fr fr' : Nat → Prop} {a : Act} {w w' : World} {ob ob' : Nat → Option OI} {S S' : Nat → Prop} {δ : Dl} {nx : Nat}
variable {mine : Nat → Prop} {ops : Array Oper} {o : Oper}

theorem wantA_spec (r : RS P L mine tm hp fr a.tmps w ob S) {b : Bool} (h : wantA ops o tm = some b) : Region.wanted o (yielded ops a.tmps) = b := by
  unfold wantA at h
  unfold Region.wanted
  split at h
  · rename_i hg; rw [hg]; cases h; rfl
  · rename_i j want hg
    rw [hg]
    simp only [yielded]
    split at h
    · rename_i hd
      rw [hd]; cases h; rfl
    · rename_i d hd
      rw [hd]; simp only [Option.bind_some]
      split at h
      · rename_i b' hb
        cases h
        have h1 := r.tm d _ hb
        have h2 : a.tmps.getD d undef = .bool b' := by
          have := (RV1.leaf (x := .bool b') h1 rfl).2.1
          simpa [RC] using this
        have h3 : a.tmps[d]? = some (.bool b') := by
          rw [Array.getD_eq_getD_getElem?] at h2
          cases h4 : a.tmps[d]? with
          | none => rw [h4] at h2; simp [undef] at h2
          | some v => rw [h4] at h2; simp at h2; rw [h2]
        rw [h3]
        cases b' <;> cases want <;> rfl
      · rename_i hb
        cases h
        obtain ⟨arr, h1, h2⟩ := r.tm d _ hb
        have h3 : ∀ b, a.tmps[d]? ≠ some (.bool b) := fun b hb => by
          rw [Array.getD_eq_getD_getElem?, hb] at h1; cases h1
        cases h4 : a.tmps[d]? with
        | none => rfl
        | some v =>
          cases v <;> first | rfl | exact absurd h4 (h3 _)
      · cases h

/-- ONE OPERATION: whatever else is known, of these operands and of these objects it makes that. -/
def ActI (P : Program) (L : Lay) (r : Option Nat) (ops : Array Oper) (o : Oper) (tm : Nat → Option A) (hp : Hp) (nx : Nat) (δ : Dl) : Prop :=
  ∀ tm' hp', (∀ t ∈ o.looksAt ops, tm' t = tm t) → (∀ k ∈ δ.rd, hp' k = hp k) →
    ∀ mine fr a w ob S, RS P L mine tm' hp' fr a.tmps w ob S → (∀ k, nx ≤ k → k < nx + δ.nw → fr k) →
      ∀ (n : Nat) (Q : Exit → Act → World → Prop) (i : Nat) (K : Act → World → Prop), ops[i]? = some o →
        (∀ v w' ob' S', Does P L w ob S δ.wr w' ob' S' → RV P w' ob' S' δ.v v → Names hp' nx δ → K (a.put o.dst v) w') → wpOpIn (Fw r) n P ops Q i K a w

theorem wantA_congr {tm' : Nat → Option A} (h : ∀ t ∈ o.looksAt ops, tm' t = tm t) : wantA ops o tm' = wantA ops o tm := by
  unfold wantA
  cases hg : o.guard with
  | none => rfl
  | some p =>
    obtain ⟨j, want⟩ := p
    simp only
    cases hd : (ops[j]?).bind (·.dst) with
    | none => rfl
    | some d =>
      simp only
      rw [h d (by simp only [Oper.looksAt, hg, hd]; simp)]

theorem evA_looks {tm' : Nat → Option A} (h : ∀ t ∈ o.looksAt ops, tm' t = tm t) : ∀ x ∈ o.op.operands, evA tm' x = evA tm x := by
  intro x hx
  cases x with
  | tmp t => exact h t (List.mem_append_left _ (List.mem_filterMap.2 ⟨.tmp t, by simpa using hx, rfl⟩))
  | _ => rfl

theorem opv_noDefer {ev : Operand → Option A} {h : Hp} {id : Nat} {op : Op} {x : Prop × Dl} (he : opv L op ev h id = some x) : ∀ c, op ≠ .defer c := by
  rintro c rfl
  simp [opv] at he

theorem act_local (hL : LOk P L) {r : Option Nat} {c : Prop} (hw : wantA ops o tm = some true) (h : opv L o.op (evA tm) hp nx = some (c, δ)) (hc : c) : ActI P L r ops o tm hp nx δ := by
  intro tm' hp' ht hh mine fr a w ob S rs hfr n Q i K hi hK
  have hw' := wantA_spec (ops := ops) (o := o) rs ((wantA_congr ht).trans hw)
  have h1 : opv L o.op (evA tm') hp' nx = some (c, δ) := opv_hp (by rw [opv_tm (evA_looks ht)]; exact h) hh
  obtain ⟨v, w', ob', S', g1, g2, g3, g4⟩ := op_good hL rs (fun h0 => hfr nx (Nat.le_refl _) (by omega)) h1 hc
  have hres := hK v w' ob' S' g2 g3 g4
  unfold wpOpIn
  simp only [hi, hw', if_true, Oper.wpIn]
  refine ⟨fun _ _ => trivial, ?_⟩
  rw [Oper.semAt_eq _ _ _ (opv_noDefer h)]
  rcases g1 with g1 | ⟨g1, rfl⟩
  · rw [show (execOp a.eval o).run P w = _ from g1]; exact hres
  · rw [show (execOp a.eval o).run P w = _ from g1]; exact hres

theorem act_skip {r : Option Nat} (hw : wantA ops o tm = some false) : ActI P L r ops o tm hp nx ⟨.tup [], [], [], 0⟩ := by
  intro tm' hp' ht hh mine fr a w ob S rs hfr n Q i K hi hK
  have hw' := wantA_spec (ops := ops) (o := o) rs ((wantA_congr ht).trans hw)
  unfold wpOpIn
  simp only [hi, hw', Bool.false_eq_true, if_false]
  exact ⟨fun _ _ => trivial, hK undef w ob S (Does.refl rs) ⟨#[], rfl, rfl⟩ (fun _ _ h => by simp [look] at h)⟩

end
end Go.Ab

/- A REGION: IN THE TEXT's ORDER, AND IN ANY ORDER ITS EDGES LEAVE. -/
namespace Go.Ab

section
variable {P : Program} {L : Lay} {g : Gh} {r : Option Nat} {ops : Array Oper}

inductive Seq (P : Program) (L : Lay) (r : Option Nat) (ops : Array Oper) : Nat → AS → List Dl → AS → Prop
  | nil {i : Nat} {s : AS} : i = ops.size → Seq P L r ops i s [] s
  | cons {i : Nat} {o : Oper} {s s' : AS} {δ : Dl} {δs : List Dl} : ops[i]? = some o → ActI P L r ops o s.tm s.hp s.nx δ →
      Seq P L r ops (i + 1) ⟨upf s.tm o.dst δ.v, uph s.hp δ.wr, s.nx + δ.nw, s.ys, s.mks⟩ δs s' → Seq P L r ops i s (δ :: δs) s'

def dstOk (ops : Array Oper) (N : Nat) : Prop := ∀ (i : Nat) (o : Oper) (k : Tmp), ops[i]? = some o → o.dst = some k → k < N

def AtS (P : Program) (L : Lay) (g : Gh) (s : AS) (a : Act) (w : World) : Prop := At P L (g.wy s) s.tm s.hp (s.nx ≤ ·) a w

/-- one operation in the text's order, special ones too -/
def ActG (P : Program) (L : Lay) (r : Option Nat) (N : Nat) (ops : Array Oper) (o : Oper) (s s' : AS) : Prop :=
  ∀ (g : Gh), g.N = N → ∀ (a : Act) (w : World), AtS P L g s a w → ∀ (n : Nat) (Q : Exit → Act → World → Prop) (i : Nat) (K : Act → World → Prop), ops[i]? = some o →
    (∀ a' w', AtS P L g s' a' w' → K a' w') → wpOpIn (Fw r) n P ops Q i K a w

inductive SeqT (P : Program) (L : Lay) (r : Option Nat) (N : Nat) (ops : Array Oper) : Nat → AS → AS → Prop
  | nil {i : Nat} {s : AS} : i = ops.size → SeqT P L r N ops i s s
  | cons {i : Nat} {o : Oper} {s s1 s' : AS} : ops[i]? = some o → ActG P L r N ops o s s1 → SeqT P L r N ops (i + 1) s1 s' → SeqT P L r N ops i s s'

theorem actG_of {N : Nat} {o : Oper} {s : AS} {δ : Dl} (h : ActI P L r ops o s.tm s.hp s.nx δ) (hd : ∀ k, o.dst = some k → k < N) :
    ActG P L r N ops o s ⟨upf s.tm o.dst δ.v, uph s.hp δ.wr, s.nx + δ.nw, s.ys, s.mks⟩ := by
  intro g hg a w ha n Q i K hi hK
  obtain ⟨ob, S, hiv⟩ := ha
  refine h s.tm s.hp (fun _ _ => rfl) (fun _ _ => rfl) g.mine _ a w ob S hiv.rs (fun k hk _ => hk) n Q i _ hi fun v w' ob' S' h1 h2 h3 => ?_
  exact hK _ _ ⟨ob', S', hiv.after h1 h2 h3 (fun k hk _ => hk) (fun k hk => by simp only at hk; exact ⟨by omega, by omega⟩) o.dst (fun k hk => by rw [show (g.wy s).N = g.N from rfl, hg]; exact hd k hk)⟩

theorem seq_seqT {N : Nat} (hd : dstOk ops N) : ∀ {i : Nat} {s s' : AS} {δs : List Dl}, Seq P L r ops i s δs s' → SeqT P L r N ops i s s' := by
  intro i s s' δs h
  induction h with
  | nil hi => exact .nil hi
  | cons ho hact _ ih => exact .cons ho (actG_of hact fun k hk => hd _ _ k ho hk) ih

theorem seqT_text {n : Nat} {Q : Exit → Act → World → Prop} {N : Nat} (hN : g.N = N) : ∀ {i : Nat} {s s' : AS}, SeqT P L r N ops i s s' → ∀ a w, AtS P L g s a w →
    (∀ a' w', AtS P L g s' a' w' → Q .normal a' w') → wpOpsIn (Fw r) n P ops Q (List.range' i (ops.size - i)) a w := by
  intro i s s' h
  induction h with
  | nil hi =>
    intro a w ha hQ
    subst hi
    simp only [Nat.sub_self, List.range'_zero, wpOpsIn]
    exact hQ a w ha
  | @cons i o s s1 s' ho hact _ ih =>
    intro a w ha hQ
    have hlt := (Array.getElem?_eq_some_iff.1 ho).1
    rw [show ops.size - i = (ops.size - (i + 1)) + 1 by omega, List.range'_succ, wpOpsIn_cons]
    exact hact g hN a w ha n Q i _ ho fun a' w' h' => ih _ _ h' hQ

/-! ### any order -/

def dstAt (ops : Array Oper) (i : Nat) : Option Tmp := (ops[i]?).bind (·.dst)

def cumT (ops : Array Oper) (δ : Nat → Dl) (p : Nat → Bool) (tm : Nat → Option A) : Nat → Nat → Option A
  | 0 => tm
  | i + 1 => if p i = true then upf (cumT ops δ p tm i) (dstAt ops i) (δ i).v else cumT ops δ p tm i

def cumH (δ : Nat → Dl) (p : Nat → Bool) (hp : Hp) : Nat → Hp
  | 0 => hp
  | i + 1 => if p i = true then uph (cumH δ p hp i) (δ i).wr else cumH δ p hp i

def idAt (δ : Nat → Dl) (nx : Nat) : Nat → Nat
  | 0 => nx
  | i + 1 => idAt δ nx i + (δ i).nw

theorem idAt_mono {δ : Nat → Dl} {nx : Nat} : ∀ {i j : Nat}, i ≤ j → idAt δ nx i ≤ idAt δ nx j := by
  intro i j h
  induction h with
  | refl => exact Nat.le_refl _
  | step _ ih => simp only [idAt]; omega

theorem cumT_congr {δ : Nat → Dl} {p q : Nat → Bool} {tm : Nat → Option A} {t : Nat} : ∀ (n : Nat), (∀ j, j < n → dstAt ops j = some t → p j = q j) → cumT ops δ p tm n t = cumT ops δ q tm n t
  | 0, _ => rfl
  | n + 1, h => by
    have ih := cumT_congr (δ := δ) (tm := tm) n fun j hj => h j (Nat.lt_succ_of_lt hj)
    simp only [cumT]
    by_cases e : dstAt ops n = some t
    · rw [h n (by omega) e]
      split
      · simp [upf, e]
      · exact ih
    · have h1 : ∀ (b : Bool) (f : Nat → Option A), (if b = true then upf f (dstAt ops n) (δ n).v else f) t = f t := fun b f => by
        split
        · simp [upf, e]
        · rfl
      rw [h1, h1, ih]

theorem uph_none {h : Hp} {wr : List (Nat × Ob)} {k : Nat} (hk : look wr k = none) : uph h wr k = h k := by simp [uph, hk]
theorem uph_some {h : Hp} {wr : List (Nat × Ob)} {k : Nat} {x : Ob} (hk : look wr k = some x) : uph h wr k = some x := by simp [uph, hk]

theorem cumH_congr {δ : Nat → Dl} {p q : Nat → Bool} {hp : Hp} {k : Nat} : ∀ (n : Nat), (∀ j, j < n → look (δ j).wr k ≠ none → p j = q j) → cumH δ p hp n k = cumH δ q hp n k
  | 0, _ => rfl
  | n + 1, h => by
    have ih := cumH_congr (δ := δ) (hp := hp) n fun j hj => h j (Nat.lt_succ_of_lt hj)
    simp only [cumH]
    cases e : look (δ n).wr k with
    | some x =>
      rw [h n (by omega) (by rw [e]; simp)]
      split
      · rw [uph_some e, uph_some e]
      · exact ih
    | none =>
      have h1 : ∀ (b : Bool) (f : Hp), (if b = true then uph f (δ n).wr else f) k = f k := fun b f => by
        split
        · exact uph_none e
        · rfl
      rw [h1, h1, ih]

/-- up to a place, or with what is ahead of it -/
theorem cumT_lt {δ : Nat → Dl} {tm : Nat → Option A} {i : Nat} : ∀ (n : Nat), i ≤ n → cumT ops δ (fun j => decide (j < i)) tm n = cumT ops δ (fun _ => true) tm i := by
  have key : ∀ n, n ≤ i → cumT ops δ (fun j => decide (j < i)) tm n = cumT ops δ (fun _ => true) tm n := fun n => by
    induction n with
    | zero => intro _; rfl
    | succ n ih => intro h; simp only [cumT, ih (by omega), show decide (n < i) = true by simp; omega]
  intro n
  induction n with
  | zero => intro h; have : i = 0 := by omega
            subst this; rfl
  | succ n ih =>
    intro h
    by_cases e : i ≤ n
    · simp only [cumT, ih e, show decide (n < i) = false by simp; omega]; simp
    · have : i = n + 1 := by omega
      subst this; exact key _ (Nat.le_refl _)

theorem cumH_lt {δ : Nat → Dl} {hp : Hp} {i : Nat} : ∀ (n : Nat), i ≤ n → cumH δ (fun j => decide (j < i)) hp n = cumH δ (fun _ => true) hp i := by
  have key : ∀ n, n ≤ i → cumH δ (fun j => decide (j < i)) hp n = cumH δ (fun _ => true) hp n := fun n => by
    induction n with
    | zero => intro _; rfl
    | succ n ih => intro h; simp only [cumH, ih (by omega), show decide (n < i) = true by simp; omega]
  intro n
  induction n with
  | zero => intro h; have : i = 0 := by omega
            subst this; rfl
  | succ n ih =>
    intro h
    by_cases e : i ≤ n
    · simp only [cumH, ih e, show decide (n < i) = false by simp; omega]; simp
    · have : i = n + 1 := by omega
      subst this; exact key _ (Nat.le_refl _)

/-- one more is put among what has been done -/
def also (p : Nat → Bool) (i : Nat) : Nat → Bool := fun j => p j || j == i

theorem cumT_insert {δ : Nat → Dl} {p : Nat → Bool} {tm : Nat → Option A} {i : Nat} (hp : p i = false) : ∀ (n : Nat), i < n → (∀ j, i < j → j < n → p j = true → ∀ d, dstAt ops j = some d → dstAt ops i ≠ some d) →
    cumT ops δ (also p i) tm n = upf (cumT ops δ p tm n) (dstAt ops i) (δ i).v := by
  intro n hn hno
  funext t
  induction n with
  | zero => omega
  | succ n ih =>
    simp only [cumT]
    by_cases e : i = n
    · subst e
      have h1 : cumT ops δ (also p i) tm i t = cumT ops δ p tm i t := cumT_congr i fun j hj _ => by
        have : j ≠ i := by omega
        simp [also, this]
      simp only [also, hp, BEq.rfl, Bool.false_or, if_true, Bool.false_eq_true, if_false]
      unfold upf
      split
      · rfl
      · exact h1
    · have ih := ih (by omega) fun j h1 h2 h3 => hno j h1 (by omega) h3
      have h2 : also p i n = p n := by have : n ≠ i := Ne.symm e; simp [also, this]
      rw [h2]
      by_cases hpn : p n = true
      · simp only [hpn, if_true]
        have h3 := hno n (by omega) (by omega) hpn
        unfold upf at ih ⊢
        rw [ih]
        by_cases e1 : dstAt ops n = some t
        · have := h3 t e1
          simp [e1, this]
        · simp [e1]
      · simp only [hpn]
        exact ih

theorem cumH_insert {δ : Nat → Dl} {p : Nat → Bool} {hp : Hp} {i : Nat} (hpi : p i = false) : ∀ (n : Nat), i < n → (∀ j, i < j → j < n → p j = true → ∀ k, look (δ j).wr k ≠ none → look (δ i).wr k = none) →
    cumH δ (also p i) hp n = uph (cumH δ p hp n) (δ i).wr := by
  intro n hn hno
  funext t
  induction n with
  | zero => omega
  | succ n ih =>
    simp only [cumH]
    by_cases e : i = n
    · subst e
      have h1 : cumH δ (also p i) hp i t = cumH δ p hp i t := cumH_congr i fun j hj _ => by
        have : j ≠ i := by omega
        simp [also, this]
      simp only [also, hpi, BEq.rfl, Bool.false_or, if_true, Bool.false_eq_true, if_false]
      unfold uph
      split
      · rfl
      · exact h1
    · have ih := ih (by omega) fun j h1 h2 h3 => hno j h1 (by omega) h3
      have h2 : also p i n = p n := by have : n ≠ i := Ne.symm e; simp [also, this]
      rw [h2]
      by_cases hpn : p n = true
      · simp only [hpn, if_true]
        have h3 := hno n (by omega) (by omega) hpn
        cases e1 : look (δ n).wr t with
        | some x =>
          have h4 := h3 t (by rw [e1]; simp)
          rw [uph_some e1, uph_none h4, uph_some e1]
        | none =>
          rw [uph_none e1, ih]
          cases e2 : look (δ i).wr t with
          | some x => rw [uph_some e2, uph_some e2]
          | none => rw [uph_none e2, uph_none e2, uph_none e1]
      · simp only [hpn]
        exact ih

end
end Go.Ab

/- A REGION IN ANY ORDER: the check of its edges, and the proof. -/
namespace Go.Ab

def maskOf (cls : List Nat) (es : List Edge) : Nat := es.foldl (fun m e => if Region.binds .any e = true then m ||| 2 ^ e.on ||| cls.getD e.on 0 else m) 0

def closGo : List Oper → List Nat → List Nat
  | [], cls => cls
  | o :: l, cls => closGo l (cls ++ [maskOf cls o.after.toList])

def clos (ops : Array Oper) : List Nat := closGo ops.toList []

theorem mask_fold (cls : List Nat) (j : Nat) : ∀ (es : List Edge) (m : Nat), (es.foldl (fun m e => if Region.binds .any e = true then m ||| 2 ^ e.on ||| cls.getD e.on 0 else m) m).testBit j = true →
    m.testBit j = true ∨ ∃ e ∈ es, Region.binds .any e = true ∧ (e.on = j ∨ (cls.getD e.on 0).testBit j = true)
  | [], m, h => .inl h
  | e :: es, m, h => by
    simp only [List.foldl_cons] at h
    rcases mask_fold cls j es _ h with h | ⟨e', h1, h2⟩
    · split at h
      · rename_i hb
        simp only [Nat.testBit_or, Bool.or_eq_true, Nat.testBit_two_pow, decide_eq_true_eq] at h
        rcases h with (h | h) | h
        · exact .inl h
        · exact .inr ⟨e, by simp, hb, .inl h⟩
        · exact .inr ⟨e, by simp, hb, .inr h⟩
      · exact .inl h
    · exact .inr ⟨e', by simp [h1], h2⟩

theorem closGo_spec : ∀ (l : List Oper) (cls : List Nat), (∀ k, k < cls.length → (closGo l cls).getD k 0 = cls.getD k 0) ∧
    ∀ k o, l[k]? = some o → ∃ c, (∀ j, j < cls.length + k → c.getD j 0 = (closGo l cls).getD j 0) ∧ (closGo l cls).getD (cls.length + k) 0 = maskOf c o.after.toList
  | [], cls => ⟨fun _ _ => rfl, fun k o h => by simp at h⟩
  | o :: l, cls => by
    obtain ⟨h1, h2⟩ := closGo_spec l (cls ++ [maskOf cls o.after.toList])
    have h3 : ∀ k, k < cls.length → (closGo (o :: l) cls).getD k 0 = cls.getD k 0 := fun k hk => by
      simp only [closGo]
      rw [h1 k (by simp; omega)]
      simp [List.getD_eq_getElem?_getD, List.getElem?_append_left hk]
    refine ⟨h3, fun k o' ho => ?_⟩
    cases k with
    | zero =>
      simp only [List.getElem?_cons_zero, Option.some.injEq] at ho
      subst ho
      refine ⟨cls, fun j hj => (h3 j (by simpa using hj)).symm, ?_⟩
      simp only [closGo, Nat.add_zero]
      rw [h1 cls.length (by simp)]
      simp [List.getD_eq_getElem?_getD]
    | succ k =>
      simp only [List.getElem?_cons_succ] at ho
      obtain ⟨c, c1, c2⟩ := h2 k o' ho
      refine ⟨c, fun j hj => ?_, ?_⟩
      · simp only [closGo]
        exact c1 j (by simp; omega)
      · simp only [closGo]
        rw [← c2]
        congr 1
        simp; omega

def backOk (ops : Array Oper) : Prop := ∀ (i : Nat) (o : Oper), ops[i]? = some o → ∀ e ∈ o.after, Region.binds .any e = true → e.on < i

theorem clos_down {ops : Array Oper} {p : Nat → Bool} (hb : backOk ops) (hp : ∀ (i : Nat) (o : Oper), ops[i]? = some o → p i = true → ∀ e ∈ o.after, Region.binds .any e = true → p e.on = true) :
    ∀ (i : Nat) (o : Oper), ops[i]? = some o → (∀ e ∈ o.after, Region.binds .any e = true → p e.on = true) → ∀ j, ((clos ops).getD i 0).testBit j = true → p j = true := by
  intro i
  induction i using Nat.strongRecOn with
  | _ i ih =>
    intro o ho hpre j hj
    obtain ⟨-, h2⟩ := closGo_spec ops.toList []
    obtain ⟨c, c1, c2⟩ := h2 i o (by simpa using ho)
    simp only [List.length_nil, Nat.zero_add] at c1 c2
    unfold clos at hj
    rw [c2] at hj
    rcases mask_fold c j _ 0 hj with h | ⟨e, e1, e2, e3⟩
    · simp at h
    · have e1' : e ∈ o.after := by simpa using e1
      have hlt := hb i o ho e e1' e2
      have hpe := hpre e e1' e2
      rcases e3 with rfl | e3
      · exact hpe
      · rw [c1 e.on hlt] at e3
        have hsz : e.on < ops.size := Nat.lt_trans hlt (Array.getElem?_eq_some_iff.1 ho).1
        exact ih e.on hlt ops[e.on] (Array.getElem?_eq_getElem hsz) (hp e.on _ (Array.getElem?_eq_getElem hsz) hpe) j e3

def meets (a b : List Nat) : Bool := a.any fun x => b.contains x

theorem meets_of {a b : List Nat} {k : Nat} (h1 : k ∈ a) (h2 : k ∈ b) : meets a b = true := List.any_eq_true.2 ⟨k, h1, by simpa using h2⟩

def clash (ops : Array Oper) (f : Nat → List Nat × List Nat) (i j : Nat) : Bool :=
  match ops[i]?, ops[j]? with
  | some oi, some oj =>
    (match oj.dst with | some d => (oi.looksAt ops).contains d || oi.dst == some d | none => false) ||
    (match oi.dst with | some d => (oj.looksAt ops).contains d | none => false) ||
    meets (f j).1 (f i).1 || meets (f j).1 (f i).2 || meets (f i).1 (f j).2
  | _, _ => false

def footOf (δ : Dl) : List Nat × List Nat := (δ.wr.map (·.1), δ.rd)

theorem look_mem {α : Type} {l : List (Nat × α)} {k : Nat} (h : look l k ≠ none) : k ∈ l.map (·.1) := by
  induction l with
  | nil => simp [look] at h
  | cons p l ih =>
    obtain ⟨i, x⟩ := p
    simp only [look] at h
    split at h
    · rename_i e; subst e; simp
    · simp [ih h]

section
variable {P : Program} {L : Lay} {g : Gh} {r : Option Nat} {ops : Array Oper}

/-- the check, as a sentence -/
structure Ordered (ops : Array Oper) (f : Nat → List Nat × List Nat) : Prop where
  back : backOk ops
  pair : ∀ i j, j < i → i < ops.size → clash ops f i j = true → ((clos ops).getD i 0).testBit j = true

def frp (δ : Nat → Dl) (nx N : Nat) (p : Nat → Bool) (o : Nat) : Prop := nx ≤ o ∧ ∀ j, j < N → p j = true → ¬ (idAt δ nx j ≤ o ∧ o < idAt δ nx j + (δ j).nw)

theorem clash_dst {f : Nat → List Nat × List Nat} {i j : Nat} {oi oj : Oper} (hi : ops[i]? = some oi) (hj : ops[j]? = some oj) {d : Tmp} (hd : oj.dst = some d) (h : d ∈ oi.looksAt ops ∨ oi.dst = some d) : clash ops f i j = true := by
  have h1 : ((oi.looksAt ops).contains d || oi.dst == some d) = true := by
    rcases h with h | h
    · simp [h]
    · simp [h]
  simp only [clash, hi, hj, hd, h1, Bool.true_or]

theorem clash_dst' {f : Nat → List Nat × List Nat} {i j : Nat} {oi oj : Oper} (hi : ops[i]? = some oi) (hj : ops[j]? = some oj) {d : Tmp} (hd : oi.dst = some d) (h : d ∈ oj.looksAt ops) : clash ops f i j = true := by
  have h1 : ((oj.looksAt ops).contains d) = true := by simp [h]
  simp only [clash, hi, hj, hd, h1, Bool.true_or, Bool.or_true]

theorem clash_ww {f : Nat → List Nat × List Nat} {i j : Nat} {oi oj : Oper} (hi : ops[i]? = some oi) (hj : ops[j]? = some oj) {k : Nat} (h1 : k ∈ (f j).1) (h2 : k ∈ (f i).1) : clash ops f i j = true := by
  simp only [clash, hi, hj, meets_of h1 h2, Bool.true_or, Bool.or_true]
theorem clash_wr {f : Nat → List Nat × List Nat} {i j : Nat} {oi oj : Oper} (hi : ops[i]? = some oi) (hj : ops[j]? = some oj) {k : Nat} (h1 : k ∈ (f j).1) (h2 : k ∈ (f i).2) : clash ops f i j = true := by
  simp only [clash, hi, hj, meets_of h1 h2, Bool.true_or, Bool.or_true]
theorem clash_rw {f : Nat → List Nat × List Nat} {i j : Nat} {oi oj : Oper} (hi : ops[i]? = some oi) (hj : ops[j]? = some oj) {k : Nat} (h1 : k ∈ (f i).1) (h2 : k ∈ (f j).2) : clash ops f i j = true := by
  simp only [clash, hi, hj, meets_of h1 h2, Bool.or_true]

theorem RS.weak {mine : Nat → Prop} {tm tm' : Nat → Option A} {hp hp' : Hp} {fr fr' : Nat → Prop} {tmps : Array Value} {w : World} {ob : Nat → Option OI} {S : Nat → Prop} (r : RS P L mine tm hp fr tmps w ob S)
    (h1 : ∀ t x, tm' t = some x → tm t = some x) (h2 : ∀ o x, hp' o = some x → hp o = some x) (h3 : ∀ o, fr' o → fr o) : RS P L mine tm' hp' fr' tmps w ob S :=
  ⟨fun t x h => r.tm t x (h1 t x h), fun o x h => r.hp o x (h2 o x h), r.inj, r.blk, r.st, fun o h => r.fr o (h3 o h), r.mine⟩

theorem At.weak {tm tm' : Nat → Option A} {hp hp' : Hp} {fr fr' : Nat → Prop} {a : Act} {w : World} (h : At P L g tm hp fr a w)
    (h1 : ∀ t x, tm' t = some x → tm t = some x) (h2 : ∀ o x, hp' o = some x → hp o = some x) (h3 : ∀ o, fr' o → fr o) : At P L g tm' hp' fr' a w := by
  obtain ⟨ob, S, i⟩ := h
  exact ⟨ob, S, i.rs.weak h1 h2 h3, i.ext, i.keep, i.defs, (fun o x ho => by
    obtain ⟨q1, q2⟩ := i.xs o x ho
    refine ⟨?_, q2⟩
    cases hq : hp' o with
    | none => rfl
    | some y => rw [h2 o y hq] at q1; cases q1), i.size, i.news, i.own⟩

theorem any_sound {n : Nat} {Q : Exit → Act → World → Prop} {δ : Nat → Dl} {s : AS} (hd : dstOk ops g.N) (hO : Ordered ops (fun i => footOf (δ i)))
    (hact : ∀ (i : Nat) (o : Oper), ops[i]? = some o → ActI P L r ops o (cumT ops δ (fun _ => true) s.tm i) (cumH δ (fun _ => true) s.hp i) (idAt δ s.nx i) (δ i))
    (hQ : ∀ a' w', At P L g (cumT ops δ (fun _ => true) s.tm ops.size) (cumH δ (fun _ => true) s.hp ops.size) (idAt δ s.nx ops.size ≤ ·) a' w' → Q .normal a' w') :
    ∀ (fuel : Nat) (listed : Array Bool) (a : Act) (w : World), listed.size = ops.size → (listed.toList.filter (fun b => !b)).length ≤ fuel →
      (∀ (i : Nat) (o : Oper), ops[i]? = some o → listed.getD i true = true → ∀ e ∈ o.after, Region.binds .any e = true → listed.getD e.on true = true) →
      At P L g (cumT ops δ (fun j => listed.getD j true) s.tm ops.size) (cumH δ (fun j => listed.getD j true) s.hp ops.size) (frp δ s.nx ops.size (fun j => listed.getD j true)) a w →
      wpAnyIn (Fw r) n P .any ops Q fuel listed a w := by
  have hend : ∀ (listed : Array Bool) (a : Act) (w : World), (∀ j, j < ops.size → listed.getD j true = true) →
      At P L g (cumT ops δ (fun j => listed.getD j true) s.tm ops.size) (cumH δ (fun j => listed.getD j true) s.hp ops.size) (frp δ s.nx ops.size (fun j => listed.getD j true)) a w → Q .normal a w := fun listed a w hall h => by
    refine hQ a w (h.weak (fun t x ht => ?_) (fun o x ho => ?_) fun o ho => ⟨Nat.le_trans (idAt_mono (Nat.zero_le _)) ho, fun j hj _ hh => ?_⟩)
    · rw [← ht]; exact cumT_congr _ fun j hj _ => hall j hj
    · rw [← ho]; exact cumH_congr _ fun j hj _ => hall j hj
    · have : idAt δ s.nx (j + 1) ≤ idAt δ s.nx ops.size := idAt_mono hj
      simp only [idAt] at this
      omega
  have hready : ∀ (listed : Array Bool), listed.size = ops.size → Region.ready .any ops listed = [] → ∀ j, j < ops.size → listed.getD j true = true := fun listed hsz hr j => by
    induction j using Nat.strongRecOn with
    | _ j ih =>
      intro hj
      cases hl : listed.getD j true with
      | true => rfl
      | false =>
        have : j ∈ Region.ready .any ops listed := mem_ready.2 ⟨hl, ops[j], Array.getElem?_eq_getElem hj, fun e he hb => by
          have h1 := hO.back j _ (Array.getElem?_eq_getElem hj) e he hb
          have h2 := ih e.on h1 (by omega)
          have h3 : e.on < listed.size := by omega
          simp only [Array.getD, h3, dite_true] at h2 ⊢
          exact h2⟩
        rw [hr] at this; cases this
  intro fuel
  induction fuel with
  | zero =>
    intro listed a w hsz hf hdn hat
    have hall : ∀ j, j < ops.size → listed.getD j true = true := fun j hj => by
      have h1 : listed.toList.filter (fun b => !b) = [] := List.eq_nil_of_length_eq_zero (by omega)
      have h2 : j < listed.size := by omega
      have h3 := (List.filter_eq_nil_iff.1 h1) listed[j] (by simp)
      simp only [Array.getD, h2, dite_true]
      simpa using h3
    refine ⟨?_, hend listed a w hall hat⟩
    rw [List.eq_nil_iff_forall_not_mem]
    intro j hj
    obtain ⟨h1, o, h2, h3⟩ := mem_ready.1 hj
    rw [hall j (Array.getElem?_eq_some_iff.1 h2).1] at h1; cases h1
  | succ fuel ih =>
    intro listed a w hsz hf hdn hat
    refine ⟨fun hr => hend listed a w (hready listed hsz hr) hat, fun i hi => ?_⟩
    obtain ⟨hun, o, ho, hpre⟩ := mem_ready.1 hi
    have hin : i < ops.size := (Array.getElem?_eq_some_iff.1 ho).1
    have hpre' : ∀ e ∈ o.after, Region.binds .any e = true → listed.getD e.on true = true := fun e he hb => by
      have h1 := hpre e he hb
      have h2 := hO.back i o ho e he hb
      have h3 : e.on < listed.size := by omega
      simp only [Array.getD, h3, dite_true] at h1 ⊢
      exact h1
    -- who must come before, and who must come after
    have hbefore : ∀ j, j < i → clash ops (fun i => footOf (δ i)) i j = true → listed.getD j true = true := fun j hj hc =>
      clos_down hO.back (p := fun j => listed.getD j true) hdn i o ho hpre' j (hO.pair i j hj hin hc)
    have hafter : ∀ j, i < j → j < ops.size → clash ops (fun i => footOf (δ i)) j i = true → listed.getD j true = false := fun j hj hjn hc => by
      cases hl : listed.getD j true with
      | false => rfl
      | true =>
        have hoj := Array.getElem?_eq_getElem hjn
        have := clos_down hO.back (p := fun j => listed.getD j true) hdn j _ hoj (hdn j _ hoj hl) i (hO.pair j i hj hjn hc)
        simp only [hun] at this; cases this
    obtain ⟨ob, S, hinv⟩ := hat
    have hfresh : ∀ k, idAt δ s.nx i ≤ k → k < idAt δ s.nx i + (δ i).nw → frp δ s.nx ops.size (fun j => listed.getD j true) k := fun k h1 h2 => by
      refine ⟨Nat.le_trans (idAt_mono (Nat.zero_le i)) h1, fun j hj hpj hh => ?_⟩
      rcases Nat.lt_trichotomy j i with h | h | h
      · have : idAt δ s.nx (j + 1) ≤ idAt δ s.nx i := idAt_mono h
        simp only [idAt] at this; omega
      · subst h; simp only [hun] at hpj; cases hpj
      · have : idAt δ s.nx (i + 1) ≤ idAt δ s.nx j := idAt_mono h
        simp only [idAt] at this; omega
    have hoAt : ∀ {j : Nat} {t : Tmp}, dstAt ops j = some t → ∃ oj, ops[j]? = some oj ∧ oj.dst = some t := fun {j t} h => by
      unfold dstAt at h
      exact Option.bind_eq_some_iff.1 h
    refine hact i o ho _ _ (fun t ht => ?_) (fun k hk => ?_) g.mine _ a w ob S hinv.rs hfresh n Q i _ ho fun v w' ob' S' d1 d2 d3 => ?_
    · rw [← cumT_lt (i := i) ops.size (by omega)]
      refine cumT_congr _ fun j hj hdj => ?_
      obtain ⟨oj, hoj, hdj⟩ := hoAt hdj
      rcases Nat.lt_trichotomy j i with h | h | h
      · rw [hbefore j h (clash_dst ho hoj hdj (.inl ht))]; simp [h]
      · subst h; rw [hun]; simp
      · rw [hafter j h hj (clash_dst' hoj ho hdj ht)]; simp; omega
    · rw [← cumH_lt (i := i) ops.size (by omega)]
      refine cumH_congr _ fun j hj hwj => ?_
      have hoj := Array.getElem?_eq_getElem hj
      rcases Nat.lt_trichotomy j i with h | h | h
      · rw [hbefore j h (clash_wr ho hoj (look_mem hwj) hk)]; simp [h]
      · subst h; rw [hun]; simp
      · rw [hafter j h hj (clash_rw hoj ho (look_mem hwj) hk)]; simp; omega
    · have hset : (fun j => (listed.setIfInBounds i true).getD j true) = also (fun j => listed.getD j true) i := by
        funext j
        unfold also
        by_cases e : i = j
        · subst e
          have : i < listed.size := by omega
          simp [this]
        · rw [getD_set_ne true e]
          have : (j == i) = false := by simp; exact fun h => e h.symm
          simp [this]
      have hT : cumT ops δ (also (fun j => listed.getD j true) i) s.tm ops.size = upf (cumT ops δ (fun j => listed.getD j true) s.tm ops.size) o.dst (δ i).v := by
        rw [cumT_insert (i := i) hun ops.size hin fun j h1 h2 h3 d hdj hdi => ?_]
        · simp [dstAt, ho]
        · obtain ⟨oj, hoj, hdj⟩ := hoAt hdj
          obtain ⟨oi, hoi, hdi⟩ := hoAt hdi
          rw [ho] at hoi; cases hoi
          have := hafter j h1 h2 (clash_dst hoj ho hdi (.inr hdj))
          rw [this] at h3; cases h3
      have hH : cumH δ (also (fun j => listed.getD j true) i) s.hp ops.size = uph (cumH δ (fun j => listed.getD j true) s.hp ops.size) (δ i).wr := by
        refine cumH_insert (i := i) hun ops.size hin fun j h1 h2 h3 k hwj => ?_
        cases hwi : look (δ i).wr k with
        | none => rfl
        | some x =>
          have := hafter j h1 h2 (clash_ww (Array.getElem?_eq_getElem h2) ho (k := k) (look_mem (by rw [hwi]; simp)) (look_mem hwj))
          rw [this] at h3; cases h3
      refine ih _ _ _ (by simpa using hsz) ?_ ?_ ?_
      · have h2 : i < listed.toList.length := by simp; omega
        have h3 : listed.toList[i]'h2 = false := by
          have h2' : i < listed.size := by omega
          simp only [Array.getD, h2', dite_true] at hun
          simpa using hun
        have h4 : (listed.setIfInBounds i true).toList = listed.toList.take i ++ true :: listed.toList.drop (i + 1) := by
          rw [Array.toList_setIfInBounds, List.set_eq_take_append_cons_drop]
          simp only [h2, if_true]
        have h5 : listed.toList = listed.toList.take i ++ false :: listed.toList.drop (i + 1) := by
          conv => lhs; rw [← List.take_append_drop i listed.toList, List.drop_eq_getElem_cons h2, h3]
        rw [h4]
        rw [h5] at hf
        simp only [List.filter_append, List.filter_cons, Bool.not_false, Bool.not_true, if_true, Bool.false_eq_true, if_false, List.length_append, List.length_cons] at hf ⊢
        omega
      · intro j oj hoj hpj e he hb
        by_cases e1 : i = j
        · subst e1
          rw [ho] at hoj; cases hoj
          have := hpre' e he hb
          have hx := congrFun hset e.on
          simp only [also] at hx
          rw [hx, this]; rfl
        · rw [getD_set_ne true e1] at hpj
          have := hdn j oj hoj hpj e he hb
          have hx := congrFun hset e.on
          simp only [also] at hx
          rw [hx, this]; rfl
      · rw [hset, hT, hH]
        refine ⟨ob', S', hinv.after d1 d2 d3 hfresh (fun k hk => ?_) o.dst fun k hk => hd i o k ho hk⟩
        refine ⟨⟨hk.1, fun j hj hpj => hk.2 j hj (by simp only [also, hpj, Bool.true_or])⟩, hk.2 i hin (by simp [also])⟩

end
end Go.Ab

/- CALLS AS ABSTRACT STEPS; THE RUNS OF CODE. -/
namespace Go.Ab

section
variable {P : Program} {L : Lay} {tm : Nat → Option A} {hp : Hp} {nx : Nat} {δ : Dl} {ops : Array Oper} {o : Oper}

/-- A CONTRACT: a call with these arguments, these objects being so, makes that. -/
def CallD (P : Program) (L : Lay) (f : FuncId) (vs : List A) (hp : Hp) (nx : Nat) (δ : Dl) : Prop :=
  ∀ hp', (∀ k ∈ δ.rd, hp' k = hp k) → ∀ (mine fr : Nat → Prop) (w : World) (ob : Nat → Option OI) (S : Nat → Prop) (args : List Value), RS P L mine (fun _ => none) hp' fr #[] w ob S →
    (∀ k, nx ≤ k → k < nx + δ.nw → fr k) → RVl P w ob S vs args →
      (∃ v w' ob' S', (callFunc f args.toArray).run P w = .ok (.value v) w' ∧ Does P L w ob S δ.wr w' ob' S' ∧ RV P w' ob' S' δ.v v ∧ Names hp' nx δ) ∨
      ((callFunc f args.toArray).run P w = .ok (.enter f args.toArray) w ∧ Calls P f args.toArray w fun e w' => ∃ v ob' S', e = .returned v ∧ Does P L w ob S δ.wr w' ob' S' ∧ RV P w' ob' S' δ.v v ∧ Names hp' nx δ)

theorem RVl.append {w : World} {ob : Nat → Option OI} {S : Nat → Prop} : ∀ {l m : List A} {c d : List Value}, RVl P w ob S l c → RVl P w ob S m d → RVl P w ob S (l ++ m) (c ++ d)
  | [], m, c, d, h, k => by simp only [RVl] at h; subst h; simpa using k
  | x :: l, m, c, d, h, k => by
    obtain ⟨v, vs, h1, h2, h3, h4⟩ := h
    exact ⟨v, vs ++ d, by simp [h1], h2, h3, RVl.append h4 k⟩

theorem callsIn_Fw {r : Option Nat} {n : Nat} {f : FuncId} {args : Array Value} {w : World} {R : Ending → World → Prop} : CallsIn (Fw r) n P f args w R ↔ Calls P f args w R := by
  have h : CallsIn (Fw r) n P f args w R ↔ CallsIn Fence.wide n P f args w R := Iff.rfl
  exact h.trans callsIn_wide

theorem RS.noTm {mine : Nat → Prop} {fr : Nat → Prop} {tmps : Array Value} {w : World} {ob : Nat → Option OI} {S : Nat → Prop} (r : RS P L mine tm hp fr tmps w ob S) : RS P L mine (fun _ => none) hp fr #[] w ob S :=
  ⟨fun t x h => (by cases h), r.hp, r.inj, r.blk, r.st, r.fr, r.mine⟩

/-- a call of a function, or of a function value -/
theorem act_call {r : Option Nat} {x : Operand} {args : Array Operand} {ts : Array TypeId} {f : FuncId} {first caps vs : List A} (ho : o.op = .call { callee := .value x, args, argTypes := ts }) (hw : wantA ops o tm = some true)
    (hx : evA tm x = some (.fn (.func f) first caps)) (hvs : evAs tm args.toList = some vs) (ht : ∀ v ∈ vs, v.isTup = false) (hc : CallD P L f (first ++ vs ++ caps) hp nx δ) : ActI P L r ops o tm hp nx δ := by
  intro tm' hp' htm hh mine fr a w ob S rs hfr n Q i K hi hK
  have hw' := wantA_spec (ops := ops) (o := o) rs ((wantA_congr htm).trans hw)
  have hex := evA_looks htm
  rw [ho] at hex
  have hx' : evA tm' x = some (.fn (.func f) first caps) := (hex x (by simp [Op.operands, Call.operands])).trans hx
  have hvs' : evAs tm' args.toList = some vs := (evAs_congr _ fun y hy => hex y (by simp only [Op.operands, Call.operands]; simp at hy ⊢; exact .inr hy)).trans hvs
  obtain ⟨fa, ca, e1, e2, e3⟩ := ev_leaf rs hx' rfl rfl
  have e1 : a.eval x = .func (.func f) fa ca := by simpa using e1
  have e4 := evAs_rvl rs hvs' ht
  have e5 : RVl P w ob S (first ++ vs ++ caps) (fa.toList ++ args.toList.map a.eval ++ ca.toList) := RVl.append (RVl.append e2 e4) e3
  have hrun : ∀ R, (execOp a.eval o).run P w = R ↔ (callFunc f (fa.toList ++ args.toList.map a.eval ++ ca.toList).toArray).run P w = R := fun R => by
    have : (fa.toList ++ args.toList.map a.eval ++ ca.toList).toArray = fa ++ args.map a.eval ++ ca := by
      apply Array.toList_inj.1; simp
    rw [this]
    simp [execOp, ho, resolve, e1, Deferred.ofValue, invoke]
  unfold wpOpIn
  simp only [hi, hw', if_true, Oper.wpIn]
  refine ⟨fun _ _ => trivial, ?_⟩
  rw [Oper.semAt_eq _ _ _ (by rw [ho]; simp)]
  rcases hc hp' hh mine fr w ob S _ rs.noTm hfr e5 with ⟨v, w', ob', S', g1, g2, g3, g4⟩ | ⟨g1, g2⟩
  · rw [(hrun _).2 g1]
    exact hK v w' ob' S' g2 g3 g4
  · rw [(hrun _).2 g1]
    refine ⟨fun h => by simp [Fw, Fence.wide] at h, callsIn_Fw.2 (g2.mono fun e w' he => ?_)⟩
    obtain ⟨v, ob', S', rfl, h1, h2, h3⟩ := he
    exact hK v w' ob' S' h1 h2 h3

end

/-! ### The runs of code -/

section
variable {P : Program} {L : Lay} {r : Option Nat} {N : Nat}

/-- from this state the code comes out so, with that state -/
def Runs (P : Program) (L : Lay) (r : Option Nat) (N : Nat) (c : Code) (s : AS) (e : Exit) (s' : AS) : Prop :=
  ∀ (g : Gh), g.N = N → ∀ (n : Nat) (a : Act) (w : World) (Q : Exit → Act → World → Prop), AtS P L g s a w →
    (∀ a' w', AtS P L g s' a' w' → Q e a' w') → c.wpIn (Fw r) n P Q a w

structure Le (s t : AS) : Prop where
  tm : ∀ k x, t.tm k = some x → s.tm k = some x
  hp : ∀ o x, t.hp o = some x → s.hp o = some x
  nx : s.nx ≤ t.nx
  ys : ∀ o x, t.ys o = some x → s.ys o = some x
  mks : t.mks = s.mks
  dfr : ∀ o ∈ s.mks, s.ys o = some .dfr → t.ys o = some .dfr

theorem At.weakY {g : Gh} {ys' : Nat → Option XO} {tm : Nat → Option A} {hp : Hp} {fr : Nat → Prop} {a : Act} {w : World} (h : At P L g tm hp fr a w) (h1 : ∀ o x, ys' o = some x → g.ys o = some x) (h2 : ∀ o ∈ g.mks, g.ys o = some .dfr → ys' o = some .dfr) :
    At P L { g with ys := ys' } tm hp fr a w := by
  obtain ⟨ob, S, i⟩ := h
  exact ⟨ob, S, i.rs, i.ext, i.keep, ⟨i.defs.1, i.defs.2.congr fun o ho h => ⟨h2 o ho h, rfl⟩⟩, fun o x ho => i.xs o x (h1 o x ho), i.size, i.news, i.own⟩

theorem Le.at {s t : AS} (h : Le s t) {g : Gh} {a : Act} {w : World} (ha : AtS P L g s a w) : AtS P L g t a w := by
  have h1 : At P L (g.wy s) t.tm t.hp (t.nx ≤ ·) a w := ha.weak h.tm h.hp fun _ ho => Nat.le_trans h.nx ho
  have h2 := h1.weakY (ys' := t.ys) h.ys h.dfr
  unfold AtS
  have e : g.wy t = { g.wy s with ys := t.ys } := by simp only [Gh.wy, h.mks]
  rw [e]; exact h2

theorem Le.refl (s : AS) : Le s s := ⟨fun _ _ h => h, fun _ _ h => h, Nat.le_refl _, fun _ _ h => h, rfl, fun _ _ h => h⟩

theorem Runs.weak {c : Code} {s t s' t' : AS} {e : Exit} (h : Runs P L r N c t e t') (h1 : Le s t) (h2 : Le t' s') : Runs P L r N c s e s' :=
  fun g hg n a w Q ha hQ => h g hg n a w Q (h1.at ha) fun a' w' h' => hQ a' w' (h2.at h')

/-- what is so of a state is so of another one, too -/
def Imp (P : Program) (L : Lay) (s t : AS) : Prop := ∀ (g : Gh) (a : Act) (w : World), AtS P L g s a w → AtS P L g t a w

theorem Runs.pre {c : Code} {s t s' : AS} {e : Exit} (h : Runs P L r N c t e s') (h1 : Imp P L s t) : Runs P L r N c s e s' :=
  fun g hg n a w Q ha hQ => h g hg n a w Q (h1 g a w ha) hQ

theorem Imp.refl (s : AS) : Imp P L s s := fun _ _ _ h => h
theorem Imp.trans {s t u : AS} (h : Imp P L s t) (k : Imp P L t u) : Imp P L s u := fun g a w ha => k g a w (h g a w ha)

/-- an object is written no more from here on -/
theorem Imp.freeze {s : AS} {o : Nat} {y : Ob} (hy : s.hp o = some y) : Imp P L s ⟨s.tm, uph s.hp [(o, { y with fz := true })], s.nx, s.ys, s.mks⟩ := by
  intro g a w ⟨ob, S, i⟩
  obtain ⟨oi, h1, -⟩ := i.rs.hp o y hy
  have hd := does_freeze i.rs hy h1
  have := i.after (δ := ⟨.tup [], [(o, { y with fz := true })], [], 0⟩) (nx := s.nx) (fr' := (s.nx ≤ ·)) hd (v := undef) ⟨#[], rfl, rfl⟩ (fun k x hk => by
    rw [look_one] at hk
    split at hk
    · rename_i e; cases hk; subst e; exact .inl ⟨y, hy, fun h => by cases h⟩
    · cases hk) (fun k h1 h2 => absurd h2 (by simpa using h1)) (fun k hk => ⟨hk, fun h => absurd h.2 (by simpa using h.1)⟩) none (fun k hk => by cases hk)
  exact ⟨ob, _, this⟩

theorem Runs.skip {s : AS} : Runs P L r N .skip s .normal s := fun _ _ _ a w _ ha hQ => wpIn_skip (hQ a w ha)
theorem Runs.label {l : Nat} {s : AS} : Runs P L r N (.label l) s .normal s := fun _ _ _ a w _ ha hQ => wpIn_label (hQ a w ha)
theorem Runs.exit {id : Nat} {s : AS} : Runs P L r N (.exit id) s (.exit id) s := fun _ _ _ a w _ ha hQ => wpIn_exit (hQ a w ha)
theorem Runs.goto {l : Nat} {s : AS} : Runs P L r N (.goto l) s (.goto l) s := fun _ _ _ a w _ ha hQ => wpIn_goto (hQ a w ha)
theorem Runs.ret {s : AS} : Runs P L r N .ret s .ret s := fun _ _ _ a w _ ha hQ => wpIn_ret (hQ a w ha)

theorem Runs.seq {x y : Code} {s s1 s2 : AS} {e : Exit} (hx : Runs P L r N x s .normal s1) (hy : Runs P L r N y s1 e s2) : Runs P L r N (.seq x y) s e s2 :=
  fun g hg n a w Q ha hQ => wpIn_seq (hx g hg n a w _ ha fun a1 w1 h1 => hy g hg n a1 w1 Q h1 hQ)

theorem Runs.seq_out {x y : Code} {s s1 : AS} {e : Exit} (hx : Runs P L r N x s e s1) (he : e ≠ .normal) : Runs P L r N (.seq x y) s e s1 :=
  fun g hg n a w Q ha hQ => wpIn_seq (hx g hg n a w _ ha fun a1 w1 h1 => by cases e <;> first | exact absurd rfl he | exact hQ a1 w1 h1)

theorem Runs.cond {c : Operand} {x y : Code} {s s' : AS} {e : Exit} {b : Bool} (hc : evA s.tm c = some (.bool b)) (h : Runs P L r N (if b = true then x else y) s e s') : Runs P L r N (.cond c x y) s e s' :=
  fun g hg n a w Q ha hQ => by
    obtain ⟨ob, S, hi⟩ := ha
    exact wpIn_cond (ev_bool hi.rs hc) (h g hg n a w Q ⟨ob, S, hi⟩ hQ)

theorem Runs.cond_true {c : Operand} {x y : Code} {s s' : AS} {e : Exit} (hc : evA s.tm c = some (.bool true)) (h : Runs P L r N x s e s') : Runs P L r N (.cond c x y) s e s' := Runs.cond hc h
theorem Runs.cond_false {c : Operand} {x y : Code} {s s' : AS} {e : Exit} (hc : evA s.tm c = some (.bool false)) (h : Runs P L r N y s e s') : Runs P L r N (.cond c x y) s e s' := Runs.cond hc h

theorem Runs.block {id : Nat} {c : Code} {s s' : AS} {e : Exit} (h : Runs P L r N c s e s') (he : e ≠ .exit id) : Runs P L r N (.block id c) s e s' :=
  fun g hg n a w Q ha hQ => wpIn_block (h g hg n a w _ ha fun a1 w1 h1 => by
    cases e <;> try exact hQ a1 w1 h1
    rename_i id'
    have : id' ≠ id := fun h => he (by rw [h])
    simp only [Exit.inBlock, this, if_false]
    exact hQ a1 w1 h1)

theorem Runs.block_exit {id : Nat} {c : Code} {s s' : AS} (h : Runs P L r N c s (.exit id) s') : Runs P L r N (.block id c) s .normal s' :=
  fun g hg n a w Q ha hQ => wpIn_block (h g hg n a w _ ha fun a1 w1 h1 => by simp only [Exit.inBlock, if_true]; exact hQ a1 w1 h1)

/-- the rounds of a loop -/
inductive Loops (P : Program) (L : Lay) (r : Option Nat) (N : Nat) (c : Code) : AS → Exit → AS → Prop
  | next {s s1 s2 : AS} {e : Exit} : Runs P L r N c s .normal s1 → Loops P L r N c s1 e s2 → Loops P L r N c s e s2
  | stop {s s1 : AS} {e : Exit} : Runs P L r N c s e s1 → e ≠ .normal → Loops P L r N c s e s1

theorem Loops.weak {c : Code} {s t s' : AS} {e : Exit} (h : Loops P L r N c t e s') (h1 : Le s t) : Loops P L r N c s e s' := by
  cases h with
  | next h2 h3 => exact .next (h2.weak h1 (Le.refl _)) h3
  | stop h2 h3 => exact .stop (h2.weak h1 (Le.refl _)) h3

theorem Runs.loop {c : Code} {s s' : AS} {e : Exit} (h : Loops P L r N c s e s') : Runs P L r N (.loop c) s e s' := by
  intro g hg n a w Q ha hQ b k cs hro hb hr
  have key : ∀ a w, AtS P L g s a w →
      ∃ e a' w', Q e a' w' ∧ ArrivesIn (Machine.fenced P (Fw r)) P (lone (b.atR a (.code c :: .inLoop c :: k)) cs w) b k cs e a' w' := by
    clear ha a w
    induction h with
    | @next s s1 s2 e h1 _ ih =>
      intro a w ha
      obtain ⟨e', a1, w1, ⟨rfl, hat⟩, harr⟩ := h1 g hg n a w (fun e a' w' => e = .normal ∧ AtS P L g s1 a' w') ha (fun a' w' h' => ⟨rfl, h'⟩) b (.inLoop c :: k) cs hro hb hr
      obtain ⟨e2, a2, w2, hq2, harr2⟩ := ih hQ a1 w1 hat
      exact ⟨e2, a2, w2, hq2, .of_steps (StepsIn.trans harr (.one (fenced_calm hb hr rfl) stepR_inLoop)) harr2⟩
    | @stop s s1 e h1 hne =>
      intro a w ha
      obtain ⟨e', a1, w1, ⟨rfl, hat⟩, harr⟩ := h1 g hg n a w (fun e' a' w' => e' = e ∧ AtS P L g s1 a' w') ha (fun a' w' h' => ⟨rfl, h'⟩) b (.inLoop c :: k) cs hro hb hr
      exact ⟨_, a1, w1, hQ a1 w1 hat, .pass (x := .inLoop c) rfl (fun _ _ => .inl hne) harr⟩
  obtain ⟨e', a', w', hq, harr⟩ := key a w ha
  exact ⟨e', a', w', hq, .of_steps (.one (fenced_calm hb hr rfl) stepR_loop) harr⟩

/-- a scope: what runs in it, from a place in it on, and the jumps -/
inductive Scoped (P : Program) (L : Lay) (r : Option Nat) (N : Nat) (B : Code) : Code → AS → Exit → AS → Prop
  | out {c : Code} {s s' : AS} {e : Exit} : Runs P L r N c s e s' → (∀ l, e = .goto l → findLabel B l = none) → Scoped P L r N B c s e s'
  | jump {c rest : Code} {s s1 s2 : AS} {e : Exit} {l : Nat} : Runs P L r N c s (.goto l) s1 → findLabel B l = some rest → Scoped P L r N B rest s1 e s2 → Scoped P L r N B c s e s2

theorem stepR_scope {b : Frame} {a : Act} {k : List Item} {cs : List Frame} {w : World} {c : Code} : step P (lone (b.atR a (.code (.scope c) :: k)) cs w) = .next (lone (b.atR a (.code c :: .inScope c :: k)) cs w) :=
  step_lone_go (by simp [stepG, stepG.exec, Frame.atR])
theorem stepR_inScope {b : Frame} {a : Act} {k : List Item} {cs : List Frame} {w : World} {c : Code} : step P (lone (b.atR a (.inScope c :: k)) cs w) = .next (lone (b.atR a k) cs w) :=
  step_lone_go (by simp [stepG, stepG.exec, Frame.atR])

theorem Runs.scope {B : Code} {s s' : AS} {e : Exit} (h0 : Scoped P L r N B B s e s') : Runs P L r N (.scope B) s e s' := by
  intro g hg n a w Q ha hQ b k cs hro hb hr
  have key : ∀ (c : Code) (s : AS), Scoped P L r N B c s e s' → ∀ a w, AtS P L g s a w →
      ∃ e a' w', Q e a' w' ∧ ArrivesIn (Machine.fenced P (Fw r)) P (lone (b.atR a (.code c :: .inScope B :: k)) cs w) b k cs e a' w' := by
    intro c s h
    clear h0 ha a w
    induction h with
    | @out c s s' e h1 hno =>
      intro a w ha
      obtain ⟨e', a1, w1, ⟨rfl, hat⟩, harr⟩ := h1 g hg n a w (fun e' a' w' => e' = e ∧ AtS P L g s' a' w') ha (fun a' w' h' => ⟨rfl, h'⟩) b (.inScope B :: k) cs hro hb hr
      refine ⟨e', a1, w1, hQ a1 w1 hat, ?_⟩
      cases e' with
      | normal => exact StepsIn.trans harr (.one (fenced_calm hb hr rfl) stepR_inScope)
      | exit id =>
        have hx : exitTo id (.inScope B :: k) = exitTo id k := by simp [exitTo]
        exact ⟨fun k' hk => harr.1 k' (by rw [hx]; exact hk), fun hr' hk => harr.2 hr' (by rw [hx]; exact hk)⟩
      | goto l =>
        have hx : gotoIn l (.inScope B :: k) = gotoIn l k := by simp [gotoIn, hno l rfl]
        exact ⟨fun k' hk => harr.1 k' (by rw [hx]; exact hk), fun hr' hk => harr.2 hr' (by rw [hx]; exact hk)⟩
      | ret => exact harr
      | panic ch => exact harr
      | outgrown => exact harr
    | @jump c rest s s1 s2 e l h1 hf _ ih =>
      intro a w ha
      obtain ⟨e', a1, w1, ⟨rfl, hat⟩, harr⟩ := h1 g hg n a w (fun e' a' w' => e' = .goto l ∧ AtS P L g s1 a' w') ha (fun a' w' h' => ⟨rfl, h'⟩) b (.inScope B :: k) cs hro hb hr
      obtain ⟨e2, a2, w2, hq2, harr2⟩ := ih hQ a1 w1 hat
      exact ⟨e2, a2, w2, hq2, .of_steps (harr.1 _ (by simp [gotoIn, hf])) harr2⟩
  obtain ⟨e', a', w', hq, harr⟩ := key B s h0 a w ha
  exact ⟨e', a', w', hq, .of_steps (.one (fenced_calm hb hr rfl) stepR_scope) harr⟩

theorem seq_cum {ops : Array Oper} {s0 : AS} {δ : Nat → Dl} : ∀ {i : Nat} {s s' : AS} {δs : List Dl}, Seq P L r ops i s δs s' → (∀ k, k < δs.length → δs[k]? = some (δ (i + k))) →
    s = ⟨cumT ops δ (fun _ => true) s0.tm i, cumH δ (fun _ => true) s0.hp i, idAt δ s0.nx i, s0.ys, s0.mks⟩ →
    (∀ (j : Nat) (o : Oper), i ≤ j → ops[j]? = some o → ActI P L r ops o (cumT ops δ (fun _ => true) s0.tm j) (cumH δ (fun _ => true) s0.hp j) (idAt δ s0.nx j) (δ j)) ∧
    s' = ⟨cumT ops δ (fun _ => true) s0.tm ops.size, cumH δ (fun _ => true) s0.hp ops.size, idAt δ s0.nx ops.size, s0.ys, s0.mks⟩ := by
  intro i s s' δs h
  induction h with
  | nil hi =>
    intro _ hs
    subst hi
    exact ⟨fun j o hj ho => absurd (Array.getElem?_eq_some_iff.1 ho).1 (by omega), hs⟩
  | @cons i o s s' δ' δs ho hact _ ih =>
    intro hδ hs
    have h0 := hδ 0 (by simp)
    simp only [List.getElem?_cons_zero, Option.some.injEq, Nat.add_zero] at h0
    subst h0
    obtain ⟨h1, h2⟩ := ih (fun k hk => by
      have := hδ (k + 1) (by simp; omega)
      simp only [List.getElem?_cons_succ] at this
      rw [this]; congr 2; omega) (by subst hs; simp [cumT, cumH, idAt, dstAt, ho])
    refine ⟨fun j o' hj ho' => ?_, h2⟩
    rcases Nat.lt_or_ge i j with h | h
    · exact h1 j o' h ho'
    · have : j = i := by omega
      subst this
      rw [ho] at ho'; cases ho'
      subst hs
      exact hact

theorem seq_len {ops : Array Oper} : ∀ {i : Nat} {s s' : AS} {δs : List Dl}, Seq P L r ops i s δs s' → i + δs.length = ops.size := by
  intro i s s' δs h
  induction h with
  | nil hi => simpa using hi
  | cons _ _ _ ih => simp only [List.length_cons]; omega

instance : Inhabited Dl := ⟨⟨.tup [], [], [], 0⟩⟩

theorem Runs.regionT {id : Nat} {ops : Array Oper} {s s' : AS} (h : SeqT P L r N ops 0 s s') : Runs P L r N (.region id ops false) s .normal s' :=
  fun g hg n a w Q ha hQ => wpIn_region (by
    have := seqT_text (n := n) (Q := Q) hg h a w ha hQ
    rw [List.range_eq_range']
    simpa using this)

theorem Runs.region {id : Nat} {ops : Array Oper} {s s' : AS} {δs : List Dl} (h : Seq P L r ops 0 s δs s') (hd : dstOk ops N) : Runs P L r N (.region id ops false) s .normal s' :=
  Runs.regionT (seq_seqT hd h)

theorem Runs.region_any {id : Nat} {ops : Array Oper} {s s' : AS} {δs : List Dl} (hm : P.follows .mixedOrders = true) (h : Seq P L r ops 0 s δs s') (hd : dstOk ops N)
    (hO : Ordered ops (fun i => footOf (δs.getD i default))) : Runs P L r N (.region id ops true) s .normal s' :=
  fun g hg n a w Q ha hQ => wpIn_region_any hm (by
    obtain ⟨h1, h2⟩ := seq_cum (s0 := s) (δ := fun i => δs.getD i default) h (fun k hk => by simp [List.getD_eq_getElem?_getD, List.getElem?_eq_getElem hk]) rfl
    obtain ⟨ob, S, hi⟩ := ha
    refine any_sound (g := g.wy s) (s := s) (δ := fun i => δs.getD i default) (by rw [show (g.wy s).N = g.N from rfl, hg]; exact hd) hO (fun i o ho => h1 i o (Nat.zero_le _) ho) (by subst h2; exact hQ) ops.size _ a _ (by simp) ?_ ?_ ?_
    · simp
    · intro i o ho hl
      have := (Array.getElem?_eq_some_iff.1 ho).1
      simp [this] at hl
    · have hf : ∀ j, j < ops.size → (Array.replicate ops.size false).getD j true = false := fun j hj => by simp [hj]
      have hT : cumT ops (fun i => δs.getD i default) (fun j => (Array.replicate ops.size false).getD j true) s.tm ops.size = s.tm := by
        have : ∀ n, n ≤ ops.size → cumT ops (fun i => δs.getD i default) (fun j => (Array.replicate ops.size false).getD j true) s.tm n = s.tm := fun n => by
          induction n with
          | zero => intro _; rfl
          | succ n ih => intro hn; simp only [cumT, hf n (by omega), Bool.false_eq_true, if_false]; exact ih (by omega)
        exact this _ (Nat.le_refl _)
      have hH : cumH (fun i => δs.getD i default) (fun j => (Array.replicate ops.size false).getD j true) s.hp ops.size = s.hp := by
        have : ∀ n, n ≤ ops.size → cumH (fun i => δs.getD i default) (fun j => (Array.replicate ops.size false).getD j true) s.hp n = s.hp := fun n => by
          induction n with
          | zero => intro _; rfl
          | succ n ih => intro hn; simp only [cumH, hf n (by omega), Bool.false_eq_true, if_false]; exact ih (by omega)
        exact this _ (Nat.le_refl _)
      rw [hT, hH]
      refine ⟨ob, S, ?_⟩
      have hi' : Inv P L (g.wy s) s.tm s.hp (s.nx ≤ ·) a { w with drawn := w.drawn + 1 } ob S := hi.heap rfl
      exact ⟨hi'.rs.weak (fun _ _ h => h) (fun _ _ h => h) (fun o ho => ho.1), hi'.ext, hi'.keep, hi'.defs, hi'.xs, hi'.size, hi'.news, hi'.own⟩)

end
end Go.Ab

/- NAMES OF OBJECTS MAY BE CHANGED; what holds no names stands for the same in any table. -/
namespace Go.Ab

mutual
/-- all names in a value are such -/
def A.refs (q : Nat → Prop) : A → Prop
  | .st fs => A.refsL q fs
  | .sl _ xs => A.refsL q xs
  | .own o _ _ _ => q o
  | .ptr o _ _ _ => q o
  | .iptr x => A.refs q x
  | .fn _ a b => A.refsL q a ∧ A.refsL q b
  | .iface _ v => A.refs q v
  | .tup vs => A.refsL q vs
  | .int _ _ => True
  | .bool _ => True
  | .str _ => True
  | .nilsl => True
  | .nilptr => True
  | .nilfn => True
  | .nilmp => True
  | .xo _ o => q o
  | .nilif => True
def A.refsL (q : Nat → Prop) : List A → Prop
  | [] => True
  | x :: l => A.refs q x ∧ A.refsL q l
end

mutual
def A.ren (σ : Nat → Nat) : A → A
  | .st fs => .st (A.renL σ fs)
  | .sl e xs => .sl e (A.renL σ xs)
  | .own o v f n => .own (σ o) v f n
  | .ptr o v p s => .ptr (σ o) v p s
  | .iptr x => .iptr (A.ren σ x)
  | .fn f a b => .fn f (A.renL σ a) (A.renL σ b)
  | .iface t v => .iface t (A.ren σ v)
  | .tup vs => .tup (A.renL σ vs)
  | .int k n => .int k n
  | .bool b => .bool b
  | .str s => .str s
  | .nilsl => .nilsl
  | .nilptr => .nilptr
  | .nilfn => .nilfn
  | .nilmp => .nilmp
  | .xo k o => .xo k (σ o)
  | .nilif => .nilif
def A.renL (σ : Nat → Nat) : List A → List A
  | [] => []
  | x :: l => A.ren σ x :: A.renL σ l
end

theorem renL_eq (σ : Nat → Nat) (l : List A) : A.renL σ l = l.map (A.ren σ) := by
  induction l with
  | nil => rfl
  | cons x l ih => simp [A.renL, ih]

theorem refsL_iff {q : Nat → Prop} {l : List A} : A.refsL q l ↔ ∀ x ∈ l, A.refs q x := by
  induction l with
  | nil => simp [A.refsL]
  | cons x l ih => simp [A.refsL, ih]

mutual
theorem ren_shp (σ : Nat → Nat) : ∀ x : A, (x.ren σ).shp = x.shp
  | .st fs => by simp only [A.ren, A.shp, ren_shps σ fs]
  | .sl _ _ | .own .. | .ptr .. | .iptr _ | .fn .. | .iface .. | .int .. | .bool _ | .str _ | .nilsl | .nilptr | .nilfn | .nilmp | .nilif | .xo .. | .tup _ => by simp only [A.ren, A.shp]
theorem ren_shps (σ : Nat → Nat) : ∀ l : List A, A.shps (A.renL σ l) = A.shps l
  | [] => rfl
  | x :: l => by simp only [A.renL, A.shps, ren_shp σ x, ren_shps σ l]
end

theorem ren_isSt (σ : Nat → Nat) (x : A) : (x.ren σ).isSt = x.isSt := by cases x <;> rfl
theorem ren_isTup (σ : Nat → Nat) (x : A) : (x.ren σ).isTup = x.isTup := by cases x <;> rfl

section
variable {P : Program} {w : World} {ob obc : Nat → Option OI} {S : Nat → Prop} {σ : Nat → Nat}

mutual
theorem RC_ren : ∀ (x : A) (cs : List Value), x.refs (fun i => ob (σ i) = obc i) → (RC P w ob S (x.ren σ) cs ↔ RC P w obc S x cs)
  | .st fs, cs, h => RCs_ren fs cs h
  | .sl e xs, cs, h => by
    have hs : ∀ cl, RCs P w ob S (A.renL σ xs) cl ↔ RCs P w obc S xs cl := fun cl => RCs_ren xs cl h
    have hl : (A.renL σ xs).length = xs.length := by simp [renL_eq]
    have hz : A.renL σ xs = [] ↔ xs = [] := by simp [renL_eq]
    have hw : (∀ x ∈ A.renL σ xs, x.shp.width = esz P e) ↔ ∀ x ∈ xs, x.shp.width = esz P e := by
      rw [renL_eq]; simp [ren_shp]
    simp only [A.ren, RC, hs, hl, hz, hw]
  | .own o v f n, cs, h => by simp only [A.refs] at h; simp only [A.ren, RC, RCown, h]
  | .ptr o v p s, cs, h => by simp only [A.refs] at h; simp only [A.ren, RC, RCptr, h]
  | .iptr x, cs, h => by
    have hs : ∀ cl, RC P w ob S (A.ren σ x) cl ↔ RC P w obc S x cl := fun cl => RC_ren x cl h
    simp only [A.ren, RC, hs]
  | .fn f a b, cs, h => by
    have h1 : ∀ cl, RVl P w ob S (A.renL σ a) cl ↔ RVl P w obc S a cl := fun cl => RVl_ren a cl h.1
    have h2 : ∀ cl, RVl P w ob S (A.renL σ b) cl ↔ RVl P w obc S b cl := fun cl => RVl_ren b cl h.2
    simp only [A.ren, RC, h1, h2]
  | .iface t v, cs, h => by
    have hs : ∀ cl, RC P w ob S (A.ren σ v) cl ↔ RC P w obc S v cl := fun cl => RC_ren v cl h
    simp only [A.ren, RC, hs, ren_isSt]
  | .tup _, cs, h => Iff.rfl
  | .int .., _, _ => Iff.rfl
  | .bool _, _, _ => Iff.rfl
  | .str _, _, _ => Iff.rfl
  | .nilsl, _, _ => Iff.rfl
  | .nilptr, _, _ => Iff.rfl
  | .nilfn, _, _ => Iff.rfl
  | .nilmp, _, _ => Iff.rfl
  | .xo k o, cs, h => by simp only [A.refs] at h; simp only [A.ren, RC, RCxo, h]
  | .nilif, _, _ => Iff.rfl
theorem RCs_ren : ∀ (l : List A) (cs : List Value), A.refsL (fun i => ob (σ i) = obc i) l → (RCs P w ob S (A.renL σ l) cs ↔ RCs P w obc S l cs)
  | [], _, _ => Iff.rfl
  | x :: l, cs, h => by
    have h1 : ∀ c, RC P w ob S (A.ren σ x) c ↔ RC P w obc S x c := fun c => RC_ren x c h.1
    have h2 : ∀ c, RCs P w ob S (A.renL σ l) c ↔ RCs P w obc S l c := fun c => RCs_ren l c h.2
    simp only [A.renL, RCs, h1, h2]
theorem RVl_ren : ∀ (l : List A) (cs : List Value), A.refsL (fun i => ob (σ i) = obc i) l → (RVl P w ob S (A.renL σ l) cs ↔ RVl P w obc S l cs)
  | [], _, _ => Iff.rfl
  | x :: l, cs, h => by
    have h1 : ∀ c, RC P w ob S (A.ren σ x) c ↔ RC P w obc S x c := fun c => RC_ren x c h.1
    have h2 : ∀ c, RVl P w ob S (A.renL σ l) c ↔ RVl P w obc S l c := fun c => RVl_ren l c h.2
    simp only [A.renL, RVl, h1, h2, ren_isSt]
end

theorem RV_ren {x : A} {v : Value} (h : x.refs (fun i => ob (σ i) = obc i)) : RV P w ob S (x.ren σ) v ↔ RV P w obc S x v := by
  cases x
  case tup vs =>
    have h1 : ∀ cl, RVl P w ob S (A.renL σ vs) cl ↔ RVl P w obc S vs cl := fun cl => RVl_ren vs cl h
    simp only [A.ren, RV, h1]
  all_goals
    have h1 := fun c => RC_ren (P := P) (w := w) (S := S) _ c h
    have h2 := ren_isSt σ
    simp only [A.ren] at h1
    simp only [A.ren, RV, RV1, h1]
    try simp [A.isSt]

mutual
theorem refs_mono {q q' : Nat → Prop} (hq : ∀ i, q i → q' i) : ∀ x : A, x.refs q → x.refs q'
  | .st fs, h => refsL_mono hq fs h
  | .sl _ xs, h => refsL_mono hq xs h
  | .own .., h => hq _ h
  | .ptr .., h => hq _ h
  | .iptr x, h => refs_mono hq x h
  | .fn _ a b, h => ⟨refsL_mono hq a h.1, refsL_mono hq b h.2⟩
  | .iface _ v, h => refs_mono hq v h
  | .tup vs, h => refsL_mono hq vs h
  | .int .., _ => trivial
  | .bool _, _ => trivial
  | .str _, _ => trivial
  | .nilsl, _ => trivial
  | .nilptr, _ => trivial
  | .nilfn, _ => trivial
  | .nilmp, _ => trivial
  | .xo .., h => hq _ h
  | .nilif, _ => trivial
theorem refsL_mono {q q' : Nat → Prop} (hq : ∀ i, q i → q' i) : ∀ l : List A, A.refsL q l → A.refsL q' l
  | [], _ => trivial
  | x :: l, h => ⟨refs_mono hq x h.1, refsL_mono hq l h.2⟩
end

def Ob.ren (σ : Nat → Nat) (x : Ob) : Ob := { x with val := x.val.ren σ }

variable {L : Lay}

theorem RObj_ren {x : Ob} {oi : OI} (h : x.val.refs (fun i => ob (σ i) = obc i)) : RObj P L w ob S (x.ren σ) oi ↔ RObj P L w obc S x oi := by
  unfold RObj
  refine and_congr Iff.rfl (and_congr Iff.rfl ?_)
  cases oi.blk with
  | none =>
    simp only [Ob.ren]
    refine and_congr ?_ Iff.rfl
    cases hx : x.val <;> simp [A.ren]
    rename_i fs
    rw [renL_eq]; simp
  | some b =>
    refine exists_congr fun arr => exists_congr fun t => and_congr Iff.rfl ?_
    cases he : x.e with
    | none => simp only [Ob.ren, he, ren_shp, RC_ren x.val _ h]
    | some e =>
      simp only [Ob.ren, he]
      constructor
      · rintro ⟨xs, de, cl, rest, q1, q2, q3, q4, q5, q6, q7, q8, q9⟩
        cases hx : x.val <;> simp only [hx, A.ren, reduceCtorEq, A.st.injEq] at q1
        rename_i fs
        subst q1
        rw [hx] at h
        rw [renL_eq] at q3 q5 q9
        simp only [List.length_map] at q5 q9
        exact ⟨fs, de, cl, rest, rfl, q2, fun y hy => by rw [← ren_shp σ]; exact q3 _ (List.mem_map_of_mem hy), q4, q5, q6, (RCs_ren fs cl h).1 q7, q8, by simpa [renL_eq] using q9⟩
      · rintro ⟨xs, de, cl, rest, q1, q2, q3, q4, q5, q6, q7, q8, q9⟩
        rw [q1] at h ⊢
        refine ⟨A.renL σ xs, de, cl, rest, rfl, q2, fun y hy => ?_, q4, by simpa [renL_eq] using q5, q6, (RCs_ren xs cl h).2 q7, q8, by simpa [renL_eq] using q9⟩
        rw [renL_eq] at hy
        obtain ⟨z, hz, rfl⟩ := List.mem_map.1 hy
        rw [ren_shp]; exact q3 z hz

end
end Go.Ab

/- THE RECORDS' RUNS, IMPORTED. -/
namespace Go.Ab
end Go.Ab

/- SPECIAL OBJECTS ARE TURNED; FRAMES WITHIN FRAMES; MARKS ARE TAKEN. -/
namespace Go.Ab
section
variable {P : Program} {L : Lay} {g : Gh} {tm : Nat → Option A} {hp : Hp} {fr : Nat → Prop} {a : Act} {w : World} {ob : Nat → Option OI} {S : Nat → Prop}

theorem Ext.putObj {b : Nat} (o' : Obj) (hS : ¬ S b) : Ext w ob S (w.putObj b o') ob S :=
  ⟨by simp, fun c hc => ⟨hc, World.putObj_heap_other (by rintro rfl; exact hS hc)⟩, fun o oi ho => ⟨oi, ho, Nat.le_refl _, fun _ => rfl⟩⟩

def upy (ys : Nat → Option XO) (o : Nat) (x : Option XO) : Nat → Option XO := fun k => if k = o then x else ys k

theorem Inv.putObj (i : Inv P L g tm hp fr a w ob S) {o : Nat} {x : XO} {oi : OI} {b : Nat} (hx : g.ys o = some x) (ho : ob o = some oi) (hb : oi.blk = some b) {obj : Obj} {x' : Option XO}
    (hk : ∀ y, x' = some y → XOk P (w.putObj b obj) ob S y b) (hd : o ∉ g.mks) (hnc : ∀ c t f, obj ≠ .cells c t f := by intro _ _ _ h; cases h) : Inv P L { g with ys := upy g.ys o x' } tm hp fr a (w.putObj b obj) ob S := by
  have hspec : ∀ {w : World} {ob : Nat → Option OI} {S : Nat → Prop} {x : XO} {b : Nat}, XOk P w ob S x b → ∀ c t f, w.heap[b]? ≠ some (.cells c t f) := by
    intro w ob S x b h c t f
    cases x with
    | loop y => obtain ⟨_, _, _, h, _⟩ := h; rw [h]; intro h; cases h
    | dfr => have h : w.heap[b]? = _ := h; rw [h]; intro h; cases h
    | map ks => have h : w.heap[b]? = _ := h; rw [h]; intro h; cases h
    | iter m since seen stepped => obtain ⟨_, _, _, _, h⟩ := h; rw [h]; intro h; cases h
  obtain ⟨h1, oi', b', h2, h3, h4, h5, h6, h7⟩ := i.xs o x hx
  rw [ho] at h2; cases h2
  rw [hb] at h4; cases h4
  have e : Ext w ob S (w.putObj b obj) ob S := Ext.putObj obj h5
  have hne : ∀ k oik c, ob k = some oik → oik.blk = some c → k ≠ o → c ≠ b := fun k oik c q1 q2 q3 q4 => by
    subst q4; exact q3 (i.rs.inj k o oik oi c q1 ho q2 hb)
  refine ⟨⟨fun t y ht => RV.mono e (i.rs.tm t y ht), fun k y hk' => ?_, i.rs.inj, fun k oik c q1 q2 => by simpa using i.rs.blk k oik c q1 q2, fun c hc => by simpa using i.rs.st c hc, i.rs.fr, fun c hc => i.rs.mine c (by simpa using hc)⟩,
    i.ext.trans e, ⟨i.keep.1.trans ((Same.refl w).putObj (hspec h7) hnc), fun c hc => ?_⟩, ⟨i.defs.1, i.defs.2.congr fun k hk' h => ⟨?_, rfl⟩⟩, fun k y hy => ?_, i.size, i.news, i.own⟩
  · obtain ⟨oik, q1, q2, q3, q4⟩ := i.rs.hp k y hk'
    refine ⟨oik, q1, RObj.mono e (fun c hc => World.putObj_heap_other (hne k oik c q1 hc fun h => ?_)) q2, q3, q4⟩
    subst h; rw [h1] at hk'; cases hk'
  · rw [World.putObj_heap_other (by rintro rfl; exact hc h6)]
    exact i.keep.2 c hc
  · have : k ≠ o := by rintro rfl; exact hd hk'
    simp only [upy, this, if_false]; exact h
  · by_cases hko : k = o
    · subst hko
      simp only [upy, if_true] at hy
      exact ⟨h1, oi, b, ho, h3, hb, h5, h6, hk y hy⟩
    · simp only [upy, hko, if_false] at hy
      obtain ⟨q1, oik, c, q2, q3, q4, q5, q6, q7⟩ := i.xs k y hy
      exact ⟨q1, oik, c, q2, q3, q4, q5, q6, q7.mono e (World.putObj_heap_other (hne k oik c q2 q4 hko))⟩

/-- another frame starts -/
theorem Inv.inner (i : Inv P L g tm hp fr a w ob S) {tmps : Array Value} {N : Nat} (hN : tmps.size = N) {tm2 : Nat → Option A} (h : ∀ t x, tm2 t = some x → RV P w ob S x (tmps.getD t undef)) :
    Inv P L { g with w := w, ob := ob, S := S, D := [], N := N, mks := [] } tm2 hp fr { tmps := tmps, defers := [] } w ob S :=
  ⟨⟨h, i.rs.hp, i.rs.inj, i.rs.blk, i.rs.st, i.rs.fr, i.rs.mine⟩, Ext.refl _ _ _, ⟨Same.refl _, fun _ _ => rfl⟩, ⟨List.nodup_nil, rfl⟩, i.xs, hN, fun _ h => .inl h, fun _ oi _ h1 h2 => .inr ⟨oi, h1, h2⟩⟩

/-- it has ended -/
theorem Inv.outer (i : Inv P L g tm hp fr a w ob S) {D2 : List Deferred} {N2 : Nat} {ys' : Nat → Option XO} {mks2 : List Nat} {tm2 : Nat → Option A} {hp2 : Hp} {fr2 : Nat → Prop} {a2 : Act} {w2 : World} {ob2 : Nat → Option OI} {S2 : Nat → Prop}
    (j : Inv P L { g with w := w, ob := ob, S := S, D := D2, N := N2, ys := ys', mks := mks2 } tm2 hp2 fr2 a2 w2 ob2 S2) (hmk : ∀ o ∈ g.mks, ys' o = some .dfr) : Inv P L { g with ys := ys' } tm hp2 fr2 a w2 ob2 S2 := by
  refine ⟨⟨fun t x ht => RV.mono j.ext (i.rs.tm t x ht), j.rs.hp, j.rs.inj, j.rs.blk, j.rs.st, j.rs.fr, j.rs.mine⟩, i.ext.trans j.ext, ⟨i.keep.1.trans j.keep.1, fun b hb => (j.keep.2 b hb).trans (i.keep.2 b hb)⟩,
    ⟨i.defs.1, i.defs.2.congr fun o ho h => ⟨hmk o ho, ?_⟩⟩, j.xs, i.size, fun b hb => ?_, fun o oi b ho hb => ?_⟩
  · obtain ⟨-, oi, b, h2, h3, -⟩ := i.xs o _ h
    obtain ⟨-, oi2, b2, k2, k3, -⟩ := j.xs o _ (hmk o ho)
    obtain ⟨oi', q1, q2, q3⟩ := j.ext.tab o oi h2
    rw [q1] at k2; cases k2
    rw [q1, h2, q3 (by rw [k3, h3])]
  · rcases j.news b hb with h | h
    · exact i.news b h
    · exact .inr h
  · rcases j.own o oi b ho hb with h | ⟨oi0, h1, h2⟩
    · exact .inl (Nat.le_trans i.ext.size h)
    · exact i.own o oi0 b h1 h2

/-- the marks are taken, one after the other -/
theorem leaves_marks {F : Fence} {n : Nat} {fn : Func} {R : Ending → World → Prop} : ∀ (l : List Nat) (g : Gh) (ds : List Deferred) (w : World), g.D = [] → g.mks = l → ds = a.defers → Inv P L g tm hp fr a w ob S →
    (∀ w', Inv P L { g with ys := fun k => if k ∈ l then none else g.ys k, mks := [] } tm hp fr { a with defers := [] } w' ob S → LeavesIn F n P fn a.tmps R [] .returning w') → LeavesInM F n P fn a.tmps R ds .returning w := by
  intro l
  induction l generalizing a with
  | nil =>
    intro g ds w hD hl hds i h
    have hm := i.defs.2
    rw [hl] at hm
    simp only [Marks, hD] at hm
    rw [hds, hm]
    have e : ({ g with ys := fun k => if k ∈ ([] : List Nat) then none else g.ys k, mks := [] } : Gh) = g := by cases g; simp only [List.not_mem_nil, if_false]; simp only at hl; subst hl; rfl
    have e2 : ({ a with defers := [] } : Act) = a := by cases a; simp only at hm; subst hm; rfl
    rw [e, e2] at h
    exact h w i
  | cons o l ih =>
    intro g ds w hD hl hds i h
    obtain ⟨hnd, hm⟩ := i.defs
    rw [hl] at hm hnd
    obtain ⟨b, oi, ds', h1, h2, h3, h4, h5, h6⟩ := hm
    rw [List.nodup_cons] at hnd
    obtain ⟨q1, oi2, b2, q2, q3, q4, q5, q6, q7⟩ := i.xs o _ h2
    rw [h3] at q2; cases q2
    rw [h5] at q4; cases q4
    rw [hds, h1]
    refine ⟨by simp, .inl ⟨b, w.putObj b (.deferred none), rfl, run_takeDeferred q7, ?_⟩⟩
    have i0 : Inv P L { g with mks := l } tm hp fr { a with defers := ds' } w ob S := ⟨i.rs, i.ext, i.keep, ⟨hnd.2, h6⟩, i.xs, i.size, i.news, i.own⟩
    have i1 := i0.putObj (o := o) (x := .dfr) (obj := .deferred none) (x' := none) h2 h3 h5 (fun y hy => by cases hy) hnd.1
    refine ih (a := { a with defers := ds' }) { g with mks := l, ys := upy g.ys o none } ds' _ hD rfl rfl i1 fun w' h' => h w' ?_
    have e : (fun k => if k ∈ l then none else upy g.ys o none k) = fun k => if k ∈ o :: l then none else g.ys k := by
      funext k
      simp only [upy, List.mem_cons]
      by_cases e1 : k = o <;> by_cases e2 : k ∈ l <;> simp [e1, e2]
    simp only at h'
    rw [e] at h'
    exact h'

end
end Go.Ab

/- A CONTRACT FROM A BODY. -/
namespace Go.Ab

def packA : List A → A
  | [x] => x
  | vs => .tup vs

/-- one result: a temporary, or a variable that is read at the end -/
def resOne (L : Lay) (s : AS) : ResultVar → Option (Prop × A)
  | .tmp t => (s.tm t).map fun v => ((True : Prop), v)
  | .cell a t => (L t).bind fun d => match s.tm a with
    | some (.ptr o ver p _) => (s.hp o).bind fun ob => (ob.val.sub p).bind fun v => some (ob.ver = ver ∧ v.shp = d.sh, v)
    | _ => none

def resAll (L : Lay) (s : AS) : List ResultVar → Option (Prop × List A)
  | [] => some ((True : Prop), [])
  | x :: l => (resOne L s x).bind fun r => (resAll L s l).bind fun q => some (r.1 ∧ q.1, r.2 :: q.2)

section
variable {P : Program} {L : Lay}

def resF (tmps : Array Value) : ResultVar → Sem Value
  | .tmp t => pure (tmps.getD t undef)
  | .cell a t => do loadVar t (← asAddr (tmps.getD a undef))

theorem resOne_run (hL : LOk P L) {mine fr : Nat → Prop} {s : AS} {a : Act} {w : World} {ob : Nat → Option OI} {S : Nat → Prop} (r : RS P L mine s.tm s.hp fr a.tmps w ob S) {x : ResultVar} {c : Prop} {v : A} (h : resOne L s x = some (c, v)) (hc : c) (ht : v.isTup = false) :
    ∃ u, (resF a.tmps x).run P w = .ok u w ∧ RV1 P w ob S v u := by
  have hnt : ∀ vs, v ≠ .tup vs := fun vs e => by subst e; cases ht
  cases x with
  | tmp t =>
    simp only [resOne, Option.map_eq_some_iff] at h
    obtain ⟨y, hy, h⟩ := h
    cases h
    exact ⟨a.tmps.getD t undef, by simp [resF], (RV.one hnt).1 (r.tm t v hy)⟩
  | cell k t =>
    simp only [resOne, Option.bind_eq_some_iff] at h
    obtain ⟨d, hd, h⟩ := h
    split at h
    · rename_i o ver p sh hx
      simp only [Option.bind_eq_some_iff] at h
      obtain ⟨z, hz, y, hy, h⟩ := h
      cases h
      obtain ⟨c1, c2⟩ := hc
      obtain ⟨b, off, cl, oi, e1, e2, e3, -⟩ := obj_part r hz c1 hy (r.tm k _ hx)
      have hl := run_loadVar_of (hL t d hd) e2 (by rw [← c2]; exact RC.len _ _ e3)
      rw [← c2] at hl
      have e1' : a.tmps.getD k undef = .pointer (some ⟨b, off, none⟩) := e1
      exact ⟨mkVal v.shp.isNode cl, by simp only [resF, e1']; simp [asAddr, hl], RV1.mk e3⟩
    · cases h

theorem run_results (hL : LOk P L) {mine fr : Nat → Prop} {s : AS} {a : Act} {w : World} {ob : Nat → Option OI} {S : Nat → Prop} (r : RS P L mine s.tm s.hp fr a.tmps w ob S) {fn : Func} {c : Prop} {rs : List A}
    (h : resAll L s fn.results.toList = some (c, rs)) (hc : c) (ht : ∀ v ∈ rs, v.isTup = false) :
    ∃ arr : Array Value, (results fn a.tmps).run P w = .ok (if h : arr.size = 1 then arr[0] else .tuple arr) w ∧ RVl P w ob S rs arr.toList := by
  have key : ∀ (l : List ResultVar) (c : Prop) (rs : List A), resAll L s l = some (c, rs) → c → (∀ v ∈ rs, v.isTup = false) → ∃ vs : List Value, (l.mapM (resF a.tmps)).run P w = .ok vs w ∧ RVl P w ob S rs vs := by
    intro l
    induction l with
    | nil => intro c rs h _ _; simp only [resAll, Option.some.injEq, Prod.mk.injEq] at h; obtain ⟨-, rfl⟩ := h; exact ⟨[], by simp, rfl⟩
    | cons x l ih =>
      intro c rs h hc ht
      simp only [resAll, Option.bind_eq_some_iff] at h
      obtain ⟨⟨c1, v⟩, h1, ⟨c2, us⟩, h2, h3⟩ := h
      cases h3
      obtain ⟨u, e1, e2⟩ := resOne_run hL r h1 hc.1 (ht v (by simp))
      obtain ⟨vs, e3, e4⟩ := ih c2 us h2 hc.2 fun y hy => ht y (by simp [hy])
      exact ⟨u :: vs, by simp [List.mapM_cons, e1, e3], u, vs, rfl, e2.1, e2.2, e4⟩
  obtain ⟨vs, e1, e2⟩ := key _ c rs h hc ht
  refine ⟨vs.toArray, ?_, by simpa using e2⟩
  have hm : (fn.results.mapM (resF a.tmps)).run P w = .ok vs.toArray w := by
    rw [Array.mapM_eq_mapM_toList]
    simp [e1]
  have hres : results fn a.tmps = (do let vs ← fn.results.mapM (resF a.tmps); pure (if h : vs.size = 1 then vs[0] else .tuple vs)) := by
    unfold results
    congr 1
  rw [hres, Sem.run_bind, hm]
  rfl

theorem RVl.len {w : World} {ob : Nat → Option OI} {S : Nat → Prop} : ∀ {l : List A} {c : List Value}, RVl P w ob S l c → c.length = l.length
  | [], c, h => by simp only [RVl] at h; subst h; rfl
  | x :: l, c, h => by
    obtain ⟨v, vs, h1, h2, h3, h4⟩ := h
    simp [h1, RVl.len h4]

theorem RV_pack {w : World} {ob : Nat → Option OI} {S : Nat → Prop} {rs : List A} (ht : ∀ v ∈ rs, v.isTup = false) {arr : Array Value} (h : RVl P w ob S rs arr.toList) :
    RV P w ob S (packA rs) (if h : arr.size = 1 then arr[0] else .tuple arr) := by
  have hl := RVl.len h
  rw [Array.length_toList] at hl
  cases rs with
  | nil => simp only [List.length_nil] at hl; simp only [hl, packA]; exact ⟨arr, rfl, h⟩
  | cons x l =>
    cases l with
    | nil =>
      simp only [List.length_cons, List.length_nil] at hl
      obtain ⟨v, vs, h1, h2, h3, h4⟩ := h
      simp only [hl, packA, dite_true]
      have : arr[0]'(by omega) = v := by
        have h5 : arr.toList[0]? = some v := by rw [h1]; rfl
        rw [Array.getElem?_toList, Array.getElem?_eq_some_iff] at h5
        exact h5.2
      rw [this]
      exact (RV.one (fun vs e => by have := ht x (by simp); rw [e] at this; cases this)).2 ⟨h2, h3⟩
    | cons y l =>
      simp only [List.length_cons] at hl
      have h1 : arr.size ≠ 1 := by omega
      simp only [h1, packA, dite_false]
      exact ⟨arr, rfl, h⟩

theorem look_some_mem {α : Type} {l : List (Nat × α)} {k : Nat} {x : α} (h : look l k = some x) : (k, x) ∈ l := by
  induction l with
  | nil => simp [look] at h
  | cons p l ih =>
    obtain ⟨i, y⟩ := p
    simp only [look] at h
    split at h
    · rename_i e; cases h; subst e; simp
    · simp [ih h]

theorem look_none_mem {α : Type} {l : List (Nat × α)} {k : Nat} (h : look l k = none) : ∀ p ∈ l, p.1 ≠ k := by
  induction l with
  | nil => simp
  | cons p l ih =>
    obtain ⟨i, y⟩ := p
    simp only [look] at h
    split at h
    · cases h
    · rename_i e
      intro q hq
      rcases List.mem_cons.1 hq with rfl | hq
      · exact fun h => e h.symm
      · exact ih h q hq

/-- the callee's names in the caller's -/
def nameOf (ids : Nat → Nat) (k nx : Nat) (out : List Nat) (i : Nat) : Nat := if i < k then ids i else nx + out.idxOf i

theorem callD_body (hL : LOk P L) {f : FuncId} {fn : Func} {c : Code} (hf : P.funcs[f]? = some fn) (hname : (fn.name == "runtime.NumGoroutine") = false) (hb : fn.body = some c)
    {vs0 : List A} (hlen : vs0.length ≤ fn.ntmps) {k : Nat} {h0 h1 : Nat → Ob} {out : List Nat} (hout : ∀ i ∈ out, k ≤ i)
    (hv0 : A.refsL (· < k) vs0) (hh0 : ∀ i, i < k → (h0 i).val.refs (· < k))
    {s' : AS} {e : Exit} (hrun : Runs P L none fn.ntmps c ⟨fun t => vs0[t]?, fun i => if i < k then some (h0 i) else none, k, fun _ => none, []⟩ e s') (he : e = .ret ∨ e = .normal)
    {rs : List A} {cr : Prop} (hrs : resAll L s' fn.results.toList = some (cr, rs)) (hcr : cr) (htup : ∀ v ∈ rs, v.isTup = false)
    (hfin : ∀ i, (i < k ∨ i ∈ out) → s'.hp i = some (h1 i) ∧ (h1 i).val.refs (fun j => j < k ∨ j ∈ out)) (hrr : A.refsL (fun j => j < k ∨ j ∈ out) rs)
    (hfz : ∀ i, i < k → (h1 i).fz = false → (h0 i).fz = false) {ids : Nat → Nat} (hinj : ∀ i j, i < k → j < k → ids i = ids j → i = j) {hp : Hp} {nx : Nat} (hhp : ∀ i, i < k → hp (ids i) = some ((h0 i).ren (nameOf ids k nx out))) :
    CallD P L f (vs0.map (A.ren (nameOf ids k nx out))) hp nx ⟨(packA rs).ren (nameOf ids k nx out), (List.range k).map (fun i => (ids i, (h1 i).ren (nameOf ids k nx out))) ++ out.map (fun i => (nx + out.idxOf i, (h1 i).ren (nameOf ids k nx out))), (List.range k).map ids, out.length⟩ := by
  intro hp' hh mine fr w ob S args rs0 hfr hargs
  right
  generalize hσ : nameOf ids k nx out = σ at *
  have hσ1 : ∀ i, i < k → σ i = ids i := fun i hi => by rw [← hσ]; simp [nameOf, hi]
  have hσ2 : ∀ i, i ∈ out → σ i = nx + out.idxOf i := fun i hi => by
    have := hout i hi
    rw [← hσ]; simp only [nameOf]; rw [if_neg (by omega)]
  have hhp' : ∀ i, i < k → hp' (ids i) = some ((h0 i).ren σ) := fun i hi => by
    rw [hh (ids i) (List.mem_map_of_mem (List.mem_range.2 hi))]; exact hhp i hi
  have hnew : ∀ i, i ∈ out → nx ≤ σ i ∧ σ i < nx + out.length := fun i hi => by
    rw [hσ2 i hi]
    exact ⟨by omega, by have := List.idxOf_lt_length_of_mem hi; omega⟩
  have hobnew : ∀ i, i ∈ out → ob (σ i) = none := fun i hi => rs0.fr _ (hfr _ (hnew i hi).1 (hnew i hi).2)
  have hobold : ∀ i, i < k → ∃ oi, ob (ids i) = some oi := fun i hi => let ⟨oi, h, _⟩ := rs0.hp _ _ (hhp' i hi); ⟨oi, h⟩
  -- the names do not run together
  have hσinj : ∀ i j, (i < k ∨ i ∈ out) → (j < k ∨ j ∈ out) → σ i = σ j → i = j := fun i j hi hj hij => by
    rcases hi with hi | hi <;> rcases hj with hj | hj
    · rw [hσ1 i hi, hσ1 j hj] at hij; exact hinj i j hi hj hij
    · obtain ⟨oi, ho⟩ := hobold i hi
      rw [← hσ1 i hi, hij, hobnew j hj] at ho; cases ho
    · obtain ⟨oi, ho⟩ := hobold j hj
      rw [← hσ1 j hj, ← hij, hobnew i hi] at ho; cases ho
    · rw [hσ2 i hi, hσ2 j hj] at hij
      have h3 : out.idxOf i = out.idxOf j := by omega
      have h4 := List.idxOf_lt_length_of_mem hi
      have h5 := List.idxOf_lt_length_of_mem hj
      have h6 : out[out.idxOf i] = i := List.getElem_idxOf h4
      have h7 : out[out.idxOf j] = j := List.getElem_idxOf h5
      rw [← h6, ← h7]; simp only [h3]
  let obc : Nat → Option OI := fun i => if i < k then ob (ids i) else none
  have hobc : ∀ i, i < k → obc i = ob (σ i) := fun i hi => by simp [obc, hi, hσ1 i hi]
  let minec : Nat → Prop := fun b => w.heap.size ≤ b ∨ ∃ i oi, i < k ∧ ob (ids i) = some oi ∧ oi.blk = some b
  have hal := RVl.len hargs
  rw [List.length_map] at hal
  have hrc : RS P L minec (fun t => vs0[t]?) (fun i => if i < k then some (h0 i) else none) (k ≤ ·) (args.toArray ++ Array.replicate (fn.ntmps - args.toArray.size) undef) w obc S := by
    refine ⟨fun t x ht => ?_, fun i x hi => ?_, fun i j oi oj b h1 h2 h3 h4 => ?_, fun i oi b h1 h2 => ?_, rs0.st, fun i hi => by simp [obc]; omega, fun b hb => .inl hb⟩
    · have ht' : t < vs0.length := (List.getElem?_eq_some_iff.1 ht).1
      obtain ⟨u, q1, q2⟩ := rvl_get hargs (k := t) (y := x.ren σ) (by rw [List.getElem?_map, ht]; rfl)
      have hu : (args.toArray ++ Array.replicate (fn.ntmps - args.toArray.size) undef).getD t undef = u := by
        have h1 : t < args.length := by omega
        rw [Array.getD_eq_getD_getElem?, Array.getElem?_append_left (by simpa using h1)]
        simp [q1]
      rw [hu]
      have hxt : ∀ vs, x ≠ .tup vs := fun vs e => by
        subst e
        exact q2.1.elim
      refine (RV_ren (σ := σ) (ob := ob) (refs_mono (fun i hi => (hobc i hi).symm) x (refsL_iff.1 hv0 x (List.mem_of_getElem? ht)))).1 ((RV.one ?_).2 q2)
      intro vs e
      cases x <;> simp [A.ren] at e
      exact hxt _ rfl
    · by_cases hk : i < k
      · simp only [hk, if_true, Option.some.injEq] at hi
        subst hi
        obtain ⟨oi, g1, g2, g3, g4⟩ := rs0.hp _ _ (hhp' i hk)
        refine ⟨oi, by simp [obc, hk, g1], (RObj_ren (refs_mono (fun j hj => (hobc j hj).symm) _ (hh0 i hk))).1 g2, fun hf b hb => ⟨(g3 hf b hb).1, .inr ⟨i, oi, hk, g1, hb⟩⟩, g4⟩
      · simp [hk] at hi
    · by_cases hi : i < k <;> by_cases hj : j < k <;> simp [obc, hi, hj] at h1 h2
      exact hinj i j hi hj (rs0.inj _ _ _ _ b h1 h2 h3 h4)
    · by_cases hi : i < k <;> simp [obc, hi] at h1
      exact rs0.blk _ _ b h1 h2
  have hsize : (args.toArray ++ Array.replicate (fn.ntmps - args.toArray.size) undef).size = fn.ntmps := by simp; omega
  let g : Gh := ⟨minec, w, obc, S, [], fn.ntmps, fun _ => none, []⟩
  have hat : At P L g (fun t => vs0[t]?) (fun i => if i < k then some (h0 i) else none) (k ≤ ·) { tmps := args.toArray ++ Array.replicate (fn.ntmps - args.toArray.size) undef, defers := [] } w :=
    ⟨obc, S, hrc, Ext.refl _ _ _, ⟨Same.refl _, fun _ _ => rfl⟩, ⟨List.nodup_nil, rfl⟩, (fun o x h => by cases h), hsize, fun b hb => .inl hb, fun o oi b h1 h2 => .inr ⟨oi, h1, h2⟩⟩
  refine ⟨by simp [callFunc, hf, hb]; intro h; simp [h] at hname, callsIn_wide.1 (callsIn_of_wp_marks (n := 0) hf hb trivial ?_ rfl)⟩
  refine hrun g rfl 0 _ w _ hat fun a' w0' hat' => ?_
  obtain ⟨obE, S', hE0⟩ := hat'
  have hfinal : LeavesInM Fence.wide 0 P fn a'.tmps (fun e w' => ∃ v ob' S'', e = .returned v ∧ Does P L w ob S ((List.range k).map (fun i => (ids i, (h1 i).ren σ)) ++ out.map (fun i => (nx + out.idxOf i, (h1 i).ren σ))) w' ob' S'' ∧ RV P w' ob' S'' ((packA rs).ren σ) v ∧
      Names hp' nx ⟨(packA rs).ren σ, (List.range k).map (fun i => (ids i, (h1 i).ren σ)) ++ out.map (fun i => (nx + out.idxOf i, (h1 i).ren σ)), (List.range k).map ids, out.length⟩) a'.defers .returning w0' := by
   refine leaves_marks s'.mks (g.wy s') a'.defers w0' rfl rfl rfl hE0 fun w' hE => ?_
   -- the values that come back
   obtain ⟨arr, hrun', hrvl⟩ := run_results hL hE.rs hrs hcr htup
   let dom : Nat → Prop := fun i => i < k ∨ i ∈ out
   classical
   let obn : Nat → Option OI := fun o => if h : ∃ i, dom i ∧ σ i = o then obE (Classical.choose h) else ob o
   have hobn : ∀ i, dom i → obn (σ i) = obE i := fun i hi => by
     have h : ∃ j, dom j ∧ σ j = σ i := ⟨i, hi, rfl⟩
     have hs := Classical.choose_spec h
     have : Classical.choose h = i := hσinj _ _ hs.1 hi hs.2
     simp only [obn, dif_pos h, this]
   have hobn' : ∀ o, (¬ ∃ i, dom i ∧ σ i = o) → obn o = ob o := fun o h => by simp only [obn, dif_neg h]
   have hwr1 : ∀ o x, look ((List.range k).map (fun i => (ids i, (h1 i).ren σ)) ++ out.map (fun i => (nx + out.idxOf i, (h1 i).ren σ))) o = some x → ∃ i, dom i ∧ σ i = o ∧ x = (h1 i).ren σ := fun o x h => by
     rcases List.mem_append.1 (look_some_mem h) with h | h
     · obtain ⟨i, hi, he⟩ := List.mem_map.1 h
       cases he
       exact ⟨i, .inl (List.mem_range.1 hi), hσ1 i (List.mem_range.1 hi), rfl⟩
     · obtain ⟨i, hi, he⟩ := List.mem_map.1 h
       cases he
       exact ⟨i, .inr hi, hσ2 i hi, rfl⟩
   have hwr2 : ∀ i, dom i → ∃ x, look ((List.range k).map (fun i => (ids i, (h1 i).ren σ)) ++ out.map (fun i => (nx + out.idxOf i, (h1 i).ren σ))) (σ i) = some x := fun i hi => by
     cases hl : look ((List.range k).map (fun i => (ids i, (h1 i).ren σ)) ++ out.map (fun i => (nx + out.idxOf i, (h1 i).ren σ))) (σ i) with
     | some x => exact ⟨x, rfl⟩
     | none =>
       have hn := look_none_mem hl
       rcases hi with hi | hi
       · exact absurd (hσ1 i hi).symm (hn (ids i, (h1 i).ren σ) (List.mem_append_left _ (List.mem_map.2 ⟨i, List.mem_range.2 hi, rfl⟩)))
       · exact absurd (hσ2 i hi).symm (hn (nx + out.idxOf i, (h1 i).ren σ) (List.mem_append_right _ (List.mem_map.2 ⟨i, hi, rfl⟩)))
   have hdoes : Does P L w ob S ((List.range k).map (fun i => (ids i, (h1 i).ren σ)) ++ out.map (fun i => (nx + out.idxOf i, (h1 i).ren σ))) w' obn S' := by
     refine ⟨hE.keep.1, hE.ext.size, fun b hb => (hE.ext.keep b hb).1, fun b hb => ?_, fun b hb hno => ?_, fun b hb => (hE.ext.keep b hb).2, fun o ho => ?_, fun o x ho => ?_, fun o o' oi oi' b q1 q2 q3 q4 => ?_⟩
     · rcases hE.news b hb with h | h
       · exact .inl h
       · rcases h with h | ⟨i, oi, hi, ho, hob⟩
         · exact .inr (.inl ⟨h, hE.rs.st b hb⟩)
         · obtain ⟨x, hx⟩ := hwr2 i (.inl hi)
           rw [hσ1 i hi] at hx
           exact .inr (.inr ⟨ids i, x, oi, hx, ho, hob⟩)
     · refine hE.keep.2 b fun hm => ?_
       rcases hm with h | ⟨i, oi, hi, ho, hob⟩
       · omega
       · obtain ⟨x, hx⟩ := hwr2 i (.inl hi)
         rw [hσ1 i hi] at hx
         exact hno (ids i) x oi hx ho hob
     · refine hobn' o fun ⟨i, hi, h⟩ => ?_
       obtain ⟨x, hx⟩ := hwr2 i hi
       rw [h, ho] at hx; cases hx
     · obtain ⟨i, hi, rfl, rfl⟩ := hwr1 o x ho
       obtain ⟨f1, f2⟩ := hfin i hi
       obtain ⟨oi', g1, g2, g3, g4⟩ := hE.rs.hp i _ f1
       refine ⟨oi', (hobn i hi).trans g1, (RObj_ren (refs_mono (fun j hj => hobn j hj) _ f2)).2 g2, fun oi ho => ?_, fun b hb => ⟨hE.rs.blk i oi' b g1 hb, ?_, fun hf => g4 hf b hb, fun hf => (g3 hf b hb).1⟩⟩
       · rcases hi with hi | hi
         · obtain ⟨oi2, e1, e2, e3⟩ := hE.ext.tab i oi (by show obc i = some oi; rw [hobc i hi]; exact ho)
           rw [g1] at e1; cases e1
           exact ⟨e2, e3⟩
         · rw [hobnew i hi] at ho; cases ho
       · rcases hE.own i oi' b g1 hb with h | ⟨oi0, e1, e2⟩
         · exact .inl h
         · have hik : i < k := by
             by_cases hik : i < k
             · exact hik
             · have : obc i = none := by simp [obc, hik]
               have e1 : obc i = some oi0 := e1
               rw [this] at e1; cases e1
           exact .inr ⟨oi0, by rw [← hobc i hik]; exact e1, e2⟩
     · have hmix : ∀ i o' oi oi', dom i → (¬ ∃ j, dom j ∧ σ j = o') → obE i = some oi → ob o' = some oi' → oi.blk = some b → oi'.blk = some b → False := fun i o' oi oi' hi hn e1 e2 e3 e4 => by
         rcases hE.own i oi b e1 e3 with h | ⟨oi0, e5, e6⟩
         · exact absurd (rs0.blk o' oi' b e2 e4) (Nat.not_lt.2 h)
         · have hik : i < k := by
             by_cases hik : i < k
             · exact hik
             · have : obc i = none := by simp [obc, hik]
               have e5 : obc i = some oi0 := e5
               rw [this] at e5; cases e5
           have e7 : ob (σ i) = some oi0 := by rw [← hobc i hik]; exact e5
           exact hn ⟨i, hi, rs0.inj _ _ _ _ b e7 e2 e6 e4⟩
       by_cases hd1 : ∃ i, dom i ∧ σ i = o
       · obtain ⟨i, hi, rfl⟩ := hd1
         rw [hobn i hi] at q1
         by_cases hd2 : ∃ i, dom i ∧ σ i = o'
         · obtain ⟨j, hj, rfl⟩ := hd2
           rw [hobn j hj] at q2
           rw [hE.rs.inj i j _ _ b q1 q2 q3 q4]
         · rw [hobn' o' hd2] at q2
           exact (hmix i o' oi oi' hi hd2 q1 q2 q3 q4).elim
       · rw [hobn' o hd1] at q1
         by_cases hd2 : ∃ i, dom i ∧ σ i = o'
         · obtain ⟨j, hj, rfl⟩ := hd2
           rw [hobn j hj] at q2
           exact (hmix j o oi' oi hj hd1 q2 q1 q4 q3).elim
         · rw [hobn' o' hd2] at q2
           exact rs0.inj _ _ _ _ b q1 q2 q3 q4
   have hnames : Names hp' nx ⟨(packA rs).ren σ, (List.range k).map (fun i => (ids i, (h1 i).ren σ)) ++ out.map (fun i => (nx + out.idxOf i, (h1 i).ren σ)), (List.range k).map ids, out.length⟩ := by
     intro o x ho
     obtain ⟨i, hi, rfl, rfl⟩ := hwr1 o x ho
     rcases hi with hi | hi
     · rw [hσ1 i hi]
       exact .inl ⟨_, hhp' i hi, hfz i hi⟩
     · exact .inr (hnew i hi)
   have hval : RV P w' obn S' ((packA rs).ren σ) (if h : arr.size = 1 then arr[0] else .tuple arr) := by
     refine (RV_ren (obc := obE) ?_).2 (RV_pack htup hrvl)
     have : A.refs (fun j => j < k ∨ j ∈ out) (packA rs) := by
       unfold packA
       split
       · exact hrr.1
       · exact hrr
     exact refs_mono (fun j hj => hobn j hj) _ this
   have hR : ∃ v ob' S'', Ending.returned (if h : arr.size = 1 then arr[0] else .tuple arr) = .returned v ∧ Does P L w ob S ((List.range k).map (fun i => (ids i, (h1 i).ren σ)) ++ out.map (fun i => (nx + out.idxOf i, (h1 i).ren σ))) w' ob' S'' ∧ RV P w' ob' S'' ((packA rs).ren σ) v ∧
       Names hp' nx ⟨(packA rs).ren σ, (List.range k).map (fun i => (ids i, (h1 i).ren σ)) ++ out.map (fun i => (nx + out.idxOf i, (h1 i).ren σ)), (List.range k).map ids, out.length⟩ := ⟨_, obn, S', rfl, hdoes, hval, hnames⟩
   exact ⟨_, hrun', hR⟩
  rcases he with rfl | rfl
  · exact hfinal
  · exact hfinal

end
end Go.Ab

/- CALLS THAT SHARE THE HEAP; ROUNDS; LOOPS OVER FUNCTIONS. -/
namespace Go.Ab
section
variable {P : Program} {L : Lay} {g : Gh} {tm : Nat → Option A} {hp : Hp} {fr : Nat → Prop} {a : Act} {w : World} {ob : Nat → Option OI} {S : Nat → Prop}
variable {r : Option Nat} {N : Nat} {ops : Array Oper} {o : Oper}

theorem Inv.put (i : Inv P L g tm hp fr a w ob S) {x : A} {v : Value} (hv : RV P w ob S x v) (d : Option Tmp) (hd : ∀ k, d = some k → k < g.N) : Inv P L g (upf tm d x) hp fr (a.put d v) w ob S := by
  refine ⟨⟨fun t y ht => ?_, i.rs.hp, i.rs.inj, i.rs.blk, i.rs.st, i.rs.fr, i.rs.mine⟩, i.ext, i.keep, ⟨i.defs.1, by rw [put_defers]; exact i.defs.2⟩, i.xs, by rw [put_size]; exact i.size, i.news, i.own⟩
  rw [put_getD a d v t (fun k hk => by rw [i.size]; exact hd k hk)]
  unfold upf at ht
  by_cases e : d = some t
  · simp only [e, if_true, Option.some.injEq] at ht ⊢; subst ht; exact hv
  · simp only [e, if_false] at ht ⊢; exact i.rs.tm t y ht

theorem args_getD {args : List Value} {N : Nat} {t : Nat} {u : Value} (h : args[t]? = some u) : (args.toArray ++ Array.replicate N undef).getD t undef = u := by
  have h1 : t < args.length := (List.getElem?_eq_some_iff.1 h).1
  rw [Array.getD_eq_getD_getElem?, Array.getElem?_append_left (by simpa using h1)]
  simp [h]

theorem args_tm {vs : List A} {args : List Value} {N : Nat} (h : RVl P w ob S vs args) : ∀ t x, vs[t]? = some x → RV P w ob S x ((args.toArray ++ Array.replicate N undef).getD t undef) := by
  intro t x ht
  obtain ⟨u, q1, q2⟩ := rvl_get h (k := t) ht
  rw [args_getD q1]
  refine (RV.one ?_).2 q2
  intro vs e
  subst e
  exact q2.1.elim

/-- the state that a call leaves -/
def backS (s s2 : AS) (d : Option Tmp) (v : A) : AS := ⟨upf s.tm d v, s2.hp, s2.nx, fun k => if k ∈ s2.mks then none else s2.ys k, s.mks⟩

theorem calls_shared (hL : LOk P L) {f : FuncId} {fn : Func} {c : Code} (hf : P.funcs[f]? = some fn) (hb : fn.body = some c) {s s2 : AS} {vs : List A} {args : List Value} (hlen : vs.length ≤ fn.ntmps) {e : Exit}
    (hrun : Runs P L none fn.ntmps c ⟨fun t => vs[t]?, s.hp, s.nx, s.ys, []⟩ e s2) (he : e = .ret ∨ e = .normal) {cr : Prop} {rs : List A} (hrs : resAll L s2 fn.results.toList = some (cr, rs)) (hcr : cr) (htup : ∀ v ∈ rs, v.isTup = false)
    (hmk : ∀ o ∈ s.mks, s2.ys o = some .dfr ∧ o ∉ s2.mks) {g : Gh} {a : Act} {w : World} {ob : Nat → Option OI} {S : Nat → Prop} (iv : Inv P L (g.wy s) s.tm s.hp (s.nx ≤ ·) a w ob S) (ha : RVl P w ob S vs args) :
    Calls P f args.toArray w fun e w' => ∃ v ob' S', e = .returned v ∧ RV P w' ob' S' (packA rs) v ∧ Ext w ob S w' ob' S' ∧ Inv P L { g with ys := fun k => if k ∈ s2.mks then none else s2.ys k, mks := s.mks } s.tm s2.hp (s2.nx ≤ ·) a w' ob' S' := by
  have hal := RVl.len ha
  refine callsIn_wide.1 (callsIn_of_wp_marks (n := 0) hf hb trivial ?_ rfl)
  have hsize : (args.toArray ++ Array.replicate (fn.ntmps - args.toArray.size) undef).size = fn.ntmps := by simp; omega
  have i2 := iv.inner hsize (tm2 := fun t => vs[t]?) (args_tm ha)
  refine hrun { (g.wy s) with w := w, ob := ob, S := S, D := [], N := fn.ntmps, mks := [] } rfl 0 _ w _ ⟨ob, S, i2⟩ fun a' w0' hat' => ?_
  obtain ⟨obE, SE, hE0⟩ := hat'
  have hfinal : LeavesInM Fence.wide 0 P fn a'.tmps (fun e w' => ∃ v ob' S', e = .returned v ∧ RV P w' ob' S' (packA rs) v ∧ Ext w ob S w' ob' S' ∧ Inv P L { g with ys := fun k => if k ∈ s2.mks then none else s2.ys k, mks := s.mks } s.tm s2.hp (s2.nx ≤ ·) a w' ob' S') a'.defers .returning w0' := by
    refine leaves_marks s2.mks _ a'.defers w0' rfl rfl rfl hE0 fun w' hE => ?_
    obtain ⟨arr, hr', hrvl⟩ := run_results hL hE.rs hrs hcr htup
    refine ⟨_, hr', _, obE, SE, rfl, RV_pack htup hrvl, hE.ext, ?_⟩
    have := iv.outer hE fun o ho => by
      obtain ⟨h1, h2⟩ := hmk o ho
      simp only [h2, if_false]; exact h1
    exact this
  rcases he with rfl | rfl
  · exact hfinal
  · exact hfinal

theorem run_call_value {a : Act} {w : World} {x : Operand} {args : Array Operand} {ts : Array TypeId} {f : FuncId} {fa ca : Array Value} (ho : o.op = .call { callee := .value x, args, argTypes := ts }) (e1 : a.eval x = .func (.func f) fa ca) :
    (execOp a.eval o).run P w = (callFunc f (fa.toList ++ args.toList.map a.eval ++ ca.toList).toArray).run P w := by
  have : (fa.toList ++ args.toList.map a.eval ++ ca.toList).toArray = fa ++ args.map a.eval ++ ca := by
    apply Array.toList_inj.1; simp
  rw [this]
  simp [execOp, ho, resolve, e1, Deferred.ofValue, invoke]

theorem callFunc_enter {f : FuncId} {fn : Func} {c : Code} (hf : P.funcs[f]? = some fn) (hname : (fn.name == "runtime.NumGoroutine") = false) (hb : fn.body = some c) (args : Array Value) (w : World) :
    (callFunc f args).run P w = .ok (.enter f args) w := by
  simp [callFunc, hf, hb]; intro h; simp [h] at hname

theorem actG_call (hL : LOk P L) {f : FuncId} {fn : Func} {c : Code} (hf : P.funcs[f]? = some fn) (hname : (fn.name == "runtime.NumGoroutine") = false) (hb : fn.body = some c) {s s2 : AS} {x : Operand} {args : Array Operand} {ts : Array TypeId} {first caps vs : List A}
    (ho : o.op = .call { callee := .value x, args, argTypes := ts }) (hw : wantA ops o s.tm = some true) (hx : evA s.tm x = some (.fn (.func f) first caps)) (hvs : evAs s.tm args.toList = some vs) (ht : ∀ v ∈ vs, v.isTup = false)
    (hlen : (first ++ vs ++ caps).length ≤ fn.ntmps) {e : Exit} (hrun : Runs P L none fn.ntmps c ⟨fun t => (first ++ vs ++ caps)[t]?, s.hp, s.nx, s.ys, []⟩ e s2) (he : e = .ret ∨ e = .normal)
    {cr : Prop} {rs : List A} (hrs : resAll L s2 fn.results.toList = some (cr, rs)) (hcr : cr) (htup : ∀ v ∈ rs, v.isTup = false)
    (hmk : ∀ o ∈ s.mks, s2.ys o = some .dfr ∧ o ∉ s2.mks) (hd : ∀ k, o.dst = some k → k < N) : ActG P L r N ops o s (backS s s2 o.dst (packA rs)) := by
  intro g hg a w ha n Q i K hi hK
  obtain ⟨ob, S, iv⟩ := ha
  have hw' := wantA_spec (ops := ops) (o := o) iv.rs hw
  obtain ⟨fa, ca, e1, e2, e3⟩ := ev_leaf iv.rs hx rfl rfl
  have e1 : a.eval x = .func (.func f) fa ca := by simpa using e1
  have e5 : RVl P w ob S (first ++ vs ++ caps) (fa.toList ++ args.toList.map a.eval ++ ca.toList) := RVl.append (RVl.append e2 (evAs_rvl iv.rs hvs ht)) e3
  unfold wpOpIn
  simp only [hi, hw', if_true, Oper.wpIn]
  refine ⟨fun _ _ => trivial, ?_⟩
  rw [Oper.semAt_eq _ _ _ (by rw [ho]; simp), run_call_value ho e1, callFunc_enter hf hname hb]
  refine ⟨fun h => by simp [Fw, Fence.wide] at h, callsIn_Fw.2 ((calls_shared hL hf hb hlen hrun he hrs hcr htup hmk iv e5).mono fun e' w' he' => ?_)⟩
  obtain ⟨v, ob', S', rfl, h1, -, h2⟩ := he'
  exact hK _ _ ⟨ob', S', h2.put h1 o.dst (fun k hk => by show k < g.N; rw [hg]; exact hd k hk)⟩

/-! ### Rounds -/

def jumpOf : Exit → Option (Option Code)
  | .normal => some none
  | .ret => some (some .ret)
  | .exit id => some (some (.exit id))
  | .goto t => some (some (.goto t))
  | _ => none

def bindPs : List Nat → List A → (Nat → Option A) → Nat → Option A
  | p :: ps, v :: vs, f => bindPs ps vs (upf f (some p) v)
  | _, _, f => f

theorem bind_tm : ∀ (ps : List Nat) (vs : List A) (args : List Value) (tmps : Array Value) (tm : Nat → Option A), RVl P w ob S vs args → (∀ p ∈ ps, p < tmps.size) → (∀ v ∈ vs, v.isTup = false) → (∀ t x, tm t = some x → RV P w ob S x (tmps.getD t undef)) →
    ((ps.zip args).foldl (fun tmps (p : Nat × Value) => tmps.setIfInBounds p.1 p.2) tmps).size = tmps.size ∧
    ∀ t x, bindPs ps vs tm t = some x → RV P w ob S x (((ps.zip args).foldl (fun tmps (p : Nat × Value) => tmps.setIfInBounds p.1 p.2) tmps).getD t undef)
  | [], _, _, tmps, tm, _, _, _, h => ⟨rfl, h⟩
  | p :: ps, [], args, tmps, tm, ha, _, _, h => by
    simp only [RVl] at ha; subst ha
    exact ⟨rfl, h⟩
  | p :: ps, v :: vs, args, tmps, tm, ha, hp, hv, h => by
    obtain ⟨u, us, h1, h2, h3, h4⟩ := ha
    subst h1
    have ih := bind_tm ps vs us (tmps.setIfInBounds p u) (upf tm (some p) v) h4 (fun q hq => by simpa using hp q (by simp [hq])) (fun q hq => hv q (by simp [hq])) (fun t x ht => by
      unfold upf at ht
      by_cases e : some p = some t
      · simp only [e, if_true, Option.some.injEq] at ht
        cases e; subst ht
        have := hp p (by simp)
        simp only [Array.getD_eq_getD_getElem?, Array.getElem?_setIfInBounds, this, if_true]
        exact (RV.one (fun vs e => by have := hv v (by simp); rw [e] at this; cases this)).2 ⟨h2, h3⟩
      · simp only [e, if_false] at ht
        have : p ≠ t := fun h => e (by rw [h])
        have h5 := h t x ht
        simpa only [Array.getD_eq_getD_getElem?, Array.getElem?_setIfInBounds_ne this] using h5)
    refine ⟨by simpa using ih.1, ih.2⟩

theorem run_call_yield {a : Act} {w : World} {x : Operand} {args : Array Operand} {ts : Array TypeId} {l : Nat} (ho : o.op = .call { callee := .value x, args, argTypes := ts }) (e1 : a.eval x = .func (.yield l) #[] #[]) :
    (execOp a.eval o).run P w = (Instr.yield l (args.map a.eval)).run P w := by
  simp [execOp, ho, resolve, e1, Deferred.ofValue, invoke]

theorem actG_yield {s s1 s2 : AS} {x : Operand} {args : Array Operand} {ts : Array TypeId} {vs : List A} {oo : Nat} {y y1 y2 : YR}
    (ho : o.op = .call { callee := .value x, args, argTypes := ts }) (hw : wantA ops o s.tm = some true) (hx : evA s.tm x = some (.xo .yl oo)) (hvs : evAs s.tm args.toList = some vs) (ht : ∀ v ∈ vs, v.isTup = false)
    (hy : s.ys oo = some (.loop y)) (hlen : vs.length = y.ps.size) (hps : ∀ p ∈ y.ps.toList, p < y.N)
    (hassign : ∀ l, Runs P L (some l) y.N y.assign ⟨bindPs y.ps.toList vs y.tm, s.hp, s.nx, s.ys, []⟩ .normal s1) (hy1 : s1.ys oo = some (.loop y1)) (hr1 : y1.st = .ready) (hm1 : s1.mks = [])
    {e : Exit} (hbody : ∀ l, Runs P L (some l) y.N y.body ⟨s1.tm, s1.hp, s1.nx, upy s1.ys oo (some (.loop { y1 with st := .busy })), []⟩ e s2) (hy2 : s2.ys oo = some (.loop y2)) (hm2 : s2.mks = [])
    {jump : Option Code} (hj : jumpOf e = some jump) (hmk : ∀ o ∈ s.mks, s2.ys o = some .dfr) (hd : ∀ k, o.dst = some k → k < N) :
    ActG P L r N ops o s ⟨upf s.tm o.dst (.bool jump.isNone), s2.hp, s2.nx, upy s2.ys oo (some (.loop { y2 with st := if jump.isNone then .ready else .done, pend := jump })), s.mks⟩ := by
  intro g hg a w ha n Q i K hi hK
  obtain ⟨ob, S, iv⟩ := ha
  have hw' := wantA_spec (ops := ops) (o := o) iv.rs hw
  obtain ⟨oi, l, q1, q2, q3⟩ : RCxo ob .yl oo [a.eval x] := by
    have := ev_leaf iv.rs hx rfl rfl
    simpa [RC] using this
  have e1 : a.eval x = .func (.yield l) #[] #[] := by simpa [XK.val] using q2
  obtain ⟨-, oi', l', k2, k3, k4, k5, k6, fn, tmps, D, k7, k8, k9⟩ := iv.xs oo _ hy
  rw [q1] at k2; cases k2
  rw [q3 k3] at k4; cases k4
  have hl := q3 k3
  have e5 := evAs_rvl iv.rs hvs ht
  have hal := RVl.len e5
  unfold wpOpIn
  simp only [hi, hw', if_true, Oper.wpIn]
  refine ⟨fun _ _ => trivial, ?_⟩
  rw [Oper.semAt_eq _ _ _ (by rw [ho]; simp), run_call_yield ho e1, run_yield k7 (by simp at hal ⊢; omega)]
  refine ⟨fun h => by simp [Fw, Fence.wide] at h, roundIn_of_wpIn trivial ?_⟩
  show y.assign.wpIn (Fw (some l)) _ P _ _ w
  obtain ⟨z1, z2⟩ := bind_tm (P := P) (w := w) (ob := ob) (S := S) y.ps.toList vs (args.toList.map a.eval) tmps y.tm e5 (fun p hp => by rw [k8]; exact hps p hp) ht k9
  have hz : (y.ps.zip (args.map a.eval)).foldl (fun tmps (p : Nat × Value) => tmps.setIfInBounds p.1 p.2) tmps = (y.ps.toList.zip (args.toList.map a.eval)).foldl (fun tmps (p : Nat × Value) => tmps.setIfInBounds p.1 p.2) tmps := by
    rw [← Array.foldl_toList]; simp
  simp only
  rw [hz]
  have i2 := iv.inner (z1.trans k8) z2
  have hN2 : Gh.N { (g.wy s) with w := w, ob := ob, S := S, D := [], N := y.N, mks := [] } = y.N := rfl
  refine hassign l _ hN2 _ _ w _ ⟨ob, S, i2⟩ fun a1 w1 h1 => ?_
  obtain ⟨ob1, S1, i3⟩ := h1
  -- the record is where it was
  have same : ∀ {ob' : Nat → Option OI} {w' : World} {S' : Nat → Prop}, Ext w ob S w' ob' S' → ∀ oi2, ob' oo = some oi2 → oi2.ver = 0 → oi2.blk = some l := fun e oi2 h1 h2 => by
    obtain ⟨oi3, p1, p2, p3⟩ := e.tab oo oi q1
    rw [h1] at p1; cases p1
    rw [p3 (by rw [h2, k3])]; exact hl
  obtain ⟨-, oj, lj, p2, p3, p4, p5, p6, fn1, tmps1, D1, p7, p8, p9⟩ := i3.xs oo _ hy1
  rw [same i3.ext oj p2 p3] at p4; cases p4
  refine ⟨_, run_beginRound p7 hr1, ?_⟩
  have hlt : l < w1.heap.size := i3.rs.blk oo oj l p2 (same i3.ext oj p2 p3)
  have hx1 : ∀ (z : YR) (st : LoopState) (pd : Option Code) (ww : World) (ob' : Nat → Option OI) (S' : Nat → Prop) (fn' : FuncId) (tmps' : Array Value) (D' : Nat), l < ww.heap.size → ¬ S' l → tmps'.size = z.N → (∀ t x, z.tm t = some x → RV P ww ob' S' x (tmps'.getD t undef)) →
      ∀ v, some (XO.loop { z with st := st, pend := pd }) = some v → XOk P (ww.putObj l (.loop { state := st, pending := pd, fn := fn', tmps := tmps', params := z.ps, assign := z.assign, body := z.body, defers := D' })) ob' S' v l := by
    intro z st pd ww ob' S' fn' tmps' D' h1 h2 h3 h4 v hv
    cases hv
    exact ⟨fn', tmps', D', World.putObj_heap_same h1, h3, fun t x ht => RV.mono (Ext.putObj _ h2) (h4 t x ht)⟩
  have i4 := i3.putObj (x' := some (.loop { y1 with st := .busy })) hy1 p2 (same i3.ext oj p2 p3) (hx1 y1 .busy y1.pend w1 ob1 S1 fn1 tmps1 D1 hlt p5 p8 p9) (by show oo ∉ s1.mks; rw [hm1]; simp)
  have hm4 : ({ (Gh.wy { (g.wy s) with w := w, ob := ob, S := S, D := [], N := y.N, mks := [] } s1) with ys := upy s1.ys oo (some (.loop { y1 with st := .busy })) } : Gh) = Gh.wy { (g.wy s) with w := w, ob := ob, S := S, D := [], N := y.N, mks := [] } ⟨s1.tm, s1.hp, s1.nx, upy s1.ys oo (some (.loop { y1 with st := .busy })), []⟩ := by
    simp only [Gh.wy, hm1]
  refine hbody l _ hN2 _ _ _ _ ⟨ob1, S1, hm4 ▸ i4⟩ fun a2 w3 h2 => ?_
  obtain ⟨ob2, S2, i5⟩ := h2
  obtain ⟨-, ok, lk, m2, m3, m4, m5, m6, fn2, tmps2, D2, m7, m8, m9⟩ := i5.xs oo _ hy2
  rw [same i5.ext ok m2 m3] at m4; cases m4
  have hlt2 : l < w3.heap.size := i5.rs.blk oo ok l m2 (same i5.ext ok m2 m3)
  have i6 := i5.putObj (x' := some (.loop { y2 with st := if jump.isNone then .ready else .done, pend := jump })) hy2 m2 (same i5.ext ok m2 m3) (hx1 y2 _ jump w3 ob2 S2 fn2 tmps2 D2 hlt2 m5 m8 m9) (by show oo ∉ s2.mks; rw [hm2]; simp)
  have i7 := iv.outer i6 fun k hk => by
    have h3 := hmk k hk
    have : k ≠ oo := by rintro rfl; rw [hy2] at h3; cases h3
    simp only [upy, this, if_false]; exact h3
  have hfin : K (a.put o.dst (.bool jump.isNone)) (w3.putObj l (.loop { state := if jump.isNone then .ready else .done, pending := jump, fn := fn2, tmps := tmps2, params := y2.ps, assign := y2.assign, body := y2.body, defers := D2 })) :=
    hK _ _ ⟨ob2, S2, i7.put (x := .bool jump.isNone) (v := .bool jump.isNone) ⟨by simp [RC, Value.cells], by simp [A.isSt]⟩ o.dst (fun k hk => by show k < g.N; rw [hg]; exact hd k hk)⟩
  cases e <;> simp only [jumpOf, Option.some.injEq, reduceCtorEq] at hj <;> subst hj
  all_goals exact ⟨_, _, run_endRound _ m7, hfin⟩

end
end Go.Ab

/- NEW SPECIAL OBJECTS; THE LOOP OVER A FUNCTION. -/
namespace Go.Ab
section
variable {P : Program} {L : Lay} {g : Gh} {tm : Nat → Option A} {hp : Hp} {fr fr' : Nat → Prop} {a : Act} {w : World} {ob : Nat → Option OI} {S : Nat → Prop}
variable {r : Option Nat} {N : Nat} {ops : Array Oper} {o : Oper}

def oiX (b : Nat) : OI := ⟨some b, 0, .leaf, none, 0⟩

theorem alloc_old (w : World) (obj : Obj) {b : Nat} (h : b < w.heap.size) : (w.alloc obj).heap[b]? = w.heap[b]? := by
  show (w.heap.push obj)[b]? = _
  simp [Array.getElem?_push, Nat.ne_of_lt h]

theorem Ext.newX (r : RS P L g.mine tm hp fr a.tmps w ob S) {o : Nat} (ho : ob o = none) (obj : Obj) : Ext w ob S (w.alloc obj) (upo ob o (oiX w.heap.size)) S :=
  ⟨by simp, fun b hb => ⟨hb, alloc_old w obj (r.st b hb)⟩, fun k oi hk => ⟨oi, by
    have : k ≠ o := by rintro rfl; rw [ho] at hk; cases hk
    simp only [upo, this, if_false]; exact hk, Nat.le_refl _, fun _ => rfl⟩⟩

theorem Inv.newX (i : Inv P L g tm hp fr a w ob S) {o : Nat} (hfr : fr o) (hfr' : ∀ k, fr' k → fr k ∧ k ≠ o) {obj : Obj} {x : XO} (hx : XOk P (w.alloc obj) (upo ob o (oiX w.heap.size)) S x w.heap.size) (hnc : ∀ c t f, obj = .cells c t f → f = (0, 0) := by intro _ _ _ h; cases h) :
    Inv P L { g with ys := upy g.ys o (some x) } tm hp fr' a (w.alloc obj) (upo ob o (oiX w.heap.size)) S := by
  have ho := i.rs.fr o hfr
  have e := Ext.newX i.rs ho obj
  have hne : ∀ k oi, ob k = some oi → k ≠ o := fun k oi hk => by rintro rfl; rw [ho] at hk; cases hk
  have hup : ∀ k, k ≠ o → upo ob o (oiX w.heap.size) k = ob k := fun k hk => by simp only [upo, hk, if_false]
  have hself : upo ob o (oiX w.heap.size) o = some (oiX w.heap.size) := by simp [upo]
  refine ⟨⟨fun t y ht => RV.mono e (i.rs.tm t y ht), fun k y hk => ?_, fun k k' oi oi' b h1 h2 h3 h4 => ?_, fun k oi b h1 h2 => ?_, fun b hb => Nat.lt_of_lt_of_le (i.rs.st b hb) e.size, fun k hk => ?_, fun b hb => i.rs.mine b (Nat.le_trans e.size hb)⟩,
    i.ext.trans e, ⟨i.keep.1.trans (same_push hnc), fun b hb => ?_⟩, ⟨i.defs.1, i.defs.2.congr fun k hk h => ?_⟩, fun k y hy => ?_, i.size, i.news, fun k oi b h1 h2 => ?_⟩
  · obtain ⟨oi, q1, q2, q3, q4⟩ := i.rs.hp k y hk
    refine ⟨oi, (hup k (hne k oi q1)).trans q1, RObj.mono e (fun b hb => alloc_old w obj (i.rs.blk k oi b q1 hb)) q2, q3, q4⟩
  · by_cases e1 : k = o
    · by_cases e2 : k' = o
      · rw [e1, e2]
      · rw [hup k' e2] at h2
        subst e1
        rw [hself] at h1; cases h1
        cases h3
        exact absurd (i.rs.blk k' oi' _ h2 h4) (Nat.lt_irrefl _)
    · rw [hup k e1] at h1
      by_cases e2 : k' = o
      · subst e2
        rw [hself] at h2; cases h2
        cases h4
        exact absurd (i.rs.blk k oi _ h1 h3) (Nat.lt_irrefl _)
      · rw [hup k' e2] at h2
        exact i.rs.inj k k' oi oi' b h1 h2 h3 h4
  · by_cases e1 : k = o
    · subst e1; rw [hself] at h1; cases h1; cases h2
      simp
    · rw [hup k e1] at h1
      exact Nat.lt_of_lt_of_le (i.rs.blk k oi b h1 h2) e.size
  · obtain ⟨h1, h2⟩ := hfr' k hk
    rw [hup k h2]; exact i.rs.fr k h1
  · by_cases hb' : b < w.heap.size
    · rw [alloc_old w obj hb']; exact i.keep.2 b hb
    · exact absurd (i.rs.mine b (Nat.not_lt.1 hb')) hb
  · obtain ⟨-, oi, b, q, -⟩ := i.xs k _ h
    have := hne k oi q
    exact ⟨by simp only [upy, this, if_false]; exact h, hup k this⟩
  · by_cases e1 : k = o
    · subst e1
      simp only [upy, if_true, Option.some.injEq] at hy
      subst hy
      refine ⟨?_, _, _, hself, rfl, rfl, fun hS => absurd (i.rs.st _ hS) (Nat.lt_irrefl _), i.rs.mine _ (Nat.le_refl _), hx⟩
      cases hh : hp k with
      | none => rfl
      | some z => obtain ⟨oi, q1, -⟩ := i.rs.hp k z hh; rw [ho] at q1; cases q1
    · simp only [upy, e1, if_false] at hy
      obtain ⟨q1, oi, b, q2, q3, q4, q5, q6, q7⟩ := i.xs k y hy
      exact ⟨q1, oi, b, (hup k e1).trans q2, q3, q4, q5, q6, q7.mono e (alloc_old w obj (i.rs.blk k oi b q2 q4))⟩
  · by_cases e1 : k = o
    · subst e1; rw [hself] at h1; cases h1; cases h2
      exact .inl i.ext.size
    · rw [hup k e1] at h1
      exact i.own k oi b h1 h2

def pendExit : Option Code → Option Exit
  | none => some .normal
  | some .ret => some .ret
  | some (.exit id) => some (.exit id)
  | some (.goto t) => some (.goto t)
  | _ => none

/-- the loop over a function: the function is run, with yield -/
theorem Runs.rangeFunc (hL : LOk P L) {gop : Operand} {ps : Array Tmp} {assign body : Code} {s s2 : AS} {f : FuncId} {fn : Func} {c : Code} {first caps : List A} (hx : evA s.tm gop = some (.fn (.func f) first caps))
    (hf : P.funcs[f]? = some fn) (hname : (fn.name == "runtime.NumGoroutine") = false) (hb : fn.body = some c) (hlen : (first ++ [A.xo .yl (s.nx + 1)] ++ caps).length ≤ fn.ntmps) {e : Exit}
    (hrun : Runs P L none fn.ntmps c ⟨fun t => (first ++ [A.xo .yl (s.nx + 1)] ++ caps)[t]?, s.hp, s.nx + 2, upy (upy s.ys s.nx (some .dfr)) (s.nx + 1) (some (.loop ⟨ps, N, s.tm, assign, body, .ready, none⟩)), []⟩ e s2) (he : e = .ret ∨ e = .normal)
    {cr : Prop} {rs : List A} (hrs : resAll L s2 fn.results.toList = some (cr, rs)) (hcr : cr) (htup : ∀ v ∈ rs, v.isTup = false) {y2 : YR} (hy : s2.ys (s.nx + 1) = some (.loop y2)) (hst : y2.st ≠ .busy) (hnm : (s.nx + 1) ∉ s2.mks)
    (hmk : ∀ o ∈ s.nx :: s.mks, s2.ys o = some .dfr ∧ o ∉ s2.mks) {e' : Exit} (hp : pendExit y2.pend = some e') :
    Runs P L none N (.rangeFunc gop ps assign body) s e' ⟨s.tm, s2.hp, s2.nx, fun k => if k ∈ (s.nx + 1) :: s2.mks then none else s2.ys k, s.nx :: s.mks⟩ := by
  intro g hg n a w Q ha hQ
  obtain ⟨ob, S, iv⟩ := ha
  obtain ⟨fa, ca, e1, e2, e3⟩ := ev_leaf iv.rs hx rfl rfl
  have e1 : a.eval gop = .func (.func f) fa ca := by simpa using e1
  have hn0 : s.nx ∉ s.mks := fun h => by
    have hm := iv.defs.2
    have key : ∀ (l : List Nat) (ds : List Deferred), Marks ob s.ys g.D l ds → ∀ o ∈ l, s.ys o = some .dfr := by
      intro l
      induction l with
      | nil => intro _ _ o ho; cases ho
      | cons o l ih =>
        intro ds h o' ho'
        obtain ⟨b, oi, ds', h1, h2, h3, h4, h5, h6⟩ := h
        rcases List.mem_cons.1 ho' with rfl | ho'
        · exact h2
        · exact ih _ h6 _ ho'
    have h1 := key _ _ hm _ h
    obtain ⟨-, oi, b, q, -⟩ := iv.xs _ _ h1
    rw [iv.rs.fr s.nx (Nat.le_refl _)] at q; cases q
  -- the two new blocks
  have i1 := iv.newX (o := s.nx) (fr' := (s.nx + 1 ≤ ·)) (Nat.le_refl _) (fun k hk => ⟨by omega, by omega⟩) (obj := .deferred (some [])) (x := .dfr) (World.alloc_heap_new _ _)
  generalize hob1 : upo ob s.nx (oiX w.heap.size) = ob1 at i1
  have ho1 : ob1 s.nx = some (oiX w.heap.size) := by rw [← hob1]; simp [upo]
  have hy1 : upy s.ys s.nx (some .dfr) s.nx = some .dfr := by simp [upy]
  have i2 : Inv P L { (g.wy s) with ys := upy s.ys s.nx (some .dfr), mks := s.nx :: s.mks } s.tm s.hp (s.nx + 1 ≤ ·) { a with defers := ⟨.collected w.heap.size, #[]⟩ :: a.defers } (w.alloc (.deferred (some []))) ob1 S :=
    ⟨i1.rs, i1.ext, i1.keep, ⟨List.nodup_cons.2 ⟨hn0, i1.defs.1⟩, w.heap.size, oiX w.heap.size, _, rfl, hy1, ho1, rfl, rfl, i1.defs.2⟩, i1.xs, i1.size, i1.news, i1.own⟩
  have hw1 : (w.alloc (.deferred (some []))).heap.size = w.heap.size + 1 := by simp
  have hcv : ∀ v, a.eval (.const v) = v := fun _ => rfl
  refine wpIn_rangeFunc fun fn0 _ => ?_
  have i3 := i2.newX (o := s.nx + 1) (fr' := (s.nx + 2 ≤ ·)) (Nat.le_refl _) (fun k hk => ⟨by omega, by omega⟩) (x := .loop ⟨ps, N, s.tm, assign, body, .ready, none⟩)
    (obj := .loop { state := .ready, pending := none, fn := fn0, tmps := a.tmps, params := ps, assign, body, defers := w.heap.size })
    ⟨_, _, _, World.alloc_heap_new _ _, by rw [i2.size]; exact hg, fun t x ht => RV.mono (Ext.newX i2.rs (i2.rs.fr _ (Nat.le_refl _)) _) (i2.rs.tm t x ht)⟩
  generalize hob2 : upo ob1 (s.nx + 1) (oiX (w.alloc (.deferred (some []))).heap.size) = ob2 at i3
  have ho2 : ob2 (s.nx + 1) = some (oiX (w.alloc (.deferred (some []))).heap.size) := by rw [← hob2]; simp [upo]
  have hext : Ext w ob S ((w.alloc (.deferred (some []))).alloc (.loop { state := .ready, pending := none, fn := fn0, tmps := a.tmps, params := ps, assign, body, defers := w.heap.size })) ob2 S := by
    rw [← hob2, ← hob1]
    exact (Ext.newX iv.rs (iv.rs.fr _ (Nat.le_refl _)) _).trans (by rw [hob1]; exact Ext.newX i2.rs (i2.rs.fr _ (Nat.le_refl _)) _)
  generalize hw2 : (w.alloc (.deferred (some []))).alloc (.loop { state := .ready, pending := none, fn := fn0, tmps := a.tmps, params := ps, assign, body, defers := w.heap.size }) = w2 at i3 hext
  have hargs : RVl P w2 ob2 S (first ++ [A.xo .yl (s.nx + 1)] ++ caps) (fa.toList ++ [Value.func (.yield (w.heap.size + 1)) #[] #[]] ++ ca.toList) := by
    refine RVl.append (RVl.append (RVl.mono hext _ _ e2) ?_) (RVl.mono hext _ _ e3)
    refine ⟨_, [], rfl, ?_, by simp [A.isSt], rfl⟩
    exact ⟨_, w.heap.size + 1, ho2, rfl, fun _ => by simp [oiX]⟩
  have hcall := calls_shared (s := ⟨s.tm, s.hp, s.nx + 2, upy (upy s.ys s.nx (some .dfr)) (s.nx + 1) (some (.loop ⟨ps, N, s.tm, assign, body, .ready, none⟩)), s.nx :: s.mks⟩) (g := g) hL hf hb hlen hrun he hrs hcr htup hmk i3 hargs
  refine ⟨w.heap.size + 1, [{ target := .collected w.heap.size, args := #[] }], w2, ⟨.fn (.func f) ca, fa ++ #[Value.func (.yield (w.heap.size + 1)) #[] #[]]⟩, w2, f, (fa.toList ++ [Value.func (.yield (w.heap.size + 1)) #[] #[]] ++ ca.toList).toArray, w2,
    by rw [← hw2]; exact run_enterLoop_outer fn0 a.tmps ps assign body, by simp [resolve, e1, Deferred.ofValue, hcv], fun _ _ => trivial, ?_, fun h => by simp [Fw, Fence.wide] at h, ?_⟩
  · have := callFunc_enter hf hname hb (fa.toList ++ [Value.func (.yield (w.heap.size + 1)) #[] #[]] ++ ca.toList).toArray w2
    simp only [invoke]
    rw [← this]
    congr 2
    apply Array.toList_inj.1; simp
  · refine callsIn_Fw.2 (hcall.mono fun e3' w3 h3 => ?_)
    obtain ⟨v, ob3, S3, rfl, -, e5, i4⟩ := h3
    have hy' : (if (s.nx + 1) ∈ s2.mks then none else s2.ys (s.nx + 1)) = some (.loop y2) := by simp only [hnm, if_false]; exact hy
    obtain ⟨-, oj, lj, p2, p3, p4, p5, p6, fn1, tmps1, D1, p7, p8, p9⟩ := i4.xs (s.nx + 1) _ hy'
    have hlj : lj = w.heap.size + 1 := by
      obtain ⟨oi3, q1, q2, q3⟩ := e5.tab _ _ ho2
      rw [p2] at q1; cases q1
      rw [q3 (by rw [p3]; rfl)] at p4
      cases p4; simp
    subst hlj
    have i5 := i4.putObj (x' := none) (obj := .loop { state := .exhausted, pending := y2.pend, fn := fn1, tmps := tmps1, params := y2.ps, assign := y2.assign, body := y2.body, defers := D1 }) hy' p2 p4 (fun y h => by cases h)
      (by
        intro h
        rcases List.mem_cons.1 h with h | h
        · omega
        · have := (hmk _ (List.mem_cons_of_mem _ h)).1
          rw [hy] at this; cases this)
    refine ⟨_, _, run_endLoop p7 hst, ?_⟩
    have hfin : Q e' { a with defers := ⟨.collected w.heap.size, #[]⟩ :: a.defers } (w3.putObj (w.heap.size + 1) (.loop { state := .exhausted, pending := y2.pend, fn := fn1, tmps := tmps1, params := y2.ps, assign := y2.assign, body := y2.body, defers := D1 })) := by
      refine hQ _ _ ⟨ob3, S3, ?_⟩
      have e6 : (upy (fun k => if k ∈ s2.mks then none else s2.ys k) (s.nx + 1) none) = fun k => if k ∈ (s.nx + 1) :: s2.mks then none else s2.ys k := by
        funext k
        simp only [upy, List.mem_cons]
        by_cases e1 : k = s.nx + 1 <;> by_cases e2 : k ∈ s2.mks <;> simp [e1, e2]
      simp only at i5
      rw [e6] at i5
      exact i5
    cases hpe : y2.pend with
    | none => rw [hpe] at hp hfin; simp only [pendExit, Option.some.injEq] at hp; subst hp; exact hfin
    | some cc =>
      rw [hpe] at hp hfin
      simp only
      cases cc <;> simp only [pendExit, Option.some.injEq, reduceCtorEq] at hp
      · subst hp; exact wpIn_exit hfin
      · subst hp; exact wpIn_goto hfin
      · subst hp; exact wpIn_ret hfin

end
end Go.Ab
