import Derived.Test.YthfkhnoehehpmaaGreatAl
set_option linter.unusedVariables false
set_option linter.unusedSimpArgs false
/- THE TABLE OF TYPES IS CHECKED BY COMPUTING. -/
namespace Go.Ab
noncomputable section

def valB : Value → Value → Bool
  | .int k n, .int k' m => decide (k = k') && decide (n = m)
  | .bool a, .bool b => a == b
  | .string a, .string b => a.data.toList == b.data.toList
  | .slice none n c, .slice none n' c' => n == n' && c == c'
  | .pointer none, .pointer none => true
  | .nilFunc, .nilFunc => true
  | .nilIface, .nilIface => true
  | .map none, .map none => true
  | _, _ => false

theorem valB_eq {a b : Value} (h : valB a b = true) : a = b := by
  unfold valB at h
  split at h
  · simp only [Bool.and_eq_true, decide_eq_true_eq] at h; rw [h.1, h.2]
  · have := eq_of_beq h; rw [this]
  · rename_i x y
    have := eq_of_beq h
    cases x; cases y
    simp only at this
    rw [Array.toList_inj.1 this]
  · simp only [Bool.and_eq_true, beq_iff_eq] at h; rw [h.1, h.2]
  · rfl
  · rfl
  · rfl
  · rfl
  · cases h

def valsB : List Value → List Value → Bool
  | [], [] => true
  | x :: l, y :: m => valB x y && valsB l m
  | _, _ => false

theorem valsB_eq : ∀ {l m : List Value}, valsB l m = true → l = m
  | [], [], _ => rfl
  | x :: l, y :: m, h => by
    simp only [valsB, Bool.and_eq_true] at h
    rw [valB_eq h.1, valsB_eq h.2]
  | [], _ :: _, h => by simp [valsB] at h
  | _ :: _, [], h => by simp [valsB] at h

def isAggV : Value → Bool
  | .agg _ => true
  | _ => false

def isOtherD : TypeDesc → Bool
  | .struct _ => false
  | .array .. => false
  | .slice _ => false
  | _ => true

def fldsB (L : Lay) (fs : List Field) : List TypeId → List Sh → Nat → Nat → Bool
  | [], [], _, _ => true
  | ft :: fts, s :: shs, i, off => (match L ft, fs[i]? with
      | some df, some f => Sh.eqb s df.sh && (Nat.beq f.type ft && Nat.beq f.offset off)
      | _, _ => false) && fldsB L fs fts shs (i + 1) (off + s.width)
  | _, _, _, _ => false

def repB (s : Sh) : Nat → List Sh → Bool
  | 0, [] => true
  | n + 1, x :: l => Sh.eqb x s && repB s n l
  | _, _ => false

theorem repB_eq {s : Sh} : ∀ {n : Nat} {l : List Sh}, repB s n l = true → l = List.replicate n s
  | 0, [], _ => rfl
  | n + 1, x :: l, h => by
    simp only [repB, Bool.and_eq_true] at h
    rw [Sh.eqb_eq _ _ h.1, repB_eq h.2, List.replicate_succ]
  | 0, _ :: _, h => by simp [repB] at h
  | _ + 1, [], h => by simp [repB] at h

theorem fldsB_spec {L : Lay} {fs : List Field} : ∀ {fts : List TypeId} {shs : List Sh} {i off : Nat}, fldsB L fs fts shs i off = true →
    shs.length = fts.length ∧ ∀ k ft, fts[k]? = some ft → ∃ df f, L ft = some df ∧ shs[k]? = some df.sh ∧ fs[i + k]? = some f ∧ f.type = ft ∧ f.offset = off + Sh.widths (shs.take k)
  | [], [], _, _, _ => ⟨rfl, fun k ft h => by simp at h⟩
  | ft :: fts, s :: shs, i, off, h => by
    simp only [fldsB, Bool.and_eq_true] at h
    obtain ⟨h1, h2⟩ := h
    obtain ⟨h3, h4⟩ := fldsB_spec h2
    refine ⟨by simp [h3], fun k ft' hk => ?_⟩
    cases k with
    | zero =>
      simp only [List.getElem?_cons_zero, Option.some.injEq] at hk; subst hk
      split at h1
      · rename_i df f hd hf
        simp only [Bool.and_eq_true] at h1
        obtain ⟨q1, q2, q3⟩ := h1
        exact ⟨df, f, hd, by rw [Sh.eqb_eq _ _ q1]; rfl, by simpa using hf, Nat.eq_of_beq_eq_true q2, by rw [Nat.eq_of_beq_eq_true q3]; simp [Sh.widths]⟩
      · cases h1
    | succ k =>
      simp only [List.getElem?_cons_succ] at hk
      obtain ⟨df, f, q1, q2, q3, q4, q5⟩ := h4 k ft' hk
      refine ⟨df, f, q1, by simpa using q2, by rw [← q3]; congr 1; omega, q4, ?_⟩
      rw [q5, List.take_succ_cons]; simp [Sh.widths]; omega
  | [], _ :: _, _, _, h => by simp [fldsB] at h
  | _ :: _, [], _, _, h => by simp [fldsB] at h

def undB (P : Program) (L : Lay) (t : TypeId) (d : TD) : Bool := match d.k, P.underlying t, d.sh with
  | .int k, some (.int k'), .leaf => decide (k = k')
  | .bool, some .bool, .leaf => true
  | .str, some .string, .leaf => true
  | .sl e, some (.slice e'), .leaf => Nat.beq e e'
  | .arr n e, some (.array n' e'), .node l => Nat.beq n n' && (Nat.beq e e' && (match L e with
    | some de => repB de.sh n l
    | none => false))
  | .st fts, some (.struct fs), .node shs => Nat.beq fs.size fts.length && fldsB L fs.toList fts shs 0 0
  | .other, some u, .leaf => isOtherD u
  | _, _, _ => false

def tokB (P : Program) (L : Lay) (t : TypeId) (d : TD) : Bool :=
  Nat.blt 0 d.sh.width && (Nat.blt 0 d.byt && ((!d.eq || (!P.stoodInHeld t && (!P.eqGuardType P.depth t && (match P.underlying t with
    | some (.struct fs) => fs.toList.all fun f => f.name != "_"
    | _ => true)))) && ((match P.info? t with
    | some i => match i.zero, d.zero.flat with
      | some z, some cs => Nat.beq i.size d.sh.width && (Nat.beq i.bytes d.byt && (valsB cs z.cells.toList && ((d.zero.isSt == isAggV z) && Sh.eqb d.zero.shp d.sh)))
      | _, _ => false
    | none => false) && undB P L t d)))

theorem tokB_ok {P : Program} {L : Lay} {t : TypeId} {d : TD} (h : tokB P L t d = true) : TOk P L t d := by
  simp only [tokB, Bool.and_eq_true, Nat.blt_eq] at h
  obtain ⟨h1, h2, h3, h4, h5⟩ := h
  refine ⟨h1, h2, fun he => ?_, ?_, ?_⟩
  · simp only [he, Bool.not_true, Bool.false_or, Bool.and_eq_true, Bool.not_eq_true'] at h3
    refine ⟨h3.1, h3.2.1, fun fs hfs f hf => ?_⟩
    have h6 := h3.2.2
    rw [hfs] at h6
    simp only [List.all_eq_true] at h6
    have := h6 f hf
    simpa using this
  · cases hi : P.info? t with
    | none => simp [hi] at h4
    | some i =>
      simp only [hi] at h4
      cases hz : i.zero with
      | none => simp [hz] at h4
      | some z =>
        cases hc : d.zero.flat with
        | none => simp [hz, hc] at h4
        | some cs =>
          simp only [hz, hc, Bool.and_eq_true] at h4
          obtain ⟨q1, q2, q3, q4, q5⟩ := h4
          refine ⟨i, z, rfl, Nat.eq_of_beq_eq_true q1, Nat.eq_of_beq_eq_true q2, hz, by rw [valsB_eq q3], ?_, Sh.eqb_eq _ _ q5⟩
          have q4 := eq_of_beq q4
          rw [q4]
          cases z <;> simp [isAggV]
  · unfold undB at h5
    split at h5
    · rename_i k k' hk hu hs
      simp only [hk, hu, hs]
      have := of_decide_eq_true h5; subst this; exact ⟨rfl, trivial⟩
    · rename_i hk hu hs; simp only [hk, hu, hs]; exact ⟨trivial, trivial⟩
    · rename_i hk hu hs; simp only [hk, hu, hs]; exact ⟨trivial, trivial⟩
    · rename_i e e' hk hu hs
      simp only [hk, hu, hs]
      have := Nat.eq_of_beq_eq_true h5; subst this; exact ⟨rfl, trivial⟩
    · rename_i n e n' e' l hk hu hs
      simp only [hk, hu, hs]
      simp only [Bool.and_eq_true] at h5
      obtain ⟨q1, q2, q3⟩ := h5
      have := Nat.eq_of_beq_eq_true q1; subst this
      have := Nat.eq_of_beq_eq_true q2; subst this
      split at q3
      · rename_i de hde
        exact ⟨rfl, de, hde, by rw [repB_eq q3]⟩
      · cases q3
    · rename_i fts fs shs hk hu hs
      simp only [hk, hu, hs]
      simp only [Bool.and_eq_true] at h5
      obtain ⟨q1, q2⟩ := fldsB_spec h5.2
      refine ⟨fs, shs, rfl, rfl, q1, Nat.eq_of_beq_eq_true h5.1, fun k ft hft => ?_⟩
      obtain ⟨df, f, p1, p2, p3, p4, p5⟩ := q2 k ft hft
      exact ⟨df, f, p1, p2, by simpa using p3, p4, by rw [p5]; omega⟩
    · rename_i u hk hu hs
      simp only [hk, hu, hs]
      refine ⟨trivial, u, rfl, ?_, ?_, ?_⟩
      · rintro fs rfl; simp [isOtherD] at h5
      · rintro n e rfl; simp [isOtherD] at h5
      · rintro e rfl; simp [isOtherD] at h5
    · cases h5

/-- all entries of a table -/
def trF {α : Type} (p : Nat → α → Bool) : Tr α → (Nat → Nat) → Bool
  | .lf, _ => true
  | .nd v l r, ι => (match v with
    | some x => p (ι 0) x
    | none => true) && (trF p l (fun n => ι (2 * n + 1)) && trF p r (fun n => ι (2 * n + 2)))

theorem trF_spec {α : Type} {p : Nat → α → Bool} : ∀ {t : Tr α} {ι : Nat → Nat} {n : Nat} {x : α}, trF p t ι = true → t.get n = some x → p (ι n) x = true
  | .lf, ι, n, x, _, h => by cases h
  | .nd v l r, ι, n, x, hp, h => by
    simp only [trF, Bool.and_eq_true] at hp
    obtain ⟨h1, h2, h3⟩ := hp
    rw [Tr.get_nd] at h
    by_cases h0 : n = 0
    · subst h0
      simp only [if_true] at h
      subst h
      exact h1
    · simp only [h0, if_false] at h
      by_cases hm : n % 2 = 1
      · simp only [hm, if_true] at h
        have := trF_spec h2 h
        rwa [show 2 * (n / 2) + 1 = n by omega] at this
      · simp only [hm, if_false] at h
        have := trF_spec h3 h
        rwa [show 2 * (n / 2 - 1) + 2 = n by omega] at this

theorem lok_of {P : Program} {t : Tr TD} (h : trF (tokB P t.get) t id = true) : LOk P t.get := fun i _ hd => tokB_ok (trF_spec h hd)

/-- a function's code is one that the interpreter may run -/
def codeB (fn : Func) : Bool := match fn.body with
  | some c => !(fn.name == "runtime.NumGoroutine") && codeOk fn.ntmps c
  | none => true

theorem code_of {t : Tr Func} (h : trF (fun _ fn => codeB fn) t id = true) : ∀ f fn c, t.get f = some fn → fn.body = some c → (fn.name == "runtime.NumGoroutine") = false ∧ codeOk fn.ntmps c = true := by
  intro f fn c hf hb
  have := trF_spec h hf
  simp only [codeB, hb, Bool.and_eq_true, Bool.not_eq_true'] at this
  exact this

/-- the same, as a sentence -/
def trP {α : Type} (p : Nat → α → Prop) : Tr α → (Nat → Nat) → Prop
  | .lf, _ => True
  | .nd v l r, ι => (match v with
    | some x => p (ι 0) x
    | none => True) ∧ trP p l (fun n => ι (2 * n + 1)) ∧ trP p r (fun n => ι (2 * n + 2))

theorem trP_spec {α : Type} {p : Nat → α → Prop} : ∀ {t : Tr α} {ι : Nat → Nat} {n : Nat} {x : α}, trP p t ι → t.get n = some x → p (ι n) x
  | .lf, ι, n, x, _, h => by cases h
  | .nd v l r, ι, n, x, hp, h => by
    obtain ⟨h1, h2, h3⟩ := hp
    rw [Tr.get_nd] at h
    by_cases h0 : n = 0
    · subst h0
      simp only [if_true] at h
      subst h
      exact h1
    · simp only [h0, if_false] at h
      by_cases hm : n % 2 = 1
      · simp only [hm, if_true] at h
        have := trP_spec h2 h
        rwa [show 2 * (n / 2) + 1 = n by omega] at this
      · simp only [hm, if_false] at h
        have := trP_spec h3 h
        rwa [show 2 * (n / 2 - 1) + 2 = n by omega] at this

end
end Go.Ab
