import Derived.Test.YthfkhnoehehpmaaGreatAj
set_option linter.unusedVariables false
set_option linter.unusedSimpArgs false
/- TRIES, for the kernel. -/
namespace Go.Ab

inductive Tr (α : Type) where
  | lf
  | nd (v : Option α) (l r : Tr α)

noncomputable def Tr.get {α : Type} (t : Tr α) : Nat → Option α :=
  Tr.rec (motive := fun _ => Nat → Option α) (fun _ => none)
    (fun v _ _ ihl ihr n => Bool.rec (Bool.rec (ihr (Nat.sub (Nat.div n (nat_lit 2)) (nat_lit 1))) (ihl (Nat.div n (nat_lit 2))) (Nat.beq (Nat.mod n (nat_lit 2)) (nat_lit 1))) v (Nat.beq n (nat_lit 0))) t

/-- a path alone -/
noncomputable def Tr.one {α : Type} (x : α) (f : Nat) : Nat → Tr α :=
  Nat.rec (motive := fun _ => Nat → Tr α) (fun _ => .lf)
    (fun _ ih n => Bool.rec (Bool.rec (.nd none .lf (ih (Nat.sub (Nat.div n (nat_lit 2)) (nat_lit 1)))) (.nd none (ih (Nat.div n (nat_lit 2))) .lf) (Nat.beq (Nat.mod n (nat_lit 2)) (nat_lit 1))) (.nd (some x) .lf .lf) (Nat.beq n (nat_lit 0))) f

noncomputable def Tr.set {α : Type} (x : α) (f : Nat) (t : Tr α) : Nat → Tr α :=
  Tr.rec (motive := fun _ => Nat → Tr α) (Tr.one x f)
    (fun v l r ihl ihr n => Bool.rec (Bool.rec (.nd v l (ihr (Nat.sub (Nat.div n (nat_lit 2)) (nat_lit 1)))) (.nd v (ihl (Nat.div n (nat_lit 2))) r) (Nat.beq (Nat.mod n (nat_lit 2)) (nat_lit 1))) (.nd (some x) l r) (Nat.beq n (nat_lit 0))) t

theorem Tr.get_lf {α : Type} (n : Nat) : (Tr.lf : Tr α).get n = none := rfl

theorem Tr.get_nd {α : Type} (v : Option α) (l r : Tr α) (n : Nat) : (Tr.nd v l r).get n = if n = 0 then v else if n % 2 = 1 then l.get (n / 2) else r.get (n / 2 - 1) := by
  show (Bool.rec (Bool.rec (r.get (n / 2 - 1)) (l.get (n / 2)) (Nat.beq (n % 2) 1)) v (Nat.beq n 0) : Option α) = _
  cases h0 : Nat.beq n 0 with
  | true => have := Nat.eq_of_beq_eq_true h0; simp [this]
  | false =>
    have hn : n ≠ 0 := fun e => by subst e; simp at h0
    cases h1 : Nat.beq (n % 2) 1 with
    | true => have := Nat.eq_of_beq_eq_true h1; simp [hn, this]
    | false =>
      have : n % 2 ≠ 1 := fun e => by rw [e] at h1; simp at h1
      simp [hn, this]

theorem Tr.set_nd {α : Type} (x : α) (f : Nat) (v : Option α) (l r : Tr α) (n : Nat) : Tr.set x f (.nd v l r) n = if n = 0 then .nd (some x) l r else if n % 2 = 1 then .nd v (Tr.set x f l (n / 2)) r else .nd v l (Tr.set x f r (n / 2 - 1)) := by
  show (Bool.rec (Bool.rec (.nd v l (Tr.set x f r (n / 2 - 1))) (.nd v (Tr.set x f l (n / 2)) r) (Nat.beq (n % 2) 1)) (.nd (some x) l r) (Nat.beq n 0) : Tr α) = _
  cases h0 : Nat.beq n 0 with
  | true => have := Nat.eq_of_beq_eq_true h0; simp [this]
  | false =>
    have hn : n ≠ 0 := fun e => by subst e; simp at h0
    cases h1 : Nat.beq (n % 2) 1 with
    | true => have := Nat.eq_of_beq_eq_true h1; simp [hn, this]
    | false =>
      have : n % 2 ≠ 1 := fun e => by rw [e] at h1; simp at h1
      simp [hn, this]

theorem Tr.one_succ {α : Type} (x : α) (f n : Nat) : Tr.one x (f + 1) n = if n = 0 then .nd (some x) .lf .lf else if n % 2 = 1 then .nd none (Tr.one x f (n / 2)) .lf else .nd none .lf (Tr.one x f (n / 2 - 1)) := by
  show (Bool.rec (Bool.rec (.nd none .lf (Tr.one x f (n / 2 - 1))) (.nd none (Tr.one x f (n / 2)) .lf) (Nat.beq (n % 2) 1)) (.nd (some x) .lf .lf) (Nat.beq n 0) : Tr α) = _
  cases h0 : Nat.beq n 0 with
  | true => have := Nat.eq_of_beq_eq_true h0; simp [this]
  | false =>
    have hn : n ≠ 0 := fun e => by subst e; simp at h0
    cases h1 : Nat.beq (n % 2) 1 with
    | true => have := Nat.eq_of_beq_eq_true h1; simp [hn, this]
    | false =>
      have : n % 2 ≠ 1 := fun e => by rw [e] at h1; simp at h1
      simp [hn, this]

theorem Tr.get_one {α : Type} {x : α} : ∀ (f n m : Nat), n < f → (Tr.one x f n).get m = if n = m then some x else none
  | 0, _, _, h => absurd h (Nat.not_lt_zero _)
  | f + 1, n, m, h => by
    rw [Tr.one_succ]
    by_cases h0 : n = 0
    · subst h0
      simp only [if_true, Tr.get_nd, Tr.get_lf]
      by_cases hm : m = 0
      · simp [hm]
      · have : ¬ 0 = m := fun e => hm e.symm
        simp [hm, this]
    · simp only [h0, if_false]
      by_cases h1 : n % 2 = 1
      · simp only [h1, if_true, Tr.get_nd, Tr.get_lf]
        by_cases hm : m = 0
        · subst hm; simp [h0]
        · by_cases hm1 : m % 2 = 1
          · simp only [hm, hm1, if_true, if_false]
            rw [Tr.get_one f (n / 2) (m / 2) (by omega)]
            by_cases e : n = m
            · subst e; simp
            · have : ¬ n / 2 = m / 2 := by omega
              simp [e, this]
          · have : ¬ n = m := fun e => by subst e; exact hm1 h1
            simp [hm, hm1, this]
      · simp only [h1, if_false, Tr.get_nd, Tr.get_lf]
        by_cases hm : m = 0
        · subst hm; simp [h0]
        · by_cases hm1 : m % 2 = 1
          · have : ¬ n = m := fun e => by subst e; exact h1 hm1
            simp [hm, hm1, this]
          · simp only [hm, hm1, if_false]
            rw [Tr.get_one f (n / 2 - 1) (m / 2 - 1) (by omega)]
            by_cases e : n = m
            · subst e; simp
            · have : ¬ n / 2 - 1 = m / 2 - 1 := by omega
              simp [e, this]

theorem Tr.get_set {α : Type} {x : α} (f : Nat) : ∀ (t : Tr α) (n m : Nat), n < f → (Tr.set x f t n).get m = if n = m then some x else t.get m
  | .lf, n, m, h => Tr.get_one f n m h
  | .nd v l r, n, m, h => by
    rw [Tr.set_nd]
    by_cases h0 : n = 0
    · subst h0
      simp only [if_true, Tr.get_nd]
      by_cases hm : m = 0
      · simp [hm]
      · have : ¬ 0 = m := fun e => hm e.symm
        simp [hm, this]
    · simp only [h0, if_false]
      by_cases h1 : n % 2 = 1
      · simp only [h1, if_true, Tr.get_nd]
        by_cases hm : m = 0
        · subst hm; simp [h0]
        · by_cases hm1 : m % 2 = 1
          · simp only [hm, hm1, if_true, if_false]
            rw [Tr.get_set f l (n / 2) (m / 2) (by omega)]
            by_cases e : n = m
            · subst e; simp
            · have : ¬ n / 2 = m / 2 := by omega
              simp [e, this]
          · have : ¬ n = m := fun e => by subst e; exact hm1 h1
            simp [hm, hm1, this]
      · simp only [h1, if_false, Tr.get_nd]
        by_cases hm : m = 0
        · subst hm; simp [h0]
        · by_cases hm1 : m % 2 = 1
          · have : ¬ n = m := fun e => by subst e; exact h1 hm1
            simp [hm, hm1, this]
          · simp only [hm, hm1, if_false]
            rw [Tr.get_set f r (n / 2 - 1) (m / 2 - 1) (by omega)]
            by_cases e : n = m
            · subst e; simp
            · have : ¬ n / 2 - 1 = m / 2 - 1 := by omega
              simp [e, this]

end Go.Ab
