import Derived.Test.YthfkhnoehehpmaaGreatAe
import Derived.Laws.Slices
import Derived.Laws.BytesString
set_option linter.unusedVariables false
set_option linter.unusedSimpArgs false
/- THE OPERATIONS, ONE BY ONE (seventh part): slice expressions. -/
namespace Go.Ab
section
variable {P : Program} {L : Lay} {mine : Nat → Prop} {tm : Nat → Option A} {hp : Hp} {nx : Nat} {fr : Nat → Prop} {a : Act} {w : World} {ob : Nat → Option OI} {S : Nat → Prop}

theorem bound_ok (r : RS P L mine tm hp fr a.tmps w ob S) {d : Nat} {x : Option Operand} {n : Int} (h : boundA d (x.bind (evA tm)) = some n) (hs : x.isSome = (x.bind (evA tm)).isSome) :
    (x = none ∧ n = d) ∨ ∃ y k, x = some y ∧ a.eval y = .int k n := by
  cases x with
  | none => simp [boundA] at h; exact .inl ⟨rfl, h.symm⟩
  | some y =>
    simp only [Option.bind_some] at h hs
    cases hy : evA tm y with
    | none => simp [hy] at hs
    | some v =>
      rw [hy] at h
      unfold boundA at h
      split at h
      · rename_i e; cases e
      · rename_i e; cases e; cases h
        exact .inr ⟨y, _, rfl, (ev_int r hy).1⟩
      · cases h

theorem run_bounds (r : RS P L mine tm hp fr a.tmps w ob S) (is : Bool) (len cap : Nat) {lo hi mx : Option Operand} {x y z : Int}
    (h1 : (lo = none ∧ x = 0) ∨ ∃ u k, lo = some u ∧ a.eval u = .int k x) (h2 : (hi = none ∧ y = len) ∨ ∃ u k, hi = some u ∧ a.eval u = .int k y) (h3 : mx = none ∨ ∃ u k, mx = some u ∧ a.eval u = .int k z ∧ hi.isSome = true)
    (g1 : 0 ≤ x) (g2 : x ≤ y) (g3 : mx.isSome = true → y ≤ z ∧ z ≤ cap) (g4 : y ≤ cap) :
    (Instr.sliceBounds is len cap (lo.map a.eval) (hi.map a.eval) (mx.map a.eval)).run P w = .ok (x.toNat, y.toNat, if mx.isSome then z.toNat else cap) w := by
  have gy : 0 ≤ y := by omega
  have hsb : ∀ (k : IntKind) (i : Int) (m : Nat) (code : BoundsCode), 0 ≤ i → i ≤ m → (Instr.sliceBound (.int k i) m code).run P w = .ok i.toNat w := fun k i m code q1 q2 => by
    simp [Instr.sliceBound, asIntOf, q1, q2]
  unfold Instr.sliceBounds
  rcases h3 with rfl | ⟨u3, k3, rfl, e3, h4⟩
  · rcases h2 with ⟨rfl, rfl⟩ | ⟨u2, k2, rfl, e2⟩ <;> rcases h1 with ⟨rfl, rfl⟩ | ⟨u1, k1, rfl, e1⟩
    · simp
    · simp [e1, hsb, g1, show x ≤ (len : Int) from g2]
    · simp [e2, hsb, gy, g4]
    · simp [e1, e2, hsb, gy, g4, g1, Int.toNat_of_nonneg gy, g2]
  · obtain ⟨q1, q2⟩ := g3 rfl
    have gz : 0 ≤ z := by omega
    rcases h2 with ⟨rfl, rfl⟩ | ⟨u2, k2, rfl, e2⟩
    · simp at h4
    · rcases h1 with ⟨rfl, rfl⟩ | ⟨u1, k1, rfl, e1⟩
      · simp [e2, e3, hsb, gy, gz, q2, Int.toNat_of_nonneg gz, q1]
      · simp [e1, e2, e3, hsb, gy, gz, q2, Int.toNat_of_nonneg gz, q1, Int.toNat_of_nonneg gy, g2, g1]

theorem RCs.part {xs : List A} {cl : List Value} {e i j : Nat} (h : RCs P w ob S xs cl) (hw : ∀ y ∈ xs, y.shp.width = e) (hij : i ≤ j) (hj : j ≤ xs.length) :
    ∃ pre c post, cl = pre ++ c ++ post ∧ pre.length = i * e ∧ RCs P w ob S ((xs.take j).drop i) c := by
  have e1 : xs = xs.take i ++ ((xs.take j).drop i ++ xs.drop j) := by
    have h1 : (xs.take j).take i = xs.take i := by rw [List.take_take, Nat.min_eq_left hij]
    rw [← List.append_assoc, ← h1, List.take_append_drop, List.take_append_drop]
  rw [e1] at h
  obtain ⟨c1, d, q1, q2, q3⟩ := RCs.split h
  obtain ⟨c2, c3, q4, q5, q6⟩ := RCs.split q3
  refine ⟨c1, c2, c3, by rw [q1, q4]; simp, ?_, q5⟩
  have hl := RCs.len _ _ q2
  have hsh : A.shps (xs.take i) = (xs.take i).map A.shp := A.shps_eq _
  rw [hl]
  have : ∀ (l : List A), (∀ y ∈ l, y.shp.width = e) → Sh.widths (A.shps l) = l.length * e := by
    intro l
    induction l with
    | nil => intro _; simp [A.shps, Sh.widths]
    | cons x l ih => intro hh; simp only [A.shps, Sh.widths, hh x (by simp), ih (fun y hy => hh y (by simp [hy])), List.length_cons, Nat.succ_mul]; omega
  rw [this _ (fun y hy => hw y (List.mem_of_mem_take hy)), List.length_take, Nat.min_eq_left (by omega)]

theorem len_td {α : Type} (xs : List α) {i j : Nat} (hj : j ≤ xs.length) : ((xs.take j).drop i).length = j - i := by simp [Nat.min_eq_left hj]

/-- a slice of an array, in a block that is written no more -/
theorem arr_slice {S' : Nat → Prop} (hL : LOk P L) (r : RS P L mine tm hp fr a.tmps w ob S) {o : Oper} {t e : TypeId} {n : Nat} {d de : TD} {x : Operand} {lo hi : Option Operand} {xs : List A} {i j : Int} {b off : Nat} {cl : List Value}
    (ho : o.op = .slice t x lo hi none) (u1 : P.underlying t = some (.array n e)) (u2 : L e = some de) (u3 : d.sh = .node (List.replicate n de.sh)) (c3 : (A.st xs).shp = d.sh) (c0 : n * de.byt ≤ maxBytes)
    (e1 : a.eval x = .pointer (some ⟨b, off, none⟩)) (e2 : World.run w b off cl) (e3 : RCs P w ob S' xs cl) (hS : S' b)
    (hi1 : boundA 0 (lo.bind (evA tm)) = some i) (hj1 : boundA n (hi.bind (evA tm)) = some j) (c4 : 0 ≤ i) (c5 : i ≤ j) (c6 : j ≤ n) (c8 : lo.isSome = (lo.bind (evA tm)).isSome) (c9 : hi.isSome = (hi.bind (evA tm)).isSome) :
    ∃ v, runOp P a w o = .ok (.value v) w ∧ RV1 P w ob S' (.sl e ((xs.take j.toNat).drop i.toNat)) v := by
  have hsh : A.shps xs = List.replicate n de.sh := by
    have := c3.trans u3; simpa [A.shp] using this
  have hxl : xs.length = n := by have := congrArg List.length hsh; simpa [A.shps_eq] using this
  have hxw : ∀ y ∈ xs, y.shp.width = esz P e := fun y hy => by
    have : y.shp ∈ A.shps xs := by rw [A.shps_eq]; exact List.mem_map_of_mem hy
    rw [hsh] at this
    rw [List.eq_of_mem_replicate this, esz_eq (hL _ de u2)]
  have hrun := run_bounds (P := P) (w := w) r false n n (lo := lo) (hi := hi) (mx := none) (x := i) (y := j) (z := 0) (bound_ok r hi1 c8) (bound_ok r hj1 c9) (.inl rfl) c4 c5 (by simp) c6
  simp only [Option.map_none, Option.isSome_none, Bool.false_eq_true, if_false] at hrun
  have hlen := len_td xs (i := i.toNat) (j := j.toNat) (by omega)
  have hb := (hL _ de u2).byt
  have hn : n ≤ maxBytes := Nat.le_trans (Nat.le_mul_of_pos_right _ hb) c0
  refine ⟨.slice (some (if n = i.toNat then ⟨b, off, none⟩ else ⟨b, off + i.toNat * de.sh.width, none⟩)) (j.toNat - i.toNat) (n - i.toNat), ?_, RV1.of_leaf ?_ rfl⟩
  · simp [runOp, execOp, ho, Instr.sliceAt, run_underlying u1, e1, Instr.sureAddr, hrun, run_sizeOf (hL _ de u2), add_zero_addr]
  · refine ⟨_, _, by rw [hlen], by rw [hlen]; omega, ?_, by rw [hlen]; omega, fun y hy => hxw y (List.mem_of_mem_take (List.mem_of_mem_drop hy)), ?_⟩
    · rw [hlen, eby_eq (hL _ de u2)]
      exact Nat.le_trans (Nat.mul_le_mul_right _ (by omega)) c0
    · by_cases h0 : n = i.toNat
      · left
        apply List.eq_nil_of_length_eq_zero
        rw [hlen]; omega
      · right
        obtain ⟨pre, cc, post, g1, g2, g3⟩ := RCs.part e3 hxw (i := i.toNat) (j := j.toNat) (by omega) (by omega)
        subst g1
        refine ⟨b, off + i.toNat * de.sh.width, cc, by simp [h0], hS, ?_, g3⟩
        rw [← esz_eq (hL _ de u2), ← g2]
        exact run_sub e2

theorem good_slice (hL : LOk P L) (r : RS P L mine tm hp fr a.tmps w ob S) {o : Oper} {t : TypeId} {x : Operand} {lo hi mx : Option Operand} (ho : o.op = .slice t x lo hi mx) {c : Prop} {δ : Dl} (h : opv L (.slice t x lo hi mx) (evA tm) hp nx = some (c, δ)) (hc : c) :
    Good P L hp nx w ob S δ (runOp P a w o) := by
  simp only [opv] at h
  rw [Option.bind_eq_some_iff] at h; obtain ⟨d, hd, h⟩ := h
  have hu := (hL t d hd).und
  split at h
  · rename_i e' e xs hk hx
    simp only [hk] at hu
    obtain ⟨u1, -⟩ := hu
    rw [Option.bind_eq_some_iff] at h; obtain ⟨de, hde, h⟩ := h
    rw [Option.bind_eq_some_iff] at h; obtain ⟨i, hi1, h⟩ := h
    rw [Option.bind_eq_some_iff] at h; obtain ⟨j, hj1, h⟩ := h
    rw [Option.bind_eq_some_iff] at h; obtain ⟨m, hm1, h⟩ := h
    cases h
    obtain ⟨c0, c1, c2, c3, c4, c5, c6, c7, c8⟩ := hc
    subst c0
    obtain ⟨ad, cap, e1, e2, e3, e4, e5⟩ := ev_sl r hx
    have hrun := run_bounds (P := P) (w := w) r true xs.length cap (lo := lo) (hi := hi) (mx := mx) (x := i) (y := j) (z := m) (bound_ok r hi1 c5) (bound_ok r hj1 c6)
      (by
        rcases bound_ok r hm1 c7 with ⟨q, -⟩ | ⟨u, k, q1, q2⟩
        · exact .inl q
        · exact .inr ⟨u, k, q1, q2, c8 (by simp [q1])⟩) c1 c2 (fun _ => ⟨c3, by omega⟩) (by omega)
    have hj0 : 0 ≤ j := by omega
    have hlen := len_td xs (i := i.toNat) (j := j.toNat) (by omega)
    have hM : j.toNat ≤ (if mx.isSome then m.toNat else cap) := by split <;> omega
    generalize hMe : (if mx.isSome then m.toNat else cap) = M at hrun hM
    have hsl : (Instr.slice t (.slice ad xs.length cap) (lo.map a.eval) (hi.map a.eval) (mx.map a.eval)).run P w = .ok (.slice (if M = i.toNat then ad else ad.map (·.add (i.toNat * de.sh.width))) (j.toNat - i.toNat) (M - i.toNat)) w := by
      simp [Instr.slice, run_underlying u1, hrun, run_sizeOf (hL _ de hde)]
    refine Good.pure1 r (v := .slice (if M = i.toNat then ad else ad.map (·.add (i.toNat * de.sh.width))) (j.toNat - i.toNat) (M - i.toNat)) ?_ (RV1.of_leaf ?_ rfl) rfl
    · simp [runOp, execOp, ho, Instr.sliceAt, run_underlying u1, e1, hsl]
    · refine ⟨_, _, by rw [hlen], by rw [hlen]; omega, ?_, by rw [hlen]; have := e3.2; omega, fun y hy => e4 y (List.mem_of_mem_take (List.mem_of_mem_drop hy)), ?_⟩
      · rw [hlen]
        refine Nat.le_trans (Nat.mul_le_mul_right _ ?_) e3.1
        omega
      · by_cases h0 : M = i.toNat
        · left
          apply List.eq_nil_of_length_eq_zero
          rw [hlen]; omega
        · rcases e5 with e5 | ⟨b, off, cl, f1, f2, f3, f4⟩
          · left; simp [e5]
          · right
            obtain ⟨pre, cc, post, g1, g2, g3⟩ := RCs.part f4 e4 (i := i.toNat) (j := j.toNat) (by omega) (by omega)
            subst g1
            refine ⟨b, off + i.toNat * de.sh.width, cc, by simp [h0, f1, add_zero_addr], f2, ?_, g3⟩
            rw [← esz_eq (hL _ de hde), ← g2]
            exact run_sub f3
  · rename_i e' hk hx
    simp only [hk] at hu
    obtain ⟨u1, -⟩ := hu
    rw [Option.bind_eq_some_iff] at h; obtain ⟨de, hde, h⟩ := h
    rw [Option.bind_eq_some_iff] at h; obtain ⟨i, hi1, h⟩ := h
    rw [Option.bind_eq_some_iff] at h; obtain ⟨j, hj1, h⟩ := h
    cases h
    obtain ⟨c1, c2, c3, c4, c5⟩ := hc
    subst c1; subst c2; subst c3
    have e1 : a.eval x = .slice none 0 0 := by
      have := (RV1.leaf (rv1_of r hx rfl) rfl).2.1
      simpa [RC] using this
    have hrun := run_bounds (P := P) (w := w) r true 0 0 (lo := lo) (hi := hi) (mx := none) (x := 0) (y := 0) (z := 0) (by have := bound_ok r hi1 c4; simpa using this) (by have := bound_ok r hj1 c5; simpa using this) (.inl rfl) (by omega) (by omega) (by simp) (by omega)
    have hez := run_sizeOf (hL _ de hde)
    refine Good.pure1 r (v := .slice none 0 0) ?_ (RV1.of_leaf rfl rfl) rfl
    simp only [Option.map_none, Option.isSome_none, Bool.false_eq_true, if_false, Int.toNat_zero] at hrun
    simp [runOp, execOp, ho, Instr.sliceAt, run_underlying u1, e1, Instr.slice, hrun, hez]
  · rename_i e o' ver off len hk hx
    simp only [hk] at hu
    obtain ⟨u1, -⟩ := hu
    rw [Option.bind_eq_some_iff] at h; obtain ⟨de, hde, h⟩ := h
    rw [Option.bind_eq_some_iff] at h; obtain ⟨i, hi1, h⟩ := h
    rw [Option.bind_eq_some_iff] at h; obtain ⟨j, hj1, h⟩ := h
    rw [Option.bind_eq_some_iff] at h; obtain ⟨z, hz, h⟩ := h
    cases h
    obtain ⟨c1, c2, c3, c4, c5, c6, c7, c8⟩ := hc
    subst c6
    obtain ⟨oi, e', ad, cap, e1, e2, e3, e4, e5, e6, e7, e8⟩ := own_now r hz c1 (rv1_of r hx rfl)
    rw [c2] at e4; cases e4
    have hcap : len ≤ cap := by
      cases hb : oi.blk with
      | none => simp only [hb] at e8; omega
      | some b => simp only [hb] at e8; omega
    have hrun := run_bounds (P := P) (w := w) r true len cap (lo := lo) (hi := hi) (mx := none) (x := i) (y := j) (z := 0) (bound_ok r hi1 c7) (bound_ok r hj1 c8) (.inl rfl) c3 c4 (by simp) (by omega)
    simp only [Option.map_none, Option.isSome_none, Bool.false_eq_true, if_false] at hrun
    refine Good.pure1 r (v := .slice (if cap = i.toNat then ad else ad.map (·.add (i.toNat * de.sh.width))) (j.toNat - i.toNat) (cap - i.toNat)) ?_ (RV1.of_leaf ?_ rfl) rfl
    · simp [runOp, execOp, ho, Instr.sliceAt, run_underlying u1, e5, Instr.slice, hrun, run_sizeOf (hL _ de hde)]
    · have hji : (j - i).toNat = j.toNat - i.toNat := by omega
      refine ⟨oi, _, _, e1, by rw [hji], by omega, by omega, fun _ => ⟨e, e3, ?_⟩⟩
      cases hb : oi.blk with
      | none =>
        simp only [hb] at e8 ⊢
        obtain ⟨q1, q2, q3, q4⟩ := e8
        have : i.toNat = 0 := by omega
        simp [q1, q2, q4, this]
        omega
      | some b =>
        simp only [hb] at e8 ⊢
        obtain ⟨q1, q2, q3⟩ := e8
        refine ⟨by omega, by omega, ?_⟩
        by_cases h0 : cap = i.toNat
        · left; omega
        · rcases q3 with q3 | q3
          · omega
          · right
            simp [h0, q3, add_zero_addr, esz_eq (hL _ de hde), Nat.add_mul]
  · rename_i n e o' ver p s hk hx
    simp only [hk] at hu
    obtain ⟨u1, de, u2, u3⟩ := hu
    rw [Option.bind_eq_some_iff] at h; obtain ⟨de', hde, h⟩ := h
    rw [u2] at hde; cases hde
    rw [Option.bind_eq_some_iff] at h; obtain ⟨z, hz, h⟩ := h
    rw [Option.bind_eq_some_iff] at h; obtain ⟨y, hy, h⟩ := h
    split at h <;> try cases h
    rename_i xs
    rw [Option.bind_eq_some_iff] at h; obtain ⟨i, hi1, h⟩ := h
    rw [Option.bind_eq_some_iff] at h; obtain ⟨j, hj1, h⟩ := h
    cases h
    obtain ⟨c1, c2, c3, c0, c4, c5, c6, c7, c8, c9⟩ := hc
    subst c7
    obtain ⟨b, off, cl, oi, e1, e2, e3, e4, e5, e6⟩ := obj_part r hz c1 hy (rv1_of r hx rfl)
    by_cases hfz : z.fz = true
    · have hSb : S b := by
        obtain ⟨oi2, q1, q2, q3, q4⟩ := r.hp _ _ hz
        rw [e4] at q1; cases q1
        exact q4 hfz b e5
      obtain ⟨v, h1, h2⟩ := arr_slice (S' := S) hL r (o := o) ho u1 u2 u3 c3 c0 e1 e2 e3 hSb hi1 hj1 c4 c5 c6 c8 c9
      rw [if_pos hfz]
      exact ⟨v, w, ob, S, .inl h1, Does.refl r, h2, fun _ _ h => by simp [look] at h⟩
    rw [if_neg hfz]
    have hdoes := does_freeze r hz e4
    obtain ⟨v, h1, h2⟩ := arr_slice (S' := fun b => S b ∨ oi.blk = some b) hL r (o := o) ho u1 u2 u3 c3 c0 e1 e2 (RCs.mono hdoes.ext _ _ e3) (.inr e5) hi1 hj1 c4 c5 c6 c8 c9
    refine ⟨v, w, ob, _, .inl h1, hdoes, h2, fun o2 y2 h2 => ?_⟩
    simp only [look_one] at h2
    split at h2
    · rename_i e; subst e; cases h2; exact .inl ⟨_, hz, fun h => by cases h⟩
    · cases h2
  · rename_i n e y hk hx
    simp only [hk] at hu
    obtain ⟨u1, de, u2, u3⟩ := hu
    rw [Option.bind_eq_some_iff] at h; obtain ⟨de', hde, h⟩ := h
    rw [u2] at hde; cases hde
    split at h <;> try cases h
    rename_i xs
    rw [Option.bind_eq_some_iff] at h; obtain ⟨i, hi1, h⟩ := h
    rw [Option.bind_eq_some_iff] at h; obtain ⟨j, hj1, h⟩ := h
    cases h
    obtain ⟨c3, c0, c4, c5, c6, c7, c8, c9⟩ := hc
    subst c7
    obtain ⟨b, off, cl, e1, e0, e2, e3⟩ := iptr_now (rv1_of r hx rfl)
    obtain ⟨v, h1, h2⟩ := arr_slice (S' := S) hL r (o := o) ho u1 u2 u3 c3 c0 e1 e2 e3 e0 hi1 hj1 c4 c5 c6 c8 c9
    exact Good.pure1 r h1 h2 rfl
  · cases h

end
end Go.Ab

/- THE OPERATIONS, ONE BY ONE (eighth part): append, clear, texts of bytes. -/
namespace Go.Ab

/-- an append that must grow -/
theorem run_append_g {P : Program} {w : World} (t ty e : TypeId) (i : TypeInfo) (z : Value) (ht : P.underlying t = some (.slice e)) (hi : P.info? e = some i) (hz : i.zero = some z)
    (base : Option Addr) (sLen sCap : Nat) (olds : List Value) (holds : (Builtin.firstCells i.size sLen (.slice base sLen sCap)).run P w.drew = .ok olds.toArray w.drew)
    (x : Option Addr) (n c : Nat) (news : List Value) (hnews : (Builtin.firstCells i.size n (.slice x n c)).run P w.drew = .ok news.toArray w.drew)
    (hg : sCap < sLen + n) (h63 : sLen + n ≤ maxBytes) (hfit : (sLen + n) * i.bytes ≤ maxBytes) :
    (Builtin.append_ #[t, t] ty #[.slice base sLen sCap, .slice x n c]).run P w =
      .ok (.slice (some ⟨w.heap.size, 0, none⟩) (sLen + n) (grownCap w (sLen + n) sCap e))
        (w.drew.alloc (.cells (olds.toArray ++ news.toArray ++ Builtin.zeroCells z.cells (grownCap w (sLen + n) sCap e - (sLen + n))) e)) := by
  have hn : ¬ (sLen + n ≤ sCap) := by omega
  unfold maxBytes at h63 hfit
  have h63' : ¬ (9223372036854775807 < ((sLen : Int) + (n : Int))) := by omega
  have h48 := growslice_fits hg hfit
  have h48' : ¬ (281474976710656 < Builtin.nextslicecap (sLen + n) sCap * i.bytes) := by omega
  simp [Builtin.append_, run_underlying ht, sizeOf, typeInfo, zeroValue, hi, hz, Builtin.lenOf, hn, h63', h48', Question.forced, holds, hnews, newRow, grownCap]
  congr 2
  apply Array.ext'
  simp

section
variable {P : Program} {L : Lay} {mine : Nat → Prop} {tm : Nat → Option A} {hp : Hp} {nx : Nat} {fr : Nat → Prop} {a : Act} {w : World} {ob : Nat → Option OI} {S : Nat → Prop}

/-- the cells behind something that is like a slice -/
theorem elems_run (r : RS P L mine tm hp fr a.tmps w ob S) (hL : LOk P L) {e : TypeId} {de : TD} (hde : L e = some de) {v : A} {u : Value} {c : Prop} {xs : List A} {rd : List Nat} (h : elemsOf hp v = some (c, xs, rd)) (hc : c) (hv : RV1 P w ob S v u) (hx : ∀ y ∈ xs, y.shp = de.sh) :
    ∃ ad cap cl, u = .slice ad xs.length cap ∧ xs.length ≤ maxBytes ∧ cl.length = xs.length * de.sh.width ∧ RCs P w ob S xs cl ∧
      ∀ w', w'.heap = w.heap → (Builtin.firstCells de.sh.width xs.length (.slice ad xs.length cap)).run P w' = .ok cl.toArray w' := by
  have hlen : ∀ cl, RCs P w ob S xs cl → cl.length = xs.length * de.sh.width := fun cl hh => by
    rw [RCs.len _ _ hh, show A.shps xs = List.replicate xs.length de.sh from by rw [A.shps_eq]; exact replicate_of_all _ _ xs hx, widths_replicate]
  have hrun : ∀ b off cl ad cap, ad = some (⟨b, off, none⟩ : Addr) → World.run w b off cl → RCs P w ob S xs cl → ∀ w' : World, w'.heap = w.heap → (Builtin.firstCells de.sh.width xs.length (.slice ad xs.length cap)).run P w' = .ok cl.toArray w' := by
    intro b off cl ad cap e1 e2 e3 w' hw'
    rw [e1]
    refine run_firstCells_some w' _ _ _ _ _ cl (hlen cl e3) (cell_of_run ?_)
    obtain ⟨arr, t, fz, h1, h2⟩ := e2
    exact ⟨arr, t, fz, by rw [hw']; exact h1, h2⟩
  have hnil : xs = [] → ∀ ad cap (w' : World), (Builtin.firstCells de.sh.width xs.length (.slice ad xs.length cap)).run P w' = .ok ([] : List Value).toArray w' := by
    intro e ad cap w'
    subst e
    cases ad with
    | none => simp [Builtin.firstCells]
    | some b => exact run_firstCells_some w' _ _ _ _ _ [] (by simp) (by simp)
  cases v with
  | sl e' ys =>
    simp only [elemsOf, Option.some.injEq, Prod.mk.injEq] at h
    obtain ⟨-, rfl, -⟩ := h
    obtain ⟨ad, cap, k1, k2, k3, k0, k4, k5⟩ := (RV1.leaf hv rfl).2.1
    simp only [List.cons.injEq, and_true] at k1
    rcases k5 with k5 | ⟨b, off, cl, f1, f2, f3, f4⟩
    · exact ⟨ad, cap, [], k1, k0, by simp [k5], by rw [k5]; rfl, fun w' _ => hnil k5 ad cap w'⟩
    · exact ⟨ad, cap, cl, k1, k0, hlen cl f4, f4, hrun b off cl ad cap f1 f3 f4⟩
  | nilsl =>
    simp only [elemsOf, Option.some.injEq, Prod.mk.injEq] at h
    obtain ⟨-, rfl, -⟩ := h
    have := (RV1.leaf hv rfl).2.1
    simp [RC] at this
    exact ⟨none, 0, [], this, by simp, by simp, rfl, fun w' _ => hnil rfl none 0 w'⟩
  | own o ver off len =>
    simp only [elemsOf] at h
    split at h <;> try cases h
    rename_i z hz
    obtain ⟨c1, c2, c3⟩ := hc
    obtain ⟨oi, e', ad, cap, e1, e2, e3, e4, e5, e6, e7, e8⟩ := own_now r hz c1 hv
    have hl : (((elems z).drop off).take len).length = len := by simp; omega
    rw [hl]
    rw [hl] at hrun hnil hlen
    by_cases h0 : len = 0
    · subst h0
      refine ⟨ad, cap, [], e5, by simp, by simp, by simp; rfl, fun w' _ => hnil (by simp) ad cap w'⟩
    · cases hb : oi.blk with
      | none => simp only [hb] at e8; omega
      | some b =>
        simp only [hb] at e8
        have e8' : ad = some ⟨b, off * esz P e', none⟩ ∧ off + cap = oi.cap ∧ len ≤ cap := by
          obtain ⟨q1, q2, q3⟩ := e8
          rcases q3 with q3 | q3
          · omega
          · exact ⟨q3, q1, q2⟩
        obtain ⟨f1, f2, f3⟩ := e8'
        obtain ⟨-, -, q⟩ := e7
        simp only [hb, e4] at q
        obtain ⟨arr, tt, g1, ys, de', cl, rest, g2, g3, g4, g5, g6, g7, g8, g9, g10⟩ := q
        have hel : elems z = ys := by simp [elems, g2]
        have hwe : esz P e' = de'.sh.width := esz_eq (hL _ de' g3)
        obtain ⟨pre, cc, post, q1, q2, q3⟩ := RCs.part g8 (e := esz P e') (fun y hy => by rw [g4 y hy, hwe]) (i := off) (j := off + len) (by omega) (by rw [← hel]; omega)
        have q3' : RCs P w ob S (((elems z).drop off).take len) cc := by
          rw [hel]
          have : (ys.take (off + len)).drop off = (ys.drop off).take len := by rw [List.drop_take]; congr 1; omega
          rwa [this] at q3
        have hrunw : World.run w b (off * esz P e') cc := ⟨arr, tt, _, g1, pre, post ++ rest, by rw [g7, q1]; simp, q2⟩
        exact ⟨ad, cap, cc, e5, e6, hlen cc q3', q3', hrun b (off * esz P e') cc ad cap f1 hrunw q3'⟩
  | _ => simp [elemsOf] at h

theorem bytes_str : ∀ (xs : List A) (cl : List Value), (∀ x ∈ xs, ∃ b : UInt8, x = u8 b) → RCs P w ob S xs cl → cl = (xs.map fun x => ((byteOf x).toNat : Int)).map (Value.int .u8)
  | [], cl, _, h => by simpa [RCs] using h
  | x :: xs, cl, hx, h => by
    obtain ⟨c, d, h1, h2, h3⟩ := h
    obtain ⟨b, rfl⟩ := hx x (by simp)
    have := bytes_str xs d (fun y hy => hx y (by simp [hy])) h3
    have hc : c = [.int .u8 b.toNat] := h2.1
    simp [h1, hc, this, u8, byteOf]

theorem foldl_push : ∀ (ns : List UInt8) (s : ByteArray), (ns.map fun b => (b.toNat : Int)).foldl (fun r n => r.push (UInt8.ofNat n.toNat)) s = ⟨(s.data.toList ++ ns).toArray⟩
  | [], s => by simp
  | b :: ns, s => by
    simp only [List.map_cons, List.foldl_cons]
    rw [foldl_push ns]
    have e : (s.push (UInt8.ofNat ((b.toNat : Int)).toNat)).data.toList = s.data.toList ++ [b] := by simp [ByteArray.push]
    rw [e]; simp

theorem good_convStr (hL : LOk P L) (r : RS P L mine tm hp fr a.tmps w ob S) {o : Oper} {s t e : TypeId} {x : Operand} (ho : o.op = .convert s t x) {d ds de : TD} (hd : L t = some d) (hk : d.k = .str) (hds : L s = some ds) (hks : ds.k = .sl e) (hde : L e = some de) (hke : de.k = .int .u8)
    {v : A} (hx : evA tm x = some v) {c : Prop} {xs : List A} {rd : List Nat} (h : elemsOf hp v = some (c, xs, rd)) (hc : c) (hb : ∀ x ∈ xs, ∃ b : UInt8, x = u8 b) : Good P L hp nx w ob S ⟨.str (xs.map byteOf), [], rd, 0⟩ (runOp P a w o) := by
  have hut := (hL t d hd).und
  simp only [hk] at hut
  have hus := (hL s ds hds).und
  simp only [hks] at hus
  have hue := (hL e de hde).und
  simp only [hke] at hue
  have hvt : v.isTup = false := by cases v <;> simp [elemsOf] at h <;> rfl
  obtain ⟨ad, cap, cl, h1, h2, h3, h4, h5⟩ := elems_run r hL hde h hc (rv1_of r hx hvt) (fun y hy => by obtain ⟨b, rfl⟩ := hb y hy; rw [hue.2]; rfl)
  have hcl := bytes_str xs cl hb h4
  have hw1 : de.sh.width = 1 := by rw [hue.2]; simp [Sh.width]
  refine Good.pure1 r (v := .string ⟨(xs.map byteOf).toArray⟩) ?_ (RV1.of_leaf rfl rfl) rfl
  have hrun : (Conv.bytesToString (.slice ad xs.length cap)).run P w = .ok (.string ⟨(xs.map byteOf).toArray⟩) w := by
    cases ad with
    | none =>
      have := h5 w rfl
      simp only [Builtin.firstCells, Sem.run_pure, Result.ok.injEq, and_true] at this
      have hcl0 : cl = [] := by
        have := congrArg Array.toList this
        simpa using this.symm
      have hxs : xs = [] := by
        rw [hcl0, hw1] at h3
        exact List.eq_nil_of_length_eq_zero (by simpa using h3.symm)
      subst hxs
      simp [Conv.bytesToString]
      rfl
    | some b =>
      have := h5 w rfl
      simp only [Builtin.firstCells, hw1, Nat.mul_one] at this
      rw [hcl] at this
      rw [run_bytesToString w b xs.length cap _ this]
      have := foldl_push (xs.map byteOf) ByteArray.empty
      simp only [List.map_map] at this
      rw [show (xs.map fun x => ((byteOf x).toNat : Int)) = xs.map ((fun b : UInt8 => (b.toNat : Int)) ∘ byteOf) from rfl, this]
      rfl
  simp [runOp, execOp, ho, h1, run_convert_bytes_string w s t e ad xs.length cap hus.1 hue.1 hut.1, hrun]


theorem run_append_in {P : Program} {w : World} (t ty e : TypeId) (i : TypeInfo) (ht : P.underlying t = some (.slice e)) (hi : P.info? e = some i) (base : Option Addr) (sLen sCap : Nat)
    (x : Option Addr) (n c : Nat) (news : List Value) (hnews : (Builtin.firstCells i.size n (.slice x n c)).run P w = .ok news.toArray w) (hg : sLen + n ≤ sCap) {w' : World}
    (hw : ∀ b, base = some b → (storeCells (b.add (sLen * i.size)) news).run P w = .ok () w') (hn : base = none → w' = w) :
    (Builtin.append_ #[t, t] ty #[.slice base sLen sCap, .slice x n c]).run P w = .ok (.slice base (sLen + n) sCap) w' := by
  cases base with
  | none => rw [hn rfl]; simp [Builtin.append_, run_underlying ht, sizeOf, typeInfo, hi, Builtin.lenOf, hg, hnews]
  | some b => simp [Builtin.append_, run_underlying ht, sizeOf, typeInfo, hi, Builtin.lenOf, hg, hnews, hw b rfl]

theorem RCs.td (r : RS P L mine tm hp fr a.tmps w ob S) : True := trivial

/-- append to nothing -/
theorem good_append_nil (hL : LOk P L) (r : RS P L mine tm hp fr a.tmps w ob S) (hfr : fr nx) {o : Oper} {t e : TypeId} {d de : TD} {x y : Operand} (ho : o.op = .call { callee := .builtin .append, args := #[x, y], argTypes := #[t, t] }) (hd : L t = some d) (hk : d.k = .sl e) (hde : L e = some de)
    (hx : evA tm x = some .nilsl) {v : A} (hy : evA tm y = some v) {c : Prop} {xs : List A} {rd : List Nat} (h : elemsOf hp v = some (c, xs, rd)) (hc : c) (hxs : ∀ y ∈ xs, y.shp = de.sh) (hb : xs.length * de.byt ≤ maxBytes) :
    Good P L hp nx w ob S ⟨.own nx 0 0 xs.length, [(nx, ⟨0, false, some e, .st xs⟩)], rd, 1⟩ (runOp P a w o) := by
  have hut := (hL t d hd).und
  simp only [hk] at hut
  obtain ⟨i, z, i1, i2, i3, i4, i5, i6, i7⟩ := (hL e de hde).info
  have hvt : v.isTup = false := by cases v <;> simp [elemsOf] at h <;> rfl
  obtain ⟨ad, cap, cl, h1, h2, h3, h4, h5⟩ := elems_run r hL hde h hc (rv1_of r hy hvt) hxs
  have e1 : a.eval x = .slice none 0 0 := by
    have := (RV1.leaf (rv1_of r hx rfl) rfl).2.1
    simpa [RC] using this
  by_cases h0 : xs.length = 0
  · have hx0 : xs = [] := List.eq_nil_of_length_eq_zero h0
    subst hx0
    have hrun := run_append_in (P := P) (w := w) (w' := w) t o.type e i hut.1 i1 none 0 0 ad 0 cap cl (by rw [i2]; exact h5 w rfl) (by omega) (by simp) (fun _ => rfl)
    let oi : OI := { blk := none, ver := 0, sh := .leaf, e := some e, cap := 0 }
    refine ⟨.slice none 0 0, w, upo ob nx oi, S, .inl (by simp [runOp, execOp, ho, resolve, invoke, builtin, e1, h1, hrun]), ?_, ?_, ?_⟩
    · exact does_new r hfr (Same.refl _) rfl (Nat.le_refl _) (fun _ _ => rfl) (fun b hb => by simp [oi] at hb) ⟨rfl, rfl, rfl, rfl, rfl⟩
    · exact RV1.of_leaf ⟨oi, none, 0, by simp [upo], rfl, by simp, Nat.le_refl _, fun _ => ⟨e, rfl, rfl, rfl, rfl, rfl⟩⟩ rfl
    · intro o2 y2 h2
      simp only [look_one] at h2
      split at h2
      · rename_i e; subst e; exact .inr ⟨Nat.le_refl _, by simp⟩
      · cases h2
  · have hrun := run_append_g (P := P) (w := w) t o.type e i z hut.1 i1 i4 none 0 0 [] (by simp [Builtin.firstCells]) ad xs.length cap cl (by rw [i2]; exact h5 w.drew rfl) (by omega) (by omega) (by rw [i3]; simpa using hb)
    simp only [Nat.zero_add] at hrun
    have hge := grownCap_ge w xs.length 0 e
    have hz : z.cells.size = de.sh.width := by
      have := RC.len de.zero z.cells.toList (RC.of_flat (P := P) (w := w) (ob := ob) (S := S) _ _ i5)
      rw [← i7, ← this]; simp
    refine good_row (a := a) (rd := rd) (w1 := w.drew) (t := e) (cap := grownCap w xs.length 0 e) (cl := cl) (rest := (Builtin.zeroCells z.cells (grownCap w xs.length 0 e - xs.length)).toList) (arr := ([] : List Value).toArray ++ cl.toArray ++ Builtin.zeroCells z.cells (grownCap w xs.length 0 e - xs.length)) r hfr hL hde hxs h4 (by simp) ?_ hge hb rfl ?_
    · simp only [Array.size_append, size_zeroCells, List.size_toArray, List.length_nil, h3, hz, Nat.zero_add]
      rw [← Nat.add_mul]; congr 1; omega
    · simp [runOp, execOp, ho, resolve, invoke, builtin, e1, h1, hrun]

end
end Go.Ab

/- THE OPERATIONS, ONE BY ONE (ninth part): append to a row of one's own; clear. -/
namespace Go.Ab
section
variable {P : Program} {L : Lay} {mine : Nat → Prop} {tm : Nat → Option A} {hp : Hp} {nx : Nat} {fr : Nat → Prop} {a : Act} {w : World} {ob : Nat → Option OI} {S : Nat → Prop}

theorem widths_all {e : Nat} : ∀ (l : List A), (∀ y ∈ l, y.shp.width = e) → Sh.widths (A.shps l) = l.length * e
  | [], _ => by simp [A.shps, Sh.widths]
  | x :: l, hh => by simp only [A.shps, Sh.widths, hh x (by simp), widths_all l (fun y hy => hh y (by simp [hy])), List.length_cons, Nat.succ_mul]; omega

/-- elements laid over a row, from a place on -/
theorem RCs.over {xs ys : List A} {cl rest news : List Value} {e q : Nat} (h : RCs P w ob S xs cl) (hw : ∀ y ∈ xs, y.shp.width = e) (hq : q ≤ xs.length) (hn : RCs P w ob S ys news) (hl : news.length = ys.length * e)
    (hfit : q * e + news.length ≤ (cl ++ rest).length) :
    ∃ cl' rest', (cl ++ rest).take (q * e) ++ news ++ (cl ++ rest).drop (q * e + news.length) = cl' ++ rest' ∧ RCs P w ob S (xs.take q ++ ys ++ xs.drop (q + ys.length)) cl' := by
  have hcl : cl.length = xs.length * e := by rw [RCs.len _ _ h, widths_all xs hw]
  obtain ⟨c, d, g1, g2⟩ := RCs.take (n := q) h
  have hc : c.length = q * e := by rw [RCs.len _ _ g2, widths_all _ (fun y hy => hw y (List.mem_of_mem_take hy)), List.length_take, Nat.min_eq_left hq]
  have e1 : (cl ++ rest).take (q * e) = c := by rw [g1, List.append_assoc, ← hc, List.take_left]
  by_cases hle : q + ys.length ≤ xs.length
  · have hd : ∃ p s, cl = p ++ s ∧ p.length = (q + ys.length) * e ∧ RCs P w ob S (xs.drop (q + ys.length)) s := by
      have h' := h
      rw [← List.take_append_drop (q + ys.length) xs] at h'
      obtain ⟨p, s, k1, k2, k3⟩ := RCs.split h'
      exact ⟨p, s, k1, by rw [RCs.len _ _ k2, widths_all _ (fun y hy => hw y (List.mem_of_mem_take hy)), List.length_take, Nat.min_eq_left hle], k3⟩
    obtain ⟨p, s, k1, k2, k3⟩ := hd
    refine ⟨c ++ news ++ s, rest, ?_, RCs.append (RCs.append g2 hn) k3⟩
    rw [e1, hl, ← Nat.add_mul, k1, List.append_assoc p, ← k2, List.drop_left]
    simp
  · refine ⟨c ++ news, (cl ++ rest).drop (q * e + news.length), by rw [e1], ?_⟩
    rw [List.drop_of_length_le (by omega), List.append_nil]
    exact RCs.append g2 hn

/-- A ROW OF ONE's OWN IS WRITTEN OVER: what becomes of the object. -/
theorem own_write (hL : LOk P L) (r : RS P L mine tm hp fr a.tmps w ob S) {o : Nat} {z : Ob} {oi : OI} {e : TypeId} {de : TD} {b q v' : Nat} {ys : List A} {news : List Value} {ob' : Nat → Option OI} (hz : hp o = some z) (hzf : z.fz = false) (hoi : ob o = some oi) (hb : oi.blk = some b) (he : z.e = some e) (hde : L e = some de)
    (hq : q ≤ (elems z).length) (hys : ∀ y ∈ ys, y.shp = de.sh) (hn : RCs P w ob S ys news) (hcap : q + ys.length ≤ oi.cap) (hmax : ((elems z).take q ++ ys ++ (elems z).drop (q + ys.length)).length * de.byt ≤ maxBytes)
    (hob : ∀ k oik, ob k = some oik → ∃ oi', ob' k = some oi' ∧ oik.ver ≤ oi'.ver ∧ (oi'.ver = oik.ver → oi' = oik)) :
    ∃ w', (storeCells ⟨b, q * de.sh.width, none⟩ news).run P w = .ok () w' ∧ (Same w w' ∧ w'.heap.size = w.heap.size) ∧ (∀ k, k ≠ b → w'.heap[k]? = w.heap[k]?) ∧
      RObj P L w' ob' S { z with ver := v', val := .st ((elems z).take q ++ ys ++ (elems z).drop (q + ys.length)) } { oi with ver := v' } := by
  obtain ⟨oi1, q1, q2, q3, q4⟩ := r.hp o z hz
  rw [hoi] at q1; cases q1
  obtain ⟨k1, k2, k3⟩ := q2
  simp only [hb, he] at k3
  obtain ⟨arr, tt, f1, xs, de', cl, rest, f2, f3, f4, f5, f6, f7, f8, f9, f10, f11⟩ := k3
  rw [hde] at f3; cases f3
  have hel : elems z = xs := by simp [elems, f2]
  rw [hel] at hq hmax ⊢
  have hnl : news.length = ys.length * de.sh.width := by rw [RCs.len _ _ hn, widths_all _ (fun y hy => by rw [hys y hy])]
  have hfit : q * de.sh.width + news.length ≤ arr.toList.length := by
    have hal : arr.toList.length = oi.cap * de.sh.width := by simpa using f9
    rw [hnl, ← Nat.add_mul, hal]
    exact Nat.mul_le_mul_right _ hcap
  let arr2 : Array Value := (arr.toList.take (q * de.sh.width) ++ news ++ arr.toList.drop (q * de.sh.width + news.length)).toArray
  have hrun : (storeCells ⟨b, q * de.sh.width, none⟩ news).run P w = .ok () (w.setRow b arr2) := by
    have := run_storeCells_at (P := P) b (q * de.sh.width) tt news 0 arr w f1 (by simpa using hfit) (RCs.one _ _ hn)
    simpa [arr2] using this
  have hext : Ext w ob S (w.setRow b arr2) ob' S :=
    ⟨Nat.le_of_eq (by simp), fun b' hb' => ⟨hb', setRow_other w arr2 fun e => (q3 hzf b hb).1 (e ▸ hb')⟩, hob⟩
  refine ⟨w.setRow b arr2, hrun, ⟨(Same.refl _).setRow _ _, by simp⟩, fun k hk => setRow_other w arr2 hk, rfl, k2, ?_⟩
  simp only [hb, he]
  obtain ⟨cl', rest', g1, g2⟩ := RCs.over (rest := rest) f8 (e := de.sh.width) (fun y hy => by rw [f4 y hy]) hq hn hnl (by rw [← f7]; exact hfit)
  have hlen2 : (xs.take q ++ ys ++ xs.drop (q + ys.length)).length ≤ oi.cap := by simp; omega
  refine ⟨arr2, tt, setRow_heap w b arr arr2 tt (0, 0) f1, xs.take q ++ ys ++ xs.drop (q + ys.length), de, cl', rest', rfl, hde, fun y hy => ?_, f5, hlen2, by simp only [arr2]; rw [f7, g1], RCs.mono hext _ _ g2, ?_, hmax, ?_⟩
  · simp only [List.mem_append] at hy
    rcases hy with (hy | hy) | hy
    · exact f4 y (List.mem_of_mem_take hy)
    · exact hys y hy
    · exact f4 y (List.mem_of_mem_drop hy)
  · rw [← f9]
    simp only [arr2, List.size_toArray, List.length_append, List.length_take, List.length_drop]
    have hs : arr.toList.length = arr.size := by simp
    omega
  · exact Nat.le_trans (Nat.le_mul_of_pos_right _ (hL _ de hde).byt) hmax

theorem good_own {o' : Nat} {x y : Ob} {v : Value} {w' : World} {ob' : Nat → Option OI} {yA : A} {rd : List Nat} {n : Nat} {res : Result Next} (r : RS P L mine tm hp fr a.tmps w ob S) (hx : hp o' = some x) (hf : x.fz = false) {oi : OI} (hoi : ob o' = some oi) (h : res = .ok (.value v) w')
    (hd : Does P L w ob S [(o', y)] w' ob' S) (hv : RV P w' ob' S yA v) : Good P L hp nx w ob S ⟨yA, [(o', y)], rd, n⟩ res := by
  refine ⟨v, w', ob', S, .inl h, hd, hv, fun o2 y2 h2 => ?_⟩
  simp only [look_one] at h2
  split at h2
  · rename_i e; subst e; exact .inl ⟨x, hx, fun _ => hf⟩
  · cases h2

/-- append to a row of one's own, over what it holds -/
theorem good_append_over (hL : LOk P L) (r : RS P L mine tm hp fr a.tmps w ob S) {o : Oper} {t e : TypeId} {d de : TD} {x y : Operand} (ho : o.op = .call { callee := .builtin .append, args := #[x, y], argTypes := #[t, t] }) (hd : L t = some d) (hk : d.k = .sl e) (hde : L e = some de)
    {o' ver off len : Nat} {z : Ob} (hx : evA tm x = some (.own o' ver off len)) (hz : hp o' = some z) {v : A} (hy : evA tm y = some v) {c : Prop} {xs : List A} {rd : List Nat} (h : elemsOf hp v = some (c, xs, rd)) (hc : c)
    (hver : z.ver = ver) (hzf : z.fz = false) (hze : z.e = some e) (hxs : ∀ y ∈ xs, y.shp = de.sh) (hle : off + len + xs.length ≤ (elems z).length) :
    Good P L hp nx w ob S ⟨.own o' ver off (len + xs.length), [(o', { z with val := .st ((elems z).take (off + len) ++ xs ++ (elems z).drop (off + len + xs.length)) })], o' :: rd, 0⟩ (runOp P a w o) := by
  have hut := (hL t d hd).und
  simp only [hk] at hut
  obtain ⟨i, zz, i1, i2, i3, i4, i5, i6, i7⟩ := (hL e de hde).info
  have hvt : v.isTup = false := by cases v <;> simp [elemsOf] at h <;> rfl
  obtain ⟨ad, cap, cl, h1, h2, h3, h4, h5⟩ := elems_run r hL hde h hc (rv1_of r hy hvt) hxs
  obtain ⟨oi, e', ad', cap', e1, e2, e3, e4, e5, e6, e7, e8⟩ := own_now r hz hver (rv1_of r hx rfl)
  rw [hze] at e4; cases e4
  have hw : esz P e = de.sh.width := esz_eq (hL _ de hde)
  cases hb : oi.blk with
  | none =>
    simp only [hb] at e8
    obtain ⟨q1, q2, q3, q4⟩ := e8
    subst q1; subst q2; subst q3; subst q4
    obtain ⟨k1, k2, k3⟩ := e7
    simp only [hb] at k3
    have hel : elems z = [] := by simp [elems, k3.1]
    have hx0 : xs = [] := List.eq_nil_of_length_eq_zero (by rw [hel] at hle; simpa using hle)
    subst hx0
    have hrun := run_append_in (P := P) (w := w) (w' := w) t o.type e i hut.1 i1 none 0 0 ad 0 cap cl (by rw [i2]; exact h5 w rfl) (by omega) (by simp) (fun _ => rfl)
    have hsame : ({ z with val := .st ((elems z).take (0 + 0) ++ [] ++ (elems z).drop (0 + 0 + ([] : List A).length)) } : Ob) = z := by
      rw [hel]; simp [← k3.1]
    rw [hsame]
    refine good_own (a := a) r hz hzf e1 (v := .slice none 0 0) (w' := w) (ob' := ob) (by simp [runOp, execOp, ho, resolve, invoke, builtin, e5, h1, hrun]) ?_ ?_
    · exact does_write r (Same.refl _) hz hzf hzf e1 (Nat.le_refl _) (fun _ _ _ => rfl) ⟨k1, k2, by simp only [hb]; exact k3⟩
    · exact RV1.of_leaf ⟨oi, none, 0, e1, rfl, by simp, by omega, fun _ => ⟨e, e3, by simp [hb]⟩⟩ rfl
  | some b =>
    simp only [hb] at e8
    have hobj := e7
    obtain ⟨k1, k2, k3⟩ := e7
    simp only [hb, hze] at k3
    obtain ⟨arr, tt, f1, ys, de', cl', rest, f2, f3, f4, f5, f6, f7, f8, f9, f10, f11⟩ := k3
    rw [hde] at f3; cases f3
    have hel : elems z = ys := by simp [elems, f2]
    have hnewlen : ((elems z).take (off + len) ++ xs ++ (elems z).drop (off + len + xs.length)).length = ys.length := by rw [hel] at hle ⊢; simp; omega
    obtain ⟨w', g1, g2, g3, g4⟩ := own_write hL r (v' := z.ver) (ob' := ob) hz hzf e1 hb hze hde (q := off + len) (by omega) hxs h4 (by rw [hel] at hle; omega) (by rw [hnewlen]; exact f10) (fun k oik hk => ⟨oik, hk, Nat.le_refl _, fun _ => rfl⟩)
    have hoi2 : ({ oi with ver := z.ver } : OI) = oi := by rw [← k1]
    rw [hoi2] at g4
    have hnewmax : len + xs.length ≤ maxBytes := by rw [hel] at hle; omega
    have hrunv : ∃ adx, (Builtin.append_ #[t, t] o.type #[.slice ad' len cap', .slice ad xs.length cap]).run P w = .ok (.slice adx (len + xs.length) cap') w' ∧ RV1 P w' ob S (.own o' ver off (len + xs.length)) (.slice adx (len + xs.length) cap') := by
      obtain ⟨q2, q3, q1⟩ := e8
      have hcap2 : len + xs.length ≤ cap' := by rw [hel] at hle; omega
      rcases q1 with q1 | q1
      · have hx0 : xs = [] := List.eq_nil_of_length_eq_zero (by omega)
        have hcl0 : cl = [] := List.eq_nil_of_length_eq_zero (by rw [h3, hx0]; simp)
        subst hcl0
        have hww : w' = w := by
          have : (storeCells ⟨b, (off + len) * de.sh.width, none⟩ []).run P w = .ok () w := rfl
          rw [this] at g1; cases g1; rfl
        subst hww
        refine ⟨ad', run_append_in (P := P) t o.type e i hut.1 i1 ad' len cap' ad xs.length cap [] (by rw [i2]; exact h5 w' rfl) hcap2 (fun b' hb' => rfl) (fun hn => rfl), ?_⟩
        exact RV1.of_leaf ⟨oi, _, _, e1, rfl, hnewmax, by omega, fun _ => ⟨e, e3, by simp only [hb]; exact ⟨q2, hcap2, .inl q1⟩⟩⟩ rfl
      · refine ⟨ad', run_append_in (P := P) t o.type e i hut.1 i1 ad' len cap' ad xs.length cap cl (by rw [i2]; exact h5 w rfl) hcap2 (fun b' hb' => ?_) (fun hn => by rw [hn] at q1; cases q1), ?_⟩
        · rw [q1] at hb'; cases hb'
          rw [add_zero_addr, i2, hw, ← Nat.add_mul]; exact g1
        · exact RV1.of_leaf ⟨oi, _, _, e1, rfl, hnewmax, by omega, fun _ => ⟨e, e3, by simp only [hb]; exact ⟨q2, hcap2, .inr q1⟩⟩⟩ rfl
    obtain ⟨adx, hr1, hr2⟩ := hrunv
    refine good_own (a := a) r hz hzf e1 (v := .slice adx (len + xs.length) cap') (w' := w') (ob' := ob) (by simp [runOp, execOp, ho, resolve, invoke, builtin, e5, h1, hr1]) ?_ hr2
    exact does_write r g2.1 hz hzf hzf e1 (by have := g2.2; omega) (fun k _ hk => g3 k (fun e => hk (e ▸ hb))) g4


/-- append to a row of one's own, beyond what it holds: in place or in a new block -/
theorem good_append_grow (hL : LOk P L) (r : RS P L mine tm hp fr a.tmps w ob S) {o : Oper} {t e : TypeId} {d de : TD} {x y : Operand} (ho : o.op = .call { callee := .builtin .append, args := #[x, y], argTypes := #[t, t] }) (hd : L t = some d) (hk : d.k = .sl e) (hde : L e = some de)
    {o' ver len : Nat} {z : Ob} (hx : evA tm x = some (.own o' ver 0 len)) (hz : hp o' = some z) {v : A} (hy : evA tm y = some v) {c : Prop} {xs : List A} {rd : List Nat} (h : elemsOf hp v = some (c, xs, rd)) (hc : c)
    (hver : z.ver = ver) (hzf : z.fz = false) (hze : z.e = some e) (hxs : ∀ y ∈ xs, y.shp = de.sh) (hlen : len ≤ (elems z).length) (hgt : ¬ len + xs.length ≤ (elems z).length) (hb0 : (len + xs.length) * de.byt ≤ maxBytes) :
    Good P L hp nx w ob S ⟨.own o' (ver + 1) 0 (len + xs.length), [(o', { z with ver := ver + 1, val := .st ((elems z).take len ++ xs) })], o' :: rd, 0⟩ (runOp P a w o) := by
  have hut := (hL t d hd).und
  simp only [hk] at hut
  obtain ⟨i, zz, i1, i2, i3, i4, i5, i6, i7⟩ := (hL e de hde).info
  have hvt : v.isTup = false := by cases v <;> simp [elemsOf] at h <;> rfl
  obtain ⟨ad, cap, cl, h1, h2, h3, h4, h5⟩ := elems_run r hL hde h hc (rv1_of r hy hvt) hxs
  obtain ⟨oi, e', ad', cap', e1, e2, e3, e4, e5, e6, e7, e8⟩ := own_now r hz hver (rv1_of r hx rfl)
  rw [hze] at e4; cases e4
  have hw : esz P e = de.sh.width := esz_eq (hL _ de hde)
  have hbyt := (hL _ de hde).byt
  have hmax : len + xs.length ≤ maxBytes := Nat.le_trans (Nat.le_mul_of_pos_right _ hbyt) hb0
  have hdrop : (elems z).drop (len + xs.length) = [] := List.drop_of_length_le (by omega)
  have hz2 : zz.cells.size = de.sh.width := by
    have := RC.len de.zero zz.cells.toList (RC.of_flat (P := P) (w := w) (ob := ob) (S := S) _ _ i5)
    rw [← i7, ← this]; simp
  -- into a new block
  have hmove : ∀ (olds : List Value), RCs P w ob S ((elems z).take len) olds → (∀ y ∈ (elems z).take len, y.shp = de.sh) →
      (∀ w' : World, w'.heap = w.heap → (Builtin.firstCells de.sh.width len (.slice ad' len cap')).run P w' = .ok olds.toArray w') → cap' < len + xs.length → (∀ b, oi.blk = some b → True) →
      Good P L hp nx w ob S ⟨.own o' (ver + 1) 0 (len + xs.length), [(o', { z with ver := ver + 1, val := .st ((elems z).take len ++ xs) })], o' :: rd, 0⟩ (runOp P a w o) := by
    intro olds ho1 ho2 ho3 hcap _
    have hol : olds.length = len * de.sh.width := by
      rw [RCs.len _ _ ho1, widths_all _ (fun y hy => by rw [ho2 y hy]), List.length_take, Nat.min_eq_left hlen]
    have hrun := run_append_g (P := P) (w := w) t o.type e i zz hut.1 i1 i4 ad' len cap' olds (by rw [i2]; exact ho3 w.drew rfl) ad xs.length cap cl (by rw [i2]; exact h5 w.drew rfl) hcap hmax (by rw [i3]; exact hb0)
    have hge := grownCap_ge w (len + xs.length) cap' e
    generalize hNC : grownCap w (len + xs.length) cap' e = NC at hrun hge
    let arr : Array Value := olds.toArray ++ cl.toArray ++ Builtin.zeroCells zz.cells (NC - (len + xs.length))
    have hrun2 : (Builtin.append_ #[t, t] o.type #[.slice ad' len cap', .slice ad xs.length cap]).run P w = .ok (.slice (some ⟨w.heap.size, 0, none⟩) (len + xs.length) NC) (w.drew.alloc (.cells arr e)) := hrun
    let oi' : OI := { blk := some w.heap.size, ver := ver + 1, sh := .node (List.replicate NC de.sh), e := some e, cap := NC }
    have hold : ∀ b, b < w.heap.size → (w.drew.alloc (.cells arr e)).heap[b]? = w.heap[b]? := fun b hb => heap_alloc_old w.drew _ b hb
    have hnew : (w.drew.alloc (.cells arr e)).heap[w.heap.size]? = some (.cells arr e (0, 0)) := heap_alloc_new w.drew _
    have hsize : (w.drew.alloc (.cells arr e)).heap.size = w.heap.size + 1 := by simp
    have hext : Ext w ob S (w.drew.alloc (.cells arr e)) (upo ob o' oi') S := by
      refine ⟨by omega, fun b hb => ⟨hb, hold b (r.st b hb)⟩, fun k oik hk => ?_⟩
      by_cases hko : k = o'
      · subst hko
        rw [e1] at hk; cases hk
        exact ⟨oi', by simp [upo], by simp [oi']; omega, fun h => by simp [oi'] at h; omega⟩
      · exact ⟨oik, by simp [upo, hko, hk], Nat.le_refl _, fun _ => rfl⟩
    refine good_own (a := a) r hz hzf e1 (v := .slice (some ⟨w.heap.size, 0, none⟩) (len + xs.length) NC) (w' := w.drew.alloc (.cells arr e)) (ob' := upo ob o' oi') (by simp [runOp, execOp, ho, resolve, invoke, builtin, e5, h1, hrun2]) ?_ ?_
    · refine does_move r ((Same.refl _).drew.alloc _ _) hzf hzf hz e1 (by omega) (fun b hb _ => hold b hb) (by simp [oi', e2]) (fun b hb => ?_) ?_
      · simp [oi'] at hb; subst hb; left; omega
      · refine ⟨rfl, by simp [oi', hze], ?_⟩
        have hfin : ∃ arr' t', (w.drew.alloc (.cells arr e)).heap[w.heap.size]? = some (.cells arr' t' (0, 0)) ∧
            ∃ xs' de cl rest, A.st ((elems z).take len ++ xs) = .st xs' ∧ L e = some de ∧ (∀ y ∈ xs', y.shp = de.sh) ∧ oi'.sh = .node (List.replicate oi'.cap de.sh) ∧ xs'.length ≤ oi'.cap ∧ arr'.toList = cl ++ rest ∧
              RCs P (w.drew.alloc (.cells arr e)) (upo ob o' oi') S xs' cl ∧ arr'.size = oi'.cap * de.sh.width ∧ xs'.length * de.byt ≤ maxBytes ∧ xs'.length ≤ maxBytes := by
          have hl2 : ((elems z).take len ++ xs).length = len + xs.length := by simp; omega
          refine ⟨arr, e, hnew, (elems z).take len ++ xs, de, olds ++ cl, (Builtin.zeroCells zz.cells (NC - (len + xs.length))).toList, rfl, hde, fun y hy => ?_, rfl, by rw [hl2]; exact hge, by simp [arr], RCs.append (RCs.mono hext _ _ ho1) (RCs.mono hext _ _ h4), ?_, by rw [hl2]; exact hb0, by rw [hl2]; exact hmax⟩
          · rcases List.mem_append.1 hy with hy | hy
            · exact ho2 y hy
            · exact hxs y hy
          · simp only [arr, oi', Array.size_append, size_zeroCells, List.size_toArray, hol, h3, hz2]
            rw [← Nat.add_mul, ← Nat.add_mul]; congr 1; omega
        simp only [oi', hze] at hfin ⊢
        exact hfin
    · exact RV1.of_leaf ⟨oi', _, _, by simp [upo], rfl, hmax, Nat.le_refl _, fun _ => ⟨e, rfl, ⟨by simp [oi'], hge, .inr (by simp)⟩⟩⟩ rfl
  cases hb : oi.blk with
  | none =>
    simp only [hb] at e8
    obtain ⟨q1, q2, q3, q4⟩ := e8
    subst q1; subst q3; subst q4
    have hx0 : 0 < xs.length := by omega
    exact hmove [] (by simp; rfl) (by simp) (fun w' _ => by simp [Builtin.firstCells]) (by omega) (fun _ _ => trivial)
  | some b =>
    simp only [hb] at e8
    have hobj := e7
    obtain ⟨k1, k2, k3⟩ := e7
    simp only [hb, hze] at k3
    obtain ⟨arr, tt, f1, ys, de', cl', rest, f2, f3, f4, f5, f6, f7, f8, f9, f10, f11⟩ := k3
    rw [hde] at f3; cases f3
    have hel : elems z = ys := by simp [elems, f2]
    obtain ⟨q2, q3, q1⟩ := e8
    by_cases hcap : len + xs.length ≤ cap'
    · -- in place
      have q1' : ad' = some ⟨b, 0, none⟩ := by
        rcases q1 with q1 | q1
        · omega
        · simpa using q1
      obtain ⟨w', g1, g2, g3, g4⟩ := own_write hL r (v' := ver + 1) (ob' := upo ob o' { oi with ver := ver + 1 }) hz hzf e1 hb hze hde (q := len) hlen hxs h4 (by omega) (by rw [hdrop]; simp; rw [Nat.min_eq_left hlen]; exact hb0) (fun k oik hk => by
        by_cases hko : k = o'
        · subst hko
          rw [e1] at hk; cases hk
          exact ⟨{ oi with ver := ver + 1 }, by simp [upo], by simp; omega, fun h => by simp at h; omega⟩
        · exact ⟨oik, by simp [upo, hko, hk], Nat.le_refl _, fun _ => rfl⟩)
      rw [hdrop, List.append_nil] at g4
      have hrun := run_append_in (P := P) (w := w) (w' := w') t o.type e i hut.1 i1 ad' len cap' ad xs.length cap cl (by rw [i2]; exact h5 w rfl) hcap (fun b' hb' => by
        rw [q1'] at hb'; cases hb'
        rw [add_zero_addr, i2, Nat.zero_add]; exact g1) (fun hn => by rw [hn] at q1'; cases q1')
      refine good_own (a := a) r hz hzf e1 (v := .slice ad' (len + xs.length) cap') (w' := w') (ob' := upo ob o' { oi with ver := ver + 1 }) (by simp [runOp, execOp, ho, resolve, invoke, builtin, e5, h1, hrun]) ?_ ?_
      · exact does_move r g2.1 hzf hzf hz e1 (by have := g2.2; omega) (fun k _ hk => g3 k (fun e => hk (e ▸ hb))) (by simp [e2]) (fun k hk => .inr hk) g4
      · exact RV1.of_leaf ⟨{ oi with ver := ver + 1 }, _, _, by simp [upo], rfl, hmax, Nat.le_refl _, fun _ => ⟨e, e3, by simp only [hb]; exact ⟨q2, hcap, .inr (by simp [q1'])⟩⟩⟩ rfl
    · obtain ⟨c, dd, g1, g2⟩ := RCs.take (n := len) f8
      have htk : (elems z).take len = ys.take len := by rw [hel]
      have hcl : c.length = len * de.sh.width := by rw [RCs.len _ _ g2, widths_all _ (fun y hy => by rw [f4 y (List.mem_of_mem_take hy)]), List.length_take, Nat.min_eq_left (by rw [← hel]; exact hlen)]
      refine hmove c (by rw [htk]; exact g2) (by rw [htk]; exact fun y hy => f4 y (List.mem_of_mem_take hy)) (fun w' hw' => ?_) (by omega) (fun _ _ => trivial)
      by_cases hl0 : len = 0
      · subst hl0
        have : c = [] := List.eq_nil_of_length_eq_zero (by simpa using hcl)
        subst this
        cases ad' with
        | none => simp [Builtin.firstCells]
        | some b2 => exact run_firstCells_some w' _ _ _ _ _ [] (by simp) (by simp)
      · have q1' : ad' = some ⟨b, 0, none⟩ := by
          rcases q1 with q1 | q1
          · omega
          · simpa using q1
        rw [q1']
        refine run_firstCells_some w' _ _ _ _ _ c hcl (cell_of_run ⟨arr, tt, _, by rw [hw']; exact f1, [], dd ++ rest, by rw [f7, g1]; simp, rfl⟩)


theorem zeroCells_list (z : Array Value) (n : Nat) (hz : 0 < z.size) : (Builtin.zeroCells z n).toList = (List.replicate n z.toList).flatten := by
  rw [← made_list z n hz]; rfl

theorem good_clear (hL : LOk P L) (r : RS P L mine tm hp fr a.tmps w ob S) {o : Oper} {x : Operand} {ts : Array TypeId} (ho : o.op = .call { callee := .builtin .clear, args := #[x], argTypes := ts }) {e : TypeId} {de : TD} (hde : L e = some de) {t : TypeId} (ht : ts[0]? = some t) (hu : P.underlying t = some (.slice e))
    {o' ver off len : Nat} {z : Ob} (hx : evA tm x = some (.own o' ver off len)) (hz : hp o' = some z) (hver : z.ver = ver) (hzf : z.fz = false) (hze : z.e = some e) (hle : off + len ≤ (elems z).length) :
    Good P L hp nx w ob S ⟨.tup [], [(o', { z with val := .st ((elems z).take off ++ List.replicate len de.zero ++ (elems z).drop (off + len)) })], [o'], 0⟩ (runOp P a w o) := by
  obtain ⟨i, zz, i1, i2, i3, i4, i5, i6, i7⟩ := (hL e de hde).info
  obtain ⟨oi, e', ad', cap', e1, e2, e3, e4, e5, e6, e7, e8⟩ := own_now r hz hver (rv1_of r hx rfl)
  rw [hze] at e4; cases e4
  have hw : esz P e = de.sh.width := esz_eq (hL _ de hde)
  have hz2 : zz.cells.size = de.sh.width := by
    have := RC.len de.zero zz.cells.toList (RC.of_flat (P := P) (w := w) (ob := ob) (S := S) _ _ i5)
    rw [← i7, ← this]; simp
  have hobj := e7
  obtain ⟨k1, k2, k3⟩ := e7
  by_cases hl0 : len = 0
  · subst hl0
    have hsame : ({ z with val := .st ((elems z).take off ++ List.replicate 0 de.zero ++ (elems z).drop (off + 0)) } : Ob) = z := by
      have : z.val = .st (elems z) := by
        cases hb : oi.blk with
        | none => simp only [hb] at k3; simp [elems, k3.1]
        | some b =>
          simp only [hb, hze] at k3
          obtain ⟨arr, tt, f1, ys, de', cl', rest, f2, -⟩ := k3
          simp [elems, f2]
      simp [← this]
    rw [hsame]
    refine good_own (a := a) r hz hzf e1 (v := .tuple #[]) (w' := w) (ob' := ob) (by cases ad' <;> simp [runOp, execOp, ho, resolve, invoke, builtin, Builtin.clear_, ht, run_underlying hu, e5]) ?_ ⟨#[], rfl, rfl⟩
    exact does_write r (Same.refl _) hz hzf hzf e1 (Nat.le_refl _) (fun _ _ _ => rfl) hobj
  · cases hb : oi.blk with
    | none => simp only [hb] at e8; omega
    | some b =>
      simp only [hb] at e8
      simp only [hb, hze] at k3
      obtain ⟨arr, tt, f1, ys, de', cl', rest, f2, f3, f4, f5, f6, f7, f8, f9, f10, f11⟩ := k3
      rw [hde] at f3; cases f3
      have hel : elems z = ys := by simp [elems, f2]
      obtain ⟨q2, q3, q1⟩ := e8
      have q1' : ad' = some ⟨b, off * de.sh.width, none⟩ := by
        rcases q1 with q1 | q1
        · omega
        · rw [q1, hw]
      have hlr : (List.replicate len de.zero).length = len := by simp
      have hnl : ((elems z).take off ++ List.replicate len de.zero ++ (elems z).drop (off + (List.replicate len de.zero).length)).length = ys.length := by rw [hel] at hle ⊢; simp; omega
      obtain ⟨w', g1, g2, g3, g4⟩ := own_write hL r (v' := z.ver) (ob' := ob) hz hzf e1 hb hze hde (q := off) (by omega) (ys := List.replicate len de.zero) (fun y hy => by rw [List.eq_of_mem_replicate hy, i7]) (RCs.replicate (RC.of_flat _ _ i5) len) (by rw [hlr]; omega) (by rw [hnl]; exact f10) (fun k oik hk => ⟨oik, hk, Nat.le_refl _, fun _ => rfl⟩)
      have hoi2 : ({ oi with ver := z.ver } : OI) = oi := by rw [← k1]
      rw [hoi2, hlr] at g4
      have hzl := zeroCells_list zz.cells len (by rw [hz2]; exact (hL _ de hde).pos)
      rw [← hzl] at g1
      have hzv : ∀ w, (zeroValue e).run P w = .ok zz w := fun w => by simp [zeroValue, typeInfo, i1, i4]
      refine good_own (a := a) r hz hzf e1 (v := .tuple #[]) (w' := w') (ob' := ob) ?_ ?_ ⟨#[], rfl, rfl⟩
      · obtain ⟨l', rfl⟩ : ∃ l', len = l' + 1 := ⟨len - 1, by omega⟩
        simp [runOp, execOp, ho, resolve, invoke, builtin, Builtin.clear_, ht, run_underlying hu, e5, q1', hzv, g1]
      · exact does_write r g2.1 hz hzf hzf e1 (by have := g2.2; omega) (fun k _ hk => g3 k (fun e => hk (e ▸ hb))) g4

end
end Go.Ab
