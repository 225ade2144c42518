import Derived.Test.YthfkhnoehehpmaaGreatAjc
set_option linter.unusedVariables false
set_option linter.unusedSimpArgs false
/- THE INTERPRETER: calls. -/
namespace Go.Ab
noncomputable section

mutual
def A.rl : A → List Nat
  | .st fs => A.rlL fs
  | .sl _ xs => A.rlL xs
  | .own o _ _ _ => [o]
  | .ptr o _ _ _ => [o]
  | .iptr x => A.rl x
  | .fn _ a b => A.rlL a ++ A.rlL b
  | .iface _ v => A.rl v
  | .tup vs => A.rlL vs
  | .int _ _ => []
  | .bool _ => []
  | .str _ => []
  | .nilsl => []
  | .nilptr => []
  | .nilfn => []
  | .nilmp => []
  | .xo _ o => [o]
  | .nilif => []
def A.rlL : List A → List Nat
  | [] => []
  | x :: l => A.rl x ++ A.rlL l
end

mutual
theorem refs_rl (q : Nat → Prop) : ∀ x : A, (∀ i ∈ x.rl, q i) → x.refs q
  | .st fs, h => refs_rlL q fs h
  | .sl _ xs, h => refs_rlL q xs h
  | .own o _ _ _, h => h o (by simp [A.rl])
  | .ptr o _ _ _, h => h o (by simp [A.rl])
  | .iptr x, h => refs_rl q x h
  | .fn _ a b, h => ⟨refs_rlL q a fun i hi => h i (by simp [A.rl, hi]), refs_rlL q b fun i hi => h i (by simp [A.rl, hi])⟩
  | .iface _ v, h => refs_rl q v h
  | .tup vs, h => refs_rlL q vs h
  | .int .., _ => trivial
  | .bool _, _ => trivial
  | .str _, _ => trivial
  | .nilsl, _ => trivial
  | .nilptr, _ => trivial
  | .nilfn, _ => trivial
  | .nilmp, _ => trivial
  | .xo _ o, h => h o (by simp [A.rl])
  | .nilif, _ => trivial
theorem refs_rlL (q : Nat → Prop) : ∀ l : List A, (∀ i ∈ A.rlL l, q i) → A.refsL q l
  | [], _ => trivial
  | x :: l, h => ⟨refs_rl q x fun i hi => h i (by simp [A.rlL, hi]), refs_rlL q l fun i hi => h i (by simp [A.rlL, hi])⟩
end

mutual
theorem ren_ren {σ ρ : Nat → Nat} : ∀ x : A, (∀ i ∈ x.rl, σ (ρ i) = i) → (x.ren ρ).ren σ = x
  | .st fs, h => by simp only [A.ren, ren_renL fs h]
  | .sl _ xs, h => by simp only [A.ren, ren_renL xs h]
  | .own o _ _ _, h => by simp only [A.ren, h o (by simp [A.rl])]
  | .ptr o _ _ _, h => by simp only [A.ren, h o (by simp [A.rl])]
  | .iptr x, h => by simp only [A.ren, ren_ren x h]
  | .fn _ a b, h => by simp only [A.ren, ren_renL a fun i hi => h i (by simp [A.rl, hi]), ren_renL b fun i hi => h i (by simp [A.rl, hi])]
  | .iface _ v, h => by simp only [A.ren, ren_ren v h]
  | .tup vs, h => by simp only [A.ren, ren_renL vs h]
  | .int .., _ => rfl
  | .bool _, _ => rfl
  | .str _, _ => rfl
  | .nilsl, _ => rfl
  | .nilptr, _ => rfl
  | .nilfn, _ => rfl
  | .nilmp, _ => rfl
  | .xo _ o, h => by simp only [A.ren, h o (by simp [A.rl])]
  | .nilif, _ => rfl
theorem ren_renL {σ ρ : Nat → Nat} : ∀ l : List A, (∀ i ∈ A.rlL l, σ (ρ i) = i) → A.renL σ (A.renL ρ l) = l
  | [], _ => rfl
  | x :: l, h => by simp only [A.renL, ren_ren x fun i hi => h i (by simp [A.rlL, hi]), ren_renL l fun i hi => h i (by simp [A.rlL, hi])]
end

mutual
theorem refs_ren {q : Nat → Prop} {ρ : Nat → Nat} : ∀ x : A, (∀ i ∈ x.rl, q (ρ i)) → (x.ren ρ).refs q
  | .st fs, h => refs_renL fs h
  | .sl _ xs, h => refs_renL xs h
  | .own o _ _ _, h => h o (by simp [A.rl])
  | .ptr o _ _ _, h => h o (by simp [A.rl])
  | .iptr x, h => refs_ren x h
  | .fn _ a b, h => ⟨refs_renL a fun i hi => h i (by simp [A.rl, hi]), refs_renL b fun i hi => h i (by simp [A.rl, hi])⟩
  | .iface _ v, h => refs_ren v h
  | .tup vs, h => refs_renL vs h
  | .int .., _ => trivial
  | .bool _, _ => trivial
  | .str _, _ => trivial
  | .nilsl, _ => trivial
  | .nilptr, _ => trivial
  | .nilfn, _ => trivial
  | .nilmp, _ => trivial
  | .xo _ o, h => h o (by simp [A.rl])
  | .nilif, _ => trivial
theorem refs_renL {q : Nat → Prop} {ρ : Nat → Nat} : ∀ l : List A, (∀ i ∈ A.rlL l, q (ρ i)) → A.refsL q (A.renL ρ l)
  | [], _ => trivial
  | x :: l, h => ⟨refs_ren x fun i hi => h i (by simp [A.rlL, hi]), refs_renL l fun i hi => h i (by simp [A.rlL, hi])⟩
end

def closeIds (hp : Nat → Option Ob) : Nat → List Nat → List Nat → List Nat
  | 0, _, acc => acc
  | _ + 1, [], acc => acc
  | n + 1, i :: l, acc => match acc.contains i with
    | true => closeIds hp n l acc
    | false => match hp i with
      | some ob => closeIds hp n (ob.val.rl ++ l) (acc ++ [i])
      | none => closeIds hp n l (acc ++ [i])

def inB (ids l : List Nat) : Bool := l.all fun i => ids.contains i

theorem inB_spec {ids l : List Nat} (h : inB ids l = true) : ∀ i ∈ l, i ∈ ids := fun i hi => by
  unfold inB at h
  rw [List.all_eq_true] at h
  simpa using h i hi

def nodupB : List Nat → Bool
  | [] => true
  | x :: l => !l.contains x && nodupB l

theorem nodupB_spec : ∀ {l : List Nat}, nodupB l = true → l.Nodup
  | [], _ => List.nodup_nil
  | x :: l, h => by
    simp only [nodupB, Bool.and_eq_true, Bool.not_eq_true', List.contains_eq_mem, decide_eq_false_iff_not] at h
    exact List.nodup_cons.2 ⟨h.1, nodupB_spec h.2⟩

def Tr.ofL {α : Type} (l : List α) : Nat → Tr α → Tr α := match l with
  | [] => fun _ t => t
  | x :: l => fun i t => Tr.ofL l (i + 1) (Tr.set x 65536 t i)

theorem Tr.ofL_get {α : Type} : ∀ (l : List α) (i : Nat) (t : Tr α), i + l.length ≤ 65536 → ∀ k, (Tr.ofL l i t).get k = if k < i then t.get k else if k < i + l.length then l[k - i]? else t.get k
  | [], i, t, _, k => by simp [Tr.ofL]; intro h1 h2; omega
  | x :: l, i, t, h, k => by
    simp only [List.length_cons] at h
    simp only [Tr.ofL]
    rw [Tr.ofL_get l (i + 1) _ (by omega) k, Tr.get_set _ _ _ _ (by omega)]
    simp only [List.length_cons]
    by_cases h1 : k < i
    · simp [h1, show k < i + 1 by omega, show ¬ i = k by omega]
    · by_cases h2 : k = i
      · subst h2; simp
      · simp only [show ¬ k < i + 1 by omega, h1, if_false, show ¬ i = k by omega]
        by_cases h3 : k < i + 1 + l.length
        · simp only [h3, if_true, show k < i + (l.length + 1) by omega]
          rw [show k - i = (k - (i + 1)) + 1 by omega, List.getElem?_cons_succ]
        · simp only [h3, if_false, show ¬ k < i + (l.length + 1) by omega]

def resC (L : Lay) (s : CS) : ResultVar → Option A
  | .tmp t => s.tm.get t
  | .cell a t => (L t).bind fun d => match s.tm.get a with
    | some (.ptr o ver p _) => (s.hp.get o).bind fun ob => (ob.val.sub p).bind fun v => gd (ob.ver == ver && Sh.eqb v.shp d.sh) v
    | _ => none

def resCs (L : Lay) (s : CS) : List ResultVar → Option (List A)
  | [] => some []
  | x :: l => (resC L s x).bind fun v => (resCs L s l).bind fun vs => some (v :: vs)

theorem resCs_sound {L : Lay} {s : CS} : ∀ {l : List ResultVar} {rs : List A}, resCs L s l = some rs → ∃ c, resAll L s.as l = some (c, rs) ∧ c
  | [], rs, h => by simp only [resCs, Option.some.injEq] at h; subst h; exact ⟨True, rfl, trivial⟩
  | x :: l, rs, h => by
    simp only [resCs, Option.bind_eq_some_iff] at h
    obtain ⟨v, h1, vs, h2, h3⟩ := h
    cases h3
    obtain ⟨c, e1, e2⟩ := resCs_sound h2
    have hx : ∃ c1, resOne L s.as x = some (c1, v) ∧ c1 := by
      cases x with
      | tmp t =>
        have h1 : s.as.tm t = some v := h1
        exact ⟨True, by simp only [resOne, h1, Option.map_some], trivial⟩
      | cell a t =>
        simp only [resC, Option.bind_eq_some_iff] at h1
        obtain ⟨d, hd, h1⟩ := h1
        split at h1
        · rename_i o ver p sh hx
          simp only [Option.bind_eq_some_iff] at h1
          obtain ⟨z, hz, y, hy, h1⟩ := h1
          obtain ⟨g1, rfl⟩ := gd_some h1
          simp only [Bool.and_eq_true, beq_iff_eq] at g1
          have hx : s.as.tm a = some (.ptr o ver p sh) := hx
          have hz : s.as.hp o = some z := hz
          refine ⟨_, (by simp only [resOne, hd, hx, hz, hy, Option.bind_some]; try rfl), ?_⟩
          exact ⟨g1.1, Sh.eqb_eq _ _ g1.2⟩
        · cases h1
    obtain ⟨c1, f1, f2⟩ := hx
    refine ⟨_, (by simp only [resAll, f1, e1, Option.bind_some]; try rfl), ?_⟩
    exact ⟨f2, e2⟩

instance : Inhabited A := ⟨.nilif⟩
instance : Inhabited Ob := ⟨⟨0, false, none, .nilif⟩⟩

def isEnd : Exit → Bool
  | .ret => true
  | .normal => true
  | _ => false

def callX (FT : FuncId → Option Func) (L : Lay) (run : Nat → Code → CS → Option (Exit × CS)) (okF : FuncId → Bool) (f : FuncId) (vs : List A) (hp : Hp) (nx : Nat) : Option Dl :=
  match FT f with
  | none => none
  | some fn => match fn.body with
    | none => none
    | some c =>
      let ids := closeIds hp 4096 (A.rlL vs) []
      let ρ : Nat → Nat := fun i => ids.idxOf i
      match okF f && (inB ids (A.rlL vs) && (nodupB ids && (Nat.ble vs.length fn.ntmps && (Nat.ble vs.length 65536 && (Nat.ble ids.length 65536 && ids.all fun i => match hp i with
        | some ob => inB ids ob.val.rl
        | none => false))))) with
      | true => match run fn.ntmps c ⟨Tr.ofL (vs.map (A.ren ρ)) 0 .lf, Tr.ofL (ids.map fun i => ((hp i).getD default).ren ρ) 0 .lf, ids.length, [], []⟩ with
        | some (e, s1) => (resCs L s1 fn.results.toList).bind fun rs =>
          let k := ids.length
          let all := closeIds s1.hp.get 4096 (A.rlL rs) (List.range k)
          let out := all.drop k
          match isEnd e && (rs.all (fun v => !v.isTup) && (out.all (fun i => Nat.ble k i) && (inB (List.range k ++ out) (A.rlL rs) &&
            ((List.range k ++ out).all (fun i => match s1.hp.get i with
              | some ob => inB (List.range k ++ out) ob.val.rl
              | none => false) &&
            (List.range k).all (fun i => match s1.hp.get i with
              | some ob => ob.fz || match hp (ids.getD i 0) with
                | some ob0 => !ob0.fz
                | none => false
              | none => false))))) with
          | true =>
            let σ := nameOf (fun i => ids.getD i 0) k nx out
            some ⟨(packA rs).ren σ, (List.range k).map (fun i => (ids.getD i 0, ((s1.hp.get i).getD default).ren σ)) ++ out.map (fun i => (nx + out.idxOf i, ((s1.hp.get i).getD default).ren σ)), (List.range k).map (fun i => ids.getD i 0), out.length⟩
          | false => none
        | none => none
      | false => none

theorem callX_sound {P : Program} {FT : FuncId → Option Func} {L : Lay} (hL : LOk P L) (hFT : ∀ f fn, FT f = some fn → P.funcs[f]? = some fn) {run : Nat → Code → CS → Option (Exit × CS)} {okF : FuncId → Bool}
    (hok : ∀ f fn c, okF f = true → FT f = some fn → fn.body = some c → (fn.name == "runtime.NumGoroutine") = false ∧ codeOk fn.ntmps c = true)
    (hrun : ∀ N c s e s', codeOk N c = true → run N c s = some (e, s') → Runs P L none N c s.as e s'.as)
    {f : FuncId} {vs : List A} {hp : Hp} {nx : Nat} {δ : Dl} (h : callX FT L run okF f vs hp nx = some δ) : CallD P L f vs hp nx δ := by
  unfold callX at h
  split at h
  · cases h
  rename_i fn hf0
  have hf := hFT f fn hf0
  split at h
  · cases h
  rename_i c hb
  simp only at h
  generalize hids : closeIds hp 4096 (A.rlL vs) [] = ids at h
  split at h
  case h_2 => cases h
  rename_i hchk
  simp only [Bool.and_eq_true, Nat.ble_eq, List.all_eq_true] at hchk
  obtain ⟨c1, c2, c3, c4, c5, c6, c7⟩ := hchk
  obtain ⟨hname, hcode⟩ := hok f fn c c1 hf0 hb
  have c2 := inB_spec c2
  have c3 := nodupB_spec c3
  split at h
  case h_2 => cases h
  rename_i e s1 hr
  rw [Option.bind_eq_some_iff] at h
  obtain ⟨rs, hrs, h⟩ := h
  obtain ⟨cr, hrs, hcr⟩ := resCs_sound hrs
  generalize hall : (closeIds s1.hp.get 4096 (A.rlL rs) (List.range ids.length)).drop ids.length = out at h
  split at h
  case h_2 => cases h
  rename_i hchk2
  simp only [Bool.and_eq_true, List.all_eq_true, Bool.not_eq_true', Nat.ble_eq] at hchk2
  obtain ⟨d1, d2, d3, d4, d5, d6⟩ := hchk2
  have d4 := inB_spec d4
  cases h
  have hget : ∀ i, i ∈ ids → ids.getD (ids.idxOf i) 0 = i := fun i hi => by
    have := List.idxOf_lt_length_of_mem hi
    rw [List.getD_eq_getElem?_getD, List.getElem?_eq_getElem this]
    simp [List.getElem_idxOf]
  have hσρ : ∀ i, i ∈ ids → nameOf (fun i => ids.getD i 0) ids.length nx out (ids.idxOf i) = i := fun i hi => by
    have := List.idxOf_lt_length_of_mem hi
    simp only [nameOf, this, if_true]
    exact hget i hi
  have hobs : ∀ i, i ∈ ids → ∃ ob, hp i = some ob ∧ ∀ j ∈ ob.val.rl, j ∈ ids := fun i hi => by
    have := c7 i hi
    split at this
    · rename_i ob ho; exact ⟨ob, ho, inB_spec this⟩
    · cases this
  have hgetI : ∀ i, i < ids.length → ids.getD i 0 ∈ ids := fun i hi => by
    rw [List.getD_eq_getElem?_getD, List.getElem?_eq_getElem hi]
    simp
  have hvs : (vs.map (A.ren fun i => ids.idxOf i)).map (A.ren (nameOf (fun i => ids.getD i 0) ids.length nx out)) = vs := by
    have := ren_renL (σ := nameOf (fun i => ids.getD i 0) ids.length nx out) (ρ := fun i => ids.idxOf i) vs fun i hi => hσρ i (c2 i hi)
    rw [renL_eq, renL_eq] at this
    exact this
  have hR := hrun fn.ntmps c _ e s1 hcode hr
  have hin : ∀ j, j ∈ List.range ids.length ++ out → j < ids.length ∨ j ∈ out := fun j hj => by
    rcases List.mem_append.1 hj with h | h
    · exact .inl (List.mem_range.1 h)
    · exact .inr h
  have hle : Le ⟨fun t => (vs.map (A.ren fun i => ids.idxOf i))[t]?, fun i => if i < ids.length then some (((hp (ids.getD i 0)).getD default).ren fun i => ids.idxOf i) else none, ids.length, fun _ => none, []⟩
      (CS.as ⟨Tr.ofL (vs.map (A.ren fun i => ids.idxOf i)) 0 .lf, Tr.ofL (ids.map fun i => ((hp i).getD default).ren fun i => ids.idxOf i) 0 .lf, ids.length, [], []⟩) := by
    refine ⟨fun t x ht => ?_, fun o x ho => ?_, Nat.le_refl _, (fun o x h => by simp [CS.as, CS.yf, look] at h), rfl, (fun o h => by cases h)⟩
    · simp only [CS.as] at ht
      rw [Tr.ofL_get _ _ _ (by simpa using c5)] at ht
      simp only [Nat.not_lt_zero, if_false, Nat.zero_add, Nat.sub_zero, Tr.get_lf] at ht
      split at ht
      · exact ht
      · cases ht
    · simp only [CS.as] at ho
      rw [Tr.ofL_get _ _ _ (by simpa using c6)] at ho
      simp only [Nat.not_lt_zero, if_false, Nat.zero_add, Nat.sub_zero, Tr.get_lf, List.length_map] at ho
      split at ho
      · rename_i hlt
        simp only [hlt, if_true]
        rw [List.getElem?_map, List.getElem?_eq_getElem hlt] at ho
        simp only [Option.map_some, Option.some.injEq] at ho
        rw [← ho, List.getD_eq_getElem?_getD, List.getElem?_eq_getElem hlt]
        rfl
      · cases ho
  have key := callD_body (L := L) hL (vs0 := vs.map (A.ren fun i => ids.idxOf i)) (k := ids.length) (h0 := fun i => ((hp (ids.getD i 0)).getD default).ren fun i => ids.idxOf i) (h1 := fun i => (s1.hp.get i).getD default) (out := out) (s' := s1.as) (e := e) (rs := rs)
    hf hname hb (by simpa using c4) (fun i hi => d3 i hi) (by rw [← renL_eq]; exact refs_renL vs fun i hi => List.idxOf_lt_length_of_mem (c2 i hi))
    (fun i hi => by
      obtain ⟨ob, ho, hj⟩ := hobs _ (hgetI i hi)
      simp only [ho, Option.getD_some, Ob.ren]
      exact refs_ren _ fun j hj' => List.idxOf_lt_length_of_mem (hj j hj'))
    (hR.weak hle (Le.refl _))
    (by revert d1; cases e <;> simp [isEnd]) hrs hcr (fun v hv => d2 v hv)
    (fun i hi => by
      have hmem : i ∈ List.range ids.length ++ out := by
        rcases hi with h | h
        · exact List.mem_append_left _ (List.mem_range.2 h)
        · exact List.mem_append_right _ h
      have := d5 i hmem
      split at this
      · rename_i ob ho
        have hs : s1.as.hp i = some ob := ho
        rw [hs, ho]
        exact ⟨rfl, refs_rl _ _ fun j hj => hin j (inB_spec this j hj)⟩
      · cases this)
    (refs_rlL _ _ fun j hj => hin j (d4 j hj))
    (fun i hi hz => by
      have := d6 i (List.mem_range.2 hi)
      split at this
      · rename_i ob ho
        simp only [ho, Option.getD_some] at hz
        simp only [hz, Bool.false_or] at this
        split at this
        · rename_i ob0 ho0
          simp only [ho0, Option.getD_some, Ob.ren]
          simpa using this
        · cases this
      · cases this)
    (ids := fun i => ids.getD i 0) (fun i j hi hj hij => by
      simp only [List.getD_eq_getElem?_getD, List.getElem?_eq_getElem hi, List.getElem?_eq_getElem hj, Option.getD_some] at hij
      exact (List.getElem_inj c3).1 hij)
    (hp := hp) (nx := nx) (fun i hi => by
      obtain ⟨ob, ho, hj⟩ := hobs _ (hgetI i hi)
      simp only [ho, Option.getD_some, Ob.ren]
      congr 1
      rw [ren_ren _ fun j hj' => hσρ j (hj j hj')])
  rw [hvs] at key
  exact key

end
end Go.Ab
