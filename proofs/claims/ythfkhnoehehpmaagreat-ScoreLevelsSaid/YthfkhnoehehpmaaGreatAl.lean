import Derived.Test.YthfkhnoehehpmaaGreatAk
import Derived.Lib.AppendZeros
import Derived.WalkSpells
set_option linter.unusedVariables false
set_option linter.unusedSimpArgs false
/- THE INTERPRETER IS SOUND. -/
namespace Go.Ab
section
variable {K : Cfg} {r : Option Nat} {N : Nat} {ops : Array Oper} {o : Oper}

/-- what the configuration must keep -/
structure Cfg.Ok (K : Cfg) : Prop where
  hL : LOk K.P K.L
  mixed : K.P.follows .mixedOrders = true
  ft : ∀ f fn, K.FT f = some fn → K.P.funcs[f]? = some fn
  code : ∀ f fn c, K.okF f = true → K.FT f = some fn → fn.body = some c → (fn.name == "runtime.NumGoroutine") = false ∧ codeOk fn.ntmps c = true
  unit : ∀ t, K.units t = true → UnitT K.P t
  con : ∀ f vs hp nx δ, K.E f vs hp nx = some δ → CallD K.P K.L f vs hp nx δ

def RnOk (K : Cfg) (rn : RN) : Prop := ∀ ro N c s e s', codeOk N c = true → rn ro N c s = some (e, s') → ∀ r, (ro = false → r = none) → Runs K.P K.L r N c s.as e s'.as

theorem ActG.pre {P : Program} {L : Lay} {s s1 s' : AS} (h : ActG P L r N ops o s1 s') (hi : Imp P L s s1) : ActG P L r N ops o s s' :=
  fun g hg a w ha n Q i K hi' hK => h g hg a w (hi g a w ha) n Q i K hi' hK

theorem putC_act {P : Program} {L : Lay} {s s' : CS} {δ : Dl} (hp : putC s o.dst δ = some s') (h : ActI P L r ops o s.as.tm s.as.hp s.as.nx δ) (hd : ∀ k, o.dst = some k → k < N) : ActG P L r N ops o s.as s'.as := by
  rw [putC_spec hp]
  exact actG_of h hd

theorem plainT_sound (hK : K.Ok) {s s' : CS} (h : plainT K o.op o.dst s = some s') (hw : wantA ops o s.tm.get = some true) (hd : ∀ k, o.dst = some k → k < N) : ActG K.P K.L r N ops o s.as s'.as := by
  unfold plainT at h
  split at h
  · rename_i δ hδ
    rw [opF_eq] at hδ
    obtain ⟨c, h1, h2⟩ := opc_sound hδ
    exact putC_act h (act_local hK.hL hw h1 h2) hd
  · cases h

theorem own_to_sl {P : Program} {L : Lay} (hL : LOk P L) {g : Gh} {tm : Nat → Option A} {hp : Hp} {fr : Nat → Prop} {a : Act} {w : World} {ob : Nat → Option OI} {S : Nat → Prop} (i : Inv P L g tm hp fr a w ob S) {o ver off len : Nat} {y : Ob} {e : TypeId} {v : Value}
    (hv : RV1 P w ob S (.own o ver off len) v) (hy : hp o = some y) (he : y.e = some e) (hver : y.ver = ver) (hlen : off + len ≤ (elems y).length) (hfz : y.fz = true) : RV1 P w ob S (.sl e (((elems y).drop off).take len)) v := by
  obtain ⟨oi, e', ad, cap, e1, e2, e3, e4, e5, e6, e7, e8⟩ := own_now i.rs hy hver hv
  rw [he] at e4; cases e4
  obtain ⟨oi', q1, q2, q3, q4⟩ := i.rs.hp o y hy
  rw [e1] at q1; cases q1
  obtain ⟨r1, r2, r3⟩ := e7
  have hl : (((elems y).drop off).take len).length = len := by simp; omega
  refine RV1.of_leaf ?_ rfl
  cases hb : oi.blk with
  | none =>
    simp only [hb] at e8 r3
    obtain ⟨x1, x2, x3, x4⟩ := e8
    subst x1; subst x2; subst x3; subst x4
    refine ⟨none, 0, by simp [e5], by simp, by simp, by simp, by simp, .inl (by simp)⟩
  | some b =>
    simp only [hb] at e8 r3
    obtain ⟨arr, t, f1, f2⟩ := r3
    rw [he] at f2
    obtain ⟨xs, de, cl, rest, g1, g2, g3, g4, g5, g6, g7, g8, g9, g10⟩ := f2
    have hel : elems y = xs := by simp [elems, g1]
    rw [hel] at hl hlen ⊢
    have hw : ∀ z ∈ xs, z.shp.width = de.sh.width := fun z hz => by rw [g3 z hz]
    have hez := esz_eq (hL e de g2)
    have heb := eby_eq (hL e de g2)
    obtain ⟨pre, cc, post, m1, m2, m3⟩ := RCs.part g7 hw (i := off) (j := off + len) (by omega) hlen
    have hsub : (xs.take (off + len)).drop off = (xs.drop off).take len := by
      rw [List.drop_take]; congr 1; omega
    rw [hsub] at m3
    refine ⟨ad, cap, by rw [hl, e5], by rw [hl]; exact e8.2.1, ?_, by rw [hl]; exact e6, fun z hz => by rw [hez]; exact hw z (List.mem_of_mem_drop (List.mem_of_mem_take hz)), ?_⟩
    · rw [hl, heb]
      exact Nat.le_trans (Nat.mul_le_mul_right _ (by omega)) g9
    · rcases e8.2.2 with h0 | h0
      · left
        apply List.eq_nil_of_length_eq_zero
        rw [hl]; have := e8.2.1; omega
      · right
        refine ⟨b, off * esz P e, cc, h0, q4 hfz b hb, ⟨arr, t, _, f1, pre, post ++ rest, by rw [g6, m1]; simp, ?_⟩, m3⟩
        rw [hez]; exact m2

theorem purT_imp (hK : K.Ok) : ∀ (l : List Operand) (s : CS), Imp K.P K.L s.as (purT l s).as
  | [], s => Imp.refl _
  | x :: l, s => by
    cases x with
    | tmp t =>
      simp only [purT]
      split
      · rename_i o ver off len ht
        split
        · rename_i y hy
          split
          · rename_i e he hc
            refine Imp.trans ?_ (purT_imp hK l _)
            simp only [Bool.and_eq_true, beq_iff_eq, Nat.ble_eq, Nat.blt_eq] at hc
            obtain ⟨c1, c2, c3, c4⟩ := hc
            have hfr : ∃ hp', fzHp y s.hp o = hp' ∧ Imp K.P K.L s.as ⟨s.as.tm, hp'.get, s.as.nx, s.as.ys, s.as.mks⟩ ∧ hp'.get o = some { y with fz := true } := by
              cases hz : y.fz with
              | true => exact ⟨_, by simp only [fzHp, hz], Imp.refl _, by rw [hy]; cases y; simp_all⟩
              | false =>
                refine ⟨Tr.set { y with fz := true } 1048576 s.hp o, by simp only [fzHp, hz], ?_, by rw [Tr.get_set _ _ _ _ c3]; simp⟩
                have h := Imp.freeze (P := K.P) (L := K.L) (s := s.as) (o := o) (y := y) hy
                have e : (Tr.set { y with fz := true } 1048576 s.hp o).get = uph s.hp.get [(o, { y with fz := true })] := by
                  funext k
                  rw [Tr.get_set _ _ _ _ c3]
                  simp only [uph, look]
                  by_cases h : o = k
                  · subst h; simp
                  · have h' : k ≠ o := Ne.symm h
                    simp [h, h']
                rw [e]; exact h
            obtain ⟨hp', h1, h2, h3⟩ := hfr
            rw [h1]
            refine Imp.trans h2 ?_
            intro g a w ⟨ob, S, i⟩
            refine ⟨ob, S, ⟨⟨fun k x hk => ?_, i.rs.hp, i.rs.inj, i.rs.blk, i.rs.st, i.rs.fr, i.rs.mine⟩, i.ext, i.keep, i.defs, i.xs, i.size, i.news, i.own⟩⟩
            have hk' : (if t = k then some (A.sl e (((elems y).drop off).take len)) else s.tm.get k) = some x := by
              rw [← Tr.get_set (x := A.sl e (((elems y).drop off).take len)) 65536 s.tm t k c4]; exact hk
            by_cases htk : t = k
            · subst htk
              simp only [if_true, Option.some.injEq] at hk'
              subst hk'
              have hv := i.rs.tm t _ ht
              exact own_to_sl hK.hL i (y := { y with fz := true }) hv h3 he c1 c2 rfl
            · simp only [htk, if_false] at hk'
              exact i.rs.tm k x hk'
          · exact purT_imp hK l s
        · exact purT_imp hK l s
      · exact purT_imp hK l s
    | const v => exact purT_imp hK l s
    | func f => exact purT_imp hK l s
    | global n => exact purT_imp hK l s

theorem actG_good {P : Program} {L : Lay} {s : AS} {δ : Dl} (hw : wantA ops o s.tm = some true) (hno : ∀ c, o.op ≠ .defer c)
    (h : ∀ (mine : Nat → Prop) (a : Act) (w : World) (ob : Nat → Option OI) (S : Nat → Prop), RS P L mine s.tm s.hp (s.nx ≤ ·) a.tmps w ob S → Good P L s.hp s.nx w ob S δ (runOp P a w o)) (hd : ∀ k, o.dst = some k → k < N) :
    ActG P L r N ops o s ⟨upf s.tm o.dst δ.v, uph s.hp δ.wr, s.nx + δ.nw, s.ys, s.mks⟩ := by
  refine actG_run hw hno (fun g a w ob S iv => ?_) hd
  obtain ⟨v, w', ob', S', g1, g2, g3, g4⟩ := h _ a w ob S iv.rs
  have i1 := iv.after g2 g3 g4 (fr' := (s.nx + δ.nw ≤ ·)) (fun k hk _ => hk) (fun k hk => ⟨by omega, by omega⟩) none (fun k hk => by cases hk)
  have e : upf s.tm none δ.v = s.tm := by funext t; simp [upf]
  rw [e] at i1
  refine ⟨v, w', ob', S', ?_, g3, i1⟩
  rcases g1 with g1 | ⟨g1, h2⟩
  · exact .inl g1
  · exact .inr ⟨g1, h2⟩

theorem putX_act {P : Program} {L : Lay} {s s' : CS} {v : A} {hp : Tr Ob} {nx : Nat} {ys : List (Nat × XC)} (hp' : putX s o.dst v hp nx ys = some s') (h : ActG P L r N ops o s.as ⟨upf s.as.tm o.dst v, hp.get, nx, fun k => (look ys k).map XC.xo, s.as.mks⟩) : ActG P L r N ops o s.as s'.as := by
  rw [putX_spec hp']; exact h

theorem putC_good {P : Program} {L : Lay} {s s' : CS} {δ : Dl} (hp : putC s o.dst δ = some s') (h : ActG P L r N ops o s.as ⟨upf s.as.tm o.dst δ.v, uph s.as.hp δ.wr, s.as.nx + δ.nw, s.as.ys, s.as.mks⟩) : ActG P L r N ops o s.as s'.as := by
  rw [putC_spec hp]; exact h

theorem capT_sound {args : Array Operand} {ts : Array TypeId} (ho : o.op = .call { callee := .builtin .cap, args := args, argTypes := ts }) {s s' : CS} (h : capT K args.toList ts.toList o.dst s = some s') (hw : wantA ops o s.tm.get = some true) (hd : ∀ k, o.dst = some k → k < N) :
    ActG K.P K.L r N ops o s.as s'.as := by
  unfold capT at h
  split at h
  · rename_i x t hx ht
    obtain rfl := arr_list _ hx
    obtain rfl := arr_list _ ht
    split at h
    · rename_i hs hv
      refine putX_act h (actG_run hw (by rw [ho]; simp) (fun g a w ob S iv => ?_) hd)
      have e1 : a.eval x = .slice none 0 0 := by
        have := (RV1.leaf (rv1_of iv.rs hv rfl) rfl).2.1
        simpa [RC] using this
      unfold slTy at hs
      split at hs
      · rename_i e hu
        exact ⟨.int .i64 0, w, ob, S, .inl (by simp [execOp, ho, resolve, invoke, builtin, Builtin.cap_, e1, run_underlying hu, goInt]), RV1.int.2 ⟨rfl, rfl⟩, iv⟩
      · cases hs
    · cases h
  · cases h

theorem apnT_sound (hK : K.Ok) {x y : Operand} {t t' : TypeId} (ho : o.op = .call { callee := .builtin .append, args := #[x, y], argTypes := #[t, t'] }) {s s' : CS} (h : apnT K x y t t' o.dst s = some s') (hw : wantA ops o s.tm.get = some true) (hd : ∀ k, o.dst = some k → k < N) :
    ActG K.P K.L r N ops o s.as s'.as := by
  unfold apnT at h
  split at h
  · rename_i n td hut hx hy hd0
    split at h
    · rename_i e hk
      rw [Option.bind_eq_some_iff] at h; obtain ⟨de, hde, h⟩ := h
      split at h
      · rename_i hc
        simp only [Bool.and_eq_true, decide_eq_true_eq] at hc
        obtain ⟨c1, c2, c3⟩ := hc
        refine putC_good h (actG_good hw (by rw [ho]; simp) (fun mine a w ob S rs => ?_) hd)
        have e1 : a.eval x = .slice none 0 0 := by
          have := (RV1.leaf (rv1_of rs hx rfl) rfl).2.1
          simpa [RC] using this
        obtain ⟨m, rfl⟩ : ∃ m : Nat, n = m := ⟨n.toNat, by omega⟩
        have e2 : a.eval y = .int .i64 m := (ev_int rs hy).1
        have hut2 := (hK.hL t td hd0).und
        simp only [hk] at hut2
        obtain ⟨i, z, i1, i2, i3, i4, i5, i6, i7⟩ := (hK.hL e de hde).info
        have hz : z.cells.size = de.sh.width := by
          have := RC.len de.zero z.cells.toList (RC.of_flat (P := K.P) (w := w) (ob := ob) (S := S) _ _ i5)
          rw [← i7, ← this]; simp
        have hpos := (hK.hL e de hde).pos
        have hm0 : 0 < m := by omega
        simp only [Int.toNat_natCast]
        have hrun := Go.Lib.run_append_nil_zeros (P := K.P) w t t' o.type e i z .i64 .i64 hut2.1 hut i1 i4 m hm0 (by rw [i2]; exact hpos) (by unfold maxBytes at c3; omega) (by rw [i3]; unfold maxBytes at c2; omega)
        have hge := grownCap_ge w m 0 e
        have hlr : (List.replicate m de.zero).length = m := by simp
        have := good_row (P := K.P) (L := K.L) (hp := s.as.hp) (nx := s.as.nx) (w := w) (ob := ob) (S := S) (a := a) (rd := []) (w1 := w.drew) (t := e) (e := e) (de := de) (xs := List.replicate m de.zero) (cap := grownCap w m 0 e) (cl := (Builtin.zeroCells z.cells m).toList) (rest := (Builtin.zeroCells z.cells (grownCap w m 0 e - m)).toList) (arr := Builtin.zeroCells z.cells m ++ Builtin.zeroCells z.cells (grownCap w m 0 e - m)) (res := runOp K.P a w o)
          rs (Nat.le_refl _) hK.hL hde (fun y hy => by rw [List.eq_of_mem_replicate hy, i7]) (by rw [zeroCells_list _ _ (by rw [hz]; exact hpos)]; exact RCs.replicate (RC.of_flat _ _ i5) m) (by simp)
          (by simp only [Array.size_append, size_zeroCells, hz]; rw [← Nat.add_mul]; congr 1; omega) (by rw [hlr]; exact hge) (by rw [hlr]; exact_mod_cast c2) rfl
          (by simp [runOp, execOp, ho, resolve, invoke, builtin, e1, e2, hrun])
        rw [hlr] at this
        exact this
      · cases h
    · cases h
  · cases h

theorem nil_eval {P : Program} {L : Lay} {mine : Nat → Prop} {tm : Nat → Option A} {hp : Tr Ob} {fr : Nat → Prop} {a : Act} {w : World} {ob : Nat → Option OI} {S : Nat → Prop} (rs : RS P L mine tm hp.get fr a.tmps w ob S) {x : Operand} {v : A} (hx : evA tm x = some v) {b : Bool} (hb : isNilC hp v = some b) :
    ∃ ad n c, a.eval x = .slice ad n c ∧ ad.isNone = b := by
  unfold isNilC at hb
  split at hb
  · cases hb
    have := (RV1.leaf (rv1_of rs hx rfl) rfl).2.1
    exact ⟨none, 0, 0, by simpa [RC] using this, rfl⟩
  · cases hb
    obtain ⟨ad, cap, e1, e2, e3, e4, e5⟩ := ev_sl rs hx
    rcases e5 with e5 | ⟨b, off, cl, f1, -⟩
    · cases e5
    · exact ⟨ad, _, cap, e1, by rw [f1]; rfl⟩
  · rename_i o ver off n
    split at hb
    · rename_i y hy
      obtain ⟨hc, rfl⟩ := gd_some hb
      obtain ⟨oi, e', ad, cap, e1, e2, e3, e4, e5, e6, e7, e8⟩ := own_now rs hy (by simpa using hc) (rv1_of rs hx rfl)
      refine ⟨ad, _, cap, e5, ?_⟩
      split at e8
      · omega
      · rcases e8.2.2 with h0 | h0
        · have := e8.2.1; omega
        · rw [h0]; rfl
    · cases hb
  · cases hb

theorem binT_sound (hK : K.Ok) {bo : BinOp} {t t' : TypeId} {x y : Operand} (ho : o.op = .binOp bo t x y t') {s s' : CS} (h : binT K bo t x y t' o.dst s = some s') (hw : wantA ops o s.tm.get = some true) (hd : ∀ k, o.dst = some k → k < N) :
    ActG K.P K.L r N ops o s.as s'.as := by
  unfold binT at h
  split at h
  · split at h
    · rename_i b hs hv
      rw [Option.bind_eq_some_iff] at hv; obtain ⟨v, hv, hb⟩ := hv
      unfold slTy at hs
      split at hs
      · rename_i e hu
        refine putX_act h (actG_run hw (by rw [ho]; simp) (fun g a w ob S iv => ?_) hd)
        obtain ⟨ad, n, c, e1, e2⟩ := nil_eval iv.rs hv hb
        have hc : a.eval (.const (.slice none 0 0)) = .slice none 0 0 := rfl
        have hg : ∀ w, (eqGuard .eql t x (.const (.slice none 0 0)) (.slice ad n c) (.slice none 0 0)).run K.P w = .ok () w := fun w => by unfold eqGuard; split <;> simp
        exact ⟨.bool b, w, ob, S, .inl (by simp [execOp, ho, e1, hc, hg, Go.Lib.run_eql_slice_nil w t e ad n c 0 0 hu, e2]), ⟨by simp [RC, Value.cells], by simp [A.isSt]⟩, iv⟩
      · cases hs
    · rename_i b hs hv
      rw [Option.bind_eq_some_iff] at hv; obtain ⟨v, hv, hb⟩ := hv
      unfold slTy at hs
      split at hs
      · rename_i e hu
        refine putX_act h (actG_run hw (by rw [ho]; simp) (fun g a w ob S iv => ?_) hd)
        obtain ⟨ad, n, c, e1, e2⟩ := nil_eval iv.rs hv hb
        have hc : a.eval (.const (.slice none 0 0)) = .slice none 0 0 := rfl
        have hg : ∀ w, (eqGuard .neq t x (.const (.slice none 0 0)) (.slice ad n c) (.slice none 0 0)).run K.P w = .ok () w := fun w => by unfold eqGuard; split <;> simp
        exact ⟨.bool (!b), w, ob, S, .inl (by simp [execOp, ho, e1, hc, hg, Go.run_neq_slice_nil_any w t e ad n c 0 0 hu, e2]), ⟨by simp [RC, Value.cells], by simp [A.isSt]⟩, iv⟩
      · cases hs
    · cases h
  · have h' : plainT K o.op o.dst s = some s' := by rw [ho]; exact h
    exact plainT_sound hK h' hw hd

theorem purT_bool : ∀ (l : List Operand) (s : CS) (d : Nat) (b : Bool), s.tm.get d = some (.bool b) → (purT l s).tm.get d = some (.bool b)
  | [], s, d, b, h => h
  | x :: l, s, d, b, h => by
    cases x with
    | tmp t =>
      simp only [purT]
      split
      · rename_i o ver off len ht
        split
        · split
          · rename_i hc
            simp only [Bool.and_eq_true, beq_iff_eq, Nat.ble_eq, Nat.blt_eq] at hc
            refine purT_bool l _ d b ?_
            simp only
            rw [Tr.get_set _ _ _ _ hc.2.2.2]
            split
            · rename_i e; subst e; rw [ht] at h; cases h
            · exact h
          · exact purT_bool l s d b h
        · exact purT_bool l s d b h
      · exact purT_bool l s d b h
    | const v => exact purT_bool l s d b h
    | func f => exact purT_bool l s d b h
    | global n => exact purT_bool l s d b h

theorem purT_want {l : List Operand} {s : CS} (hw : wantA ops o s.tm.get = some true) : wantA ops o (purT l s).tm.get = some true := by
  cases hg : o.guard with
  | none => simp only [wantA, hg]
  | some p =>
    obtain ⟨j, want⟩ := p
    simp only [wantA, hg] at hw ⊢
    cases hd : (ops[j]?).bind (·.dst) with
    | none => simp only [hd] at hw; cases hw
    | some d =>
      simp only [hd] at hw ⊢
      split at hw
      · rename_i b hb
        rw [purT_bool l s d b hb]; exact hw
      · cases hw
      · cases hw

theorem sliceT_sound (hK : K.Ok) {x : Operand} {s s' : CS} (h : sliceT K o.op x o.dst s = some s') (hw : wantA ops o s.tm.get = some true) (hd : ∀ k, o.dst = some k → k < N) : ActG K.P K.L r N ops o s.as s'.as := by
  unfold sliceT at h
  split at h
  · rename_i δ hδ
    obtain ⟨c, h1, h2⟩ := opc_sound hδ
    exact putC_act h (act_local hK.hL hw h1 h2) hd
  · exact (plainT_sound hK h (purT_want hw) hd).pre (purT_imp hK [x] s)

theorem evT_sound {args : List Operand} {s : CS} {vs : List A} (h : ((evAs s.tm.get args).bind fun vs => gd (vs.all fun v => !v.isTup) vs) = some vs) : evAs s.tm.get args = some vs ∧ ∀ v ∈ vs, v.isTup = false := by
  rw [Option.bind_eq_some_iff] at h
  obtain ⟨ws, h1, h2⟩ := h
  obtain ⟨h3, rfl⟩ := gd_some h2
  rw [List.all_eq_true] at h3
  exact ⟨h1, fun v hv => by simpa using h3 v hv⟩

theorem tryE_sound (hK : K.Ok) {x : Operand} {args : Array Operand} {ts : Array TypeId} {f : FuncId} {first caps : List A} (ho : o.op = .call { callee := .value x, args := args, argTypes := ts }) {s : CS} {δ : Dl} (hx : evA s.tm.get x = some (.fn (.func f) first caps))
    (h : tryE K f first caps args.toList s = some δ) (hw : wantA ops o s.tm.get = some true) : ActI K.P K.L r ops o s.as.tm s.as.hp s.as.nx δ := by
  unfold tryE at h
  split at h
  · rename_i vs hvs
    obtain ⟨h1, h2⟩ := evT_sound hvs
    exact act_call ho hw hx h1 h2 (hK.con _ _ _ _ _ h)
  · cases h

theorem purT_fn : ∀ (l : List Operand) (s : CS) (d : Nat) (f : Fn) (a b : List A), s.tm.get d = some (.fn f a b) → (purT l s).tm.get d = some (.fn f a b)
  | [], s, d, f, a, b, h => h
  | x :: l, s, d, f, a, b, h => by
    cases x with
    | tmp t =>
      simp only [purT]
      split
      · rename_i o ver off len ht
        split
        · split
          · rename_i hc
            simp only [Bool.and_eq_true, beq_iff_eq, Nat.ble_eq, Nat.blt_eq] at hc
            refine purT_fn l _ d f a b ?_
            simp only
            rw [Tr.get_set _ _ _ _ hc.2.2.2]
            split
            · rename_i e; subst e; rw [ht] at h; cases h
            · exact h
          · exact purT_fn l s d f a b h
        · exact purT_fn l s d f a b h
      · exact purT_fn l s d f a b h
    | const v => exact purT_fn l s d f a b h
    | func f' => exact purT_fn l s d f a b h
    | global n => exact purT_fn l s d f a b h

theorem sharedC_sound (hK : K.Ok) {rn : RN} (hrn : RnOk K rn) {x : Operand} {args : Array Operand} {ts : Array TypeId} {f : FuncId} {first caps vs : List A} (ho : o.op = .call { callee := .value x, args := args, argTypes := ts }) {s s' : CS} (hx : evA s.tm.get x = some (.fn (.func f) first caps))
    (hvs : evAs s.tm.get args.toList = some vs) (ht : ∀ v ∈ vs, v.isTup = false) (h : sharedC K rn f (first ++ vs ++ caps) s o.dst = some s') (hw : wantA ops o s.tm.get = some true) (hd : ∀ k, o.dst = some k → k < N) : ActG K.P K.L r N ops o s.as s'.as := by
  unfold sharedC at h
  split at h
  · cases h
  rename_i fn hf0
  split at h
  · cases h
  rename_i c hb
  split at h
  case h_2 => cases h
  rename_i hc
  simp only [Bool.and_eq_true, Nat.ble_eq] at hc
  obtain ⟨c1, c2, c3⟩ := hc
  obtain ⟨hname, hcode⟩ := hK.code f fn c c1 hf0 hb
  split at h
  case h_2 => cases h
  rename_i e s2 hr
  rw [Option.bind_eq_some_iff] at h; obtain ⟨rs, hrs, h⟩ := h
  split at h
  case h_2 => cases h
  rename_i hc2
  simp only [Bool.and_eq_true, List.all_eq_true, Bool.not_eq_true'] at hc2
  obtain ⟨d1, d2, d3⟩ := hc2
  obtain ⟨cr, hrs, hcr⟩ := resCs_sound hrs
  have hrun := hrn false fn.ntmps c _ e s2 hcode hr none (fun _ => rfl)
  have e0 : (CS.as ⟨Tr.ofL (first ++ vs ++ caps) 0 .lf, s.hp, s.nx, s.ys, []⟩) = ⟨fun t => (first ++ vs ++ caps)[t]?, s.as.hp, s.as.nx, s.as.ys, []⟩ := by
    simp only [CS.as, ofL_tm _ c3]; rfl
  rw [e0] at hrun
  have key := actG_call (o := o) (ops := ops) (r := r) (N := N) (s := s.as) (s2 := s2.as) hK.hL (hK.ft f fn hf0) hname hb ho hw hx hvs ht c2 hrun (by revert d1; cases e <;> simp [isEnd]) hrs hcr (fun v hv => d2 v hv) (mkOk_spec d3) hd
  refine putX_act h ?_
  have e1 : (fun k => (look (dropY s2.mks s2.ys) k).map XC.xo) = fun k => if k ∈ s2.mks then none else s2.as.ys k := dropY_yf s2 s2.mks
  rw [e1]
  exact key

theorem callV_sound (hK : K.Ok) {rn : RN} (hrn : RnOk K rn) {x : Operand} {args : Array Operand} {ts : Array TypeId} (ho : o.op = .call { callee := .value x, args := args, argTypes := ts }) {s s' : CS}
    (hy : ∀ oo vs, evA s.tm.get x = some (.xo .yl oo) → evAs s.tm.get args.toList = some vs → (∀ v ∈ vs, v.isTup = false) → yieldC rn oo vs s o.dst = some s' → ActG K.P K.L r N ops o s.as s'.as)
    (h : callV K rn x args.toList o.dst s = some s') (hw : wantA ops o s.tm.get = some true) (hd : ∀ k, o.dst = some k → k < N) : ActG K.P K.L r N ops o s.as s'.as := by
  unfold callV at h
  rw [evF_eq] at h
  split at h
  · rename_i f first caps hx
    split at h
    · rename_i δ hδ
      exact putC_act h (tryE_sound hK ho hx hδ hw) hd
    · split at h
      · rename_i δ hδ
        have hx' : evA (purT args.toList s).tm.get x = some (.fn (.func f) first caps) := by
          cases x with
          | tmp t => exact purT_fn _ _ _ _ _ _ hx
          | const v => exact hx
          | func f' => exact hx
          | global n => exact hx
        exact (putC_act h (tryE_sound hK ho hx' hδ (purT_want hw)) hd).pre (purT_imp hK _ _)
      · split at h
        · rename_i vs hvs
          obtain ⟨h1, h2⟩ := evT_sound hvs
          exact sharedC_sound hK hrn ho hx h1 h2 h hw hd
        · cases h
  · rename_i oo hx
    split at h
    · rename_i vs hvs
      obtain ⟨h1, h2⟩ := evT_sound hvs
      exact hy oo vs hx h1 h2 h
    · cases h
  · cases h

theorem look_yf {s : CS} {oo : Nat} {x : XC} (h : look s.ys oo = some x) : s.as.ys oo = some x.xo := by
  show s.yf oo = _
  simp [CS.yf, h]

theorem yieldC_sound (hK : K.Ok) {rn : RN} (hrn : RnOk K rn) {x : Operand} {args : Array Operand} {ts : Array TypeId} (ho : o.op = .call { callee := .value x, args := args, argTypes := ts }) {s s' : CS} {oo : Nat} {vs : List A} (hx : evA s.tm.get x = some (.xo .yl oo))
    (hvs : evAs s.tm.get args.toList = some vs) (ht : ∀ v ∈ vs, v.isTup = false) (h : yieldC rn oo vs s o.dst = some s') (hw : wantA ops o s.tm.get = some true) (hd : ∀ k, o.dst = some k → k < N) : ActG K.P K.L r N ops o s.as s'.as := by
  unfold yieldC at h
  split at h
  case h_2 => cases h
  rename_i y hy
  split at h
  case h_2 => cases h
  rename_i hc
  simp only [Bool.and_eq_true, List.all_eq_true, Nat.blt_eq] at hc
  obtain ⟨c1, c2, c3, c4⟩ := hc
  have c1 := Nat.eq_of_beq_eq_true c1
  rw [Option.bind_eq_some_iff] at h; obtain ⟨tm, htm, h⟩ := h
  split at h
  case h_2 => cases h
  rename_i s1 hr1
  split at h
  case h_2 => cases h
  rename_i y1 hy1
  split at h
  case h_2 => cases h
  rename_i hc1
  simp only [Bool.and_eq_true] at hc1
  split at h
  case h_2 => cases h
  rename_i e s2 hr2
  split at h
  case h_2 => cases h
  rename_i y2 jump hy2 hj
  split at h
  case h_2 => cases h
  rename_i hc2
  simp only [Bool.and_eq_true, List.all_eq_true] at hc2
  have hst : y1.st = .ready := by
    have := hc1.1
    revert this
    cases y1.st <;> simp [isReady]
  have hm1 : s1.mks = [] := by have := hc1.2; revert this; cases s1.mks <;> simp
  have hm2 : s2.mks = [] := by have := hc2.1; revert this; cases s2.mks <;> simp
  have ha : ∀ l, Runs K.P K.L (some l) y.N y.assign ⟨bindPs y.ps.toList vs y.tm.get, s.as.hp, s.as.nx, s.as.ys, []⟩ .normal s1.as := fun l => by
    have := hrn true y.N y.assign _ _ _ c3 hr1 (some l) (fun h => by cases h)
    have e0 : (CS.as ⟨tm, s.hp, s.nx, s.ys, []⟩) = ⟨bindPs y.ps.toList vs y.tm.get, s.as.hp, s.as.nx, s.as.ys, []⟩ := by
      simp only [CS.as, bindT_spec _ _ _ _ htm]; rfl
    rw [e0] at this
    exact this
  have hb : ∀ l, Runs K.P K.L (some l) y.N y.body ⟨s1.as.tm, s1.as.hp, s1.as.nx, upy s1.as.ys oo (some (.loop { y1.yr with st := .busy })), []⟩ e s2.as := fun l => by
    have := hrn true y.N y.body _ _ _ c4 hr2 (some l) (fun h => by cases h)
    have e0 : (CS.as ⟨s1.tm, s1.hp, s1.nx, setY s1.ys oo (.loop { y1 with st := .busy }), []⟩) = ⟨s1.as.tm, s1.as.hp, s1.as.nx, upy s1.as.ys oo (some (.loop { y1.yr with st := .busy })), []⟩ := by
      simp only [CS.as]
      congr 1
      exact setY_yf s1 oo (.loop { y1 with st := .busy })
    rw [e0] at this
    exact this
  have key := actG_yield (o := o) (ops := ops) (r := r) (N := N) (s := s.as) (s1 := s1.as) (s2 := s2.as) (y := y.yr) (y1 := y1.yr) (y2 := y2.yr) ho hw hx hvs ht (look_yf hy) c1 (fun p hp => c2 p hp) ha (look_yf hy1) hst hm1 hb (look_yf hy2) hm2 hj (fun k hk => isDfr_spec (hc2.2 k hk)) hd
  refine putX_act h ?_
  have e1 : (fun k => (look (setY s2.ys oo (.loop { y2 with st := if jump.isNone = true then .ready else .done, pend := jump })) k).map XC.xo) = upy s2.as.ys oo (some (.loop { y2.yr with st := if jump.isNone = true then .ready else .done, pend := jump })) := setY_yf s2 oo _
  rw [e1]
  exact key

theorem mapTy_spec {mt : TypeId} (h : mapTy K mt = true) : ∃ kt et, K.P.underlying mt = some (.map kt et) ∧ K.P.underlying kt = some (.int .i64) := by
  unfold mapTy at h
  split at h
  · rename_i kt et h1
    split at h
    · rename_i h2; exact ⟨kt, et, h1, h2⟩
    · cases h
  · cases h

theorem mupT_sound {mt : TypeId} {m k v : Operand} (ho : o.op = .mapUpdate mt m k v) {s s' : CS} (h : mupT K mt m k v o.dst s = some s') (hw : wantA ops o s.tm.get = some true) (hd : ∀ k, o.dst = some k → k < N) : ActG K.P K.L r N ops o s.as s'.as := by
  unfold mupT at h
  split at h
  case h_2 => cases h
  rename_i oo n hm h1 h2 h3
  split at h
  case h_2 => cases h
  rename_i ks hl
  obtain ⟨kt, et, u1, u2⟩ := mapTy_spec hm
  refine putX_act h ?_
  rw [setY_yf]
  exact actG_mapUpdate ho hw u1 u2 h1 h2 h3 (look_yf hl) hd

theorem rngT_sound {mt : TypeId} {x : Operand} (ho : o.op = .range mt x) {s s' : CS} (h : rngT K mt x o.dst s = some s') (hw : wantA ops o s.tm.get = some true) (hd : ∀ k, o.dst = some k → k < N) : ActG K.P K.L r N ops o s.as s'.as := by
  unfold rngT at h
  split at h
  case h_2 => cases h
  rename_i oo hm h1
  split at h
  case h_2 => cases h
  rename_i ks hl
  obtain ⟨kt, et, u1, u2⟩ := mapTy_spec hm
  refine putX_act h ?_
  rw [setY_yf]
  exact actG_range ho hw u1 h1 (look_yf hl) hd

theorem nextT_sound {x : Operand} (ho : o.op = .next x false) {s s' : CS} (h : nextT x o.dst s = some s') (hw : wantA ops o s.tm.get = some true) (hd : ∀ k, o.dst = some k → k < N) : ActG K.P K.L r N ops o s.as s'.as := by
  unfold nextT at h
  split at h
  case h_2 => cases h
  rename_i oo hx
  split at h
  case h_2 => cases h
  rename_i m since seen stepped hl
  split at h
  case h_2 => cases h
  rename_i ks hks
  split at h
  · rename_i hc hle
    simp only [Bool.and_eq_true, Nat.ble_eq] at hc
    refine putX_act h ?_
    exact actG_nextOver ho hw hx (look_yf hl) (look_yf hks) hc.1 hc.2 hle hd
  · rename_i i hc hle
    simp only [Bool.and_eq_true, Nat.ble_eq] at hc
    split at h
    case h_2 => cases h
    rename_i n hn
    split at h
    case h_2 => cases h
    rename_i hwn
    have hwn := of_decide_eq_true hwn
    refine putX_act h ?_
    rw [setY_yf]
    exact actG_nextOne ho hw hx (look_yf hl) (look_yf hks) hc.1 hc.2 hle hn hwn hd
  · cases h

theorem entT_sound {x : Operand} (ho : o.op = .entry x) {s s' : CS} (h : entT x o.dst s = some s') (hw : wantA ops o s.tm.get = some true) (hd : ∀ k, o.dst = some k → k < N) : ActG K.P K.L r N ops o s.as s'.as := by
  unfold entT at h
  split at h
  case h_2 => cases h
  rename_i oo hx
  split at h
  case h_2 => cases h
  rename_i m since seen stepped hl
  split at h
  case h_2 => cases h
  rename_i ks i hks hlast
  split at h
  case h_2 => cases h
  rename_i n hn
  split at h
  case h_2 => cases h
  rename_i hc
  simp only [Bool.and_eq_true] at hc
  have h1 := Nat.eq_of_beq_eq_true hc.1
  subst h1
  have hwn := of_decide_eq_true hc.2
  obtain ⟨l, rfl⟩ : ∃ l, seen = l ++ [i] := List.getLast?_eq_some_iff.1 hlast
  refine putX_act h ?_
  exact actG_entry ho hw hx (look_yf hl) (look_yf hks) hn hwn hd

theorem bldT_sound (hK : K.Ok) {t : TypeId} {parts : Array (Nat × Operand)} (ho : o.op = .build t parts) {s s' : CS} (h : bldT K t parts o.dst s = some s') (hw : wantA ops o s.tm.get = some true) (hd : ∀ k, o.dst = some k → k < N) : ActG K.P K.L r N ops o s.as s'.as := by
  unfold bldT at h
  split at h
  · rename_i hp hu
    obtain rfl := arr_list _ hp
    refine putX_act h ?_
    exact actG_unit ho hw (hK.unit t hu) hd
  · have h' : plainT K o.op o.dst s = some s' := by rw [ho]; exact h
    exact plainT_sound hK h' hw hd

theorem opT_sound (hK : K.Ok) {rn : RN} (hrn : RnOk K rn) {s s' : CS} (h : opT K rn o s = some s') (hw : wantA ops o s.tm.get = some true) (hd : ∀ k, o.dst = some k → k < N) : ActG K.P K.L r N ops o s.as s'.as := by
  unfold opT at h
  split at h
  · rename_i c ho
    unfold callT at h
    split at h
    · exact callV_sound hK hrn ho (fun oo vs hx hvs ht hy => yieldC_sound hK hrn ho hx hvs ht hy hw hd) h hw hd
    · exact capT_sound ho h hw hd
    · rename_i args ts
      unfold appT at h
      split at h
      · rename_i x y t t' ha hts
        obtain rfl := arr_list _ ha
        obtain rfl := arr_list _ hts
        split at h
        · exact plainT_sound hK (by rw [ho]; exact h) hw hd
        · exact apnT_sound hK ho h hw hd
      · cases h
    · exact plainT_sound hK (by rw [ho]; exact h) hw hd
  · rename_i ho; exact binT_sound hK ho h hw hd
  · rename_i ho; exact sliceT_sound hK (by rw [ho]; exact h) hw hd
  · rename_i ho
    refine putX_act h ?_
    rw [setY_yf]
    exact actG_makeMap ho hw hd
  · rename_i ho; exact mupT_sound ho h hw hd
  · rename_i ho; exact rngT_sound ho h hw hd
  · rename_i ho; exact nextT_sound ho h hw hd
  · rename_i ho; exact entT_sound ho h hw hd
  · rename_i ho; exact bldT_sound hK ho h hw hd
  · exact plainT_sound hK h hw hd

theorem runT_sound (hK : K.Ok) {rn : RN} (hrn : RnOk K rn) (hdst : dstOk ops N) : ∀ (l : List Oper) (i : Nat) (s s' : CS), ops.toList.drop i = l → i ≤ ops.size → runT K rn ops l s = some s' → SeqT K.P K.L r N ops i s.as s'.as
  | [], i, s, s', hl, hi, h => by
    rw [runT_nil] at h; cases h
    refine .nil ?_
    have := List.drop_eq_nil_iff.1 hl
    simp at this; omega
  | o :: l, i, s, s', hl, hi, h => by
    have hlt : i < ops.size := by
      rcases Nat.lt_or_ge i ops.size with h | h
      · exact h
      · rw [List.drop_eq_nil_iff.2 (by simpa using h)] at hl; cases hl
    have ho : ops[i]? = some o := by
      have : (ops.toList.drop i)[0]? = some o := by rw [hl]; rfl
      simpa using this
    have hl' : ops.toList.drop (i + 1) = l := by
      rw [← List.drop_drop, hl]; rfl
    have hd : ∀ k, o.dst = some k → k < N := fun k hk => hdst i o k ho hk
    rw [runT_cons] at h
    unfold stepT at h
    split at h
    · rename_i hw
      split at h
      · rename_i s1 h1
        exact .cons ho (opT_sound hK hrn h1 hw hd) (runT_sound hK hrn hdst l (i + 1) s1 s' hl' hlt h)
      · cases h
    · rename_i hw
      split at h
      · rename_i s1 h1
        exact .cons ho (putX_act h1 (actG_skip hw hd)) (runT_sound hK hrn hdst l (i + 1) s1 s' hl' hlt h)
      · cases h
    · cases h

theorem cfA_sound (hK : K.Ok) {rn : RN} (hrn : RnOk K rn) : ∀ f vs hp nx δ, cfA K rn f vs hp nx = some δ → CallD K.P K.L f vs hp nx δ := by
  intro f vs hp nx δ h
  unfold cfA at h
  split at h
  · rename_i δ' hδ
    cases h
    exact hK.con _ _ _ _ _ hδ
  · exact callX_sound (okF := K.okF) hK.hL hK.ft (fun f fn c h1 h2 h3 => hK.code f fn c h1 h2 h3) (fun N c s e s' h1 h2 => hrn false N c s e s' h1 h2 none (fun _ => rfl)) h

theorem regA_sound (hK : K.Ok) {rn : RN} (hrn : RnOk K rn) {id : Nat} (hdst : dstOk ops N) (hord : ordS ops = true) {s s' : CS} {e : Exit} (h : regA K rn ops s = some (e, s')) : Runs K.P K.L r N (.region id ops true) s.as e s'.as := by
  have key : ∀ (s s1 : CS) (fs : List Foot), runOps K.L (cfA K rn) ops ops.toList s = some (s1, fs) → ordD ops fs = true → Runs K.P K.L r N (.region id ops true) s.as .normal s1.as := fun s s1 fs h1 hd => by
    obtain ⟨δs, e1, e2⟩ := runOps_sound hK.hL (cfA_sound hK hrn) _ 0 s _ _ rfl (Nat.zero_le _) h1
    exact Runs.region_any hK.mixed e1 hdst (ordered_of hord (by rw [e2]; exact hd))
  unfold regA at h
  split at h
  case h_2 => cases h
  rename_i rr hr
  obtain ⟨s1, fs⟩ := rr
  split at h
  · rename_i hd
    cases h
    exact key _ _ _ hr hd
  · split at h
    case h_2 => cases h
    rename_i r2 hr2
    obtain ⟨s2, fs2⟩ := r2
    split at h
    · rename_i hd
      cases h
      exact (key _ _ _ hr2 hd).pre (freezeC_imp _ _)
    · cases h

theorem stepC_sound (hK : K.Ok) {rn : RN} (hrn : RnOk K rn) (hloop : ∀ (ro : Bool) (r : Option Nat) (N : Nat) (a : Code) (s s' : CS) (e : Exit), (ro = false → r = none) → codeOk N a = true → rn ro N (.loop a) s = some (e, s') → Loops K.P K.L r N a s.as e s'.as) : RnOk K (stepC K rn) := by
  intro ro N c s e s' hok h r hr
  have ih : ∀ c s e s', codeOk N c = true → rn ro N c s = some (e, s') → Runs K.P K.L r N c s.as e s'.as := fun c s e s' h1 h2 => hrn ro N c s e s' h1 h2 r hr
  cases c
  case skip => simp only [stepC, Option.some.injEq, Prod.mk.injEq] at h; obtain ⟨rfl, rfl⟩ := h; exact Runs.skip
  case label => simp only [stepC, Option.some.injEq, Prod.mk.injEq] at h; obtain ⟨rfl, rfl⟩ := h; exact Runs.label
  case exit => simp only [stepC, Option.some.injEq, Prod.mk.injEq] at h; obtain ⟨rfl, rfl⟩ := h; exact Runs.exit
  case goto => simp only [stepC, Option.some.injEq, Prod.mk.injEq] at h; obtain ⟨rfl, rfl⟩ := h; exact Runs.goto
  case ret => simp only [stepC, Option.some.injEq, Prod.mk.injEq] at h; obtain ⟨rfl, rfl⟩ := h; exact Runs.ret
  case region id ops draw =>
    simp only [codeOk, Bool.and_eq_true] at hok
    cases draw with
    | true =>
      simp only [Bool.not_true, Bool.false_or] at hok
      exact regA_sound hK hrn (dstB_spec hok.1) hok.2 h
    | false =>
      have h : regT K rn ops s = some (e, s') := h
      unfold regT at h
      split at h
      · rename_i s1 h1
        cases h
        exact Runs.regionT (runT_sound hK hrn (dstB_spec hok.1) _ 0 s _ rfl (Nat.zero_le _) h1)
      · cases h
  case seq a b =>
    simp only [codeOk, Bool.and_eq_true] at hok
    have h : seqC (rn ro N) a b s = some (e, s') := h
    unfold seqC at h
    split at h
    · rename_i s1 h1
      exact Runs.seq (ih a s .normal s1 hok.1 h1) (ih b s1 e s' hok.2 h)
    · rename_i hne
      refine Runs.seq_out (ih a s e s' hok.1 h) fun he => ?_
      subst he
      exact hne _ h
  case cond c a b =>
    simp only [codeOk, Bool.and_eq_true] at hok
    have h : condC (rn ro N) c a b s = some (e, s') := h
    unfold condC at h
    split at h
    · rename_i hc; exact Runs.cond_true hc (ih a s e s' hok.1 h)
    · rename_i hc; exact Runs.cond_false hc (ih b s e s' hok.2 h)
    · cases h
  case block id a =>
    simp only [codeOk] at hok
    have h : blockC (rn ro N) id a s = some (e, s') := h
    unfold blockC at h
    cases hm : rn ro N a s with
    | none => rw [hm] at h; cases h
    | some p =>
      obtain ⟨e1, s1⟩ := p
      have h1 := ih a s e1 s1 hok hm
      rw [hm] at h
      by_cases hx : ∃ i, e1 = .exit i
      · obtain ⟨i, rfl⟩ := hx
        simp only at h
        cases hi : Nat.beq i id with
        | true =>
          rw [hi] at h; cases h
          have hi := Nat.eq_of_beq_eq_true hi
          subst hi
          exact Runs.block_exit h1
        | false =>
          rw [hi] at h; cases h
          exact Runs.block h1 fun he => by cases he; simp at hi
      · have h2 : some (e1, s1) = some (e, s') := by
          revert h
          cases e1
          case exit i => exact absurd ⟨i, rfl⟩ hx
          all_goals (intro h; exact h)
        cases h2
        exact Runs.block h1 fun he => hx ⟨_, he⟩
  case loop a =>
    have hok' : codeOk N a = true := by simpa [codeOk] using hok
    have h : loopC (rn ro N) a s = some (e, s') := h
    unfold loopC at h
    refine Runs.loop ?_
    split at h
    · rename_i s1 h1
      exact .next (ih a s .normal s1 hok' h1) (hloop ro r N a s1 s' e hr hok' h)
    · rename_i hne
      refine .stop (ih a s e s' hok' h) fun he => ?_
      subst he
      exact hne _ h
  case scope a =>
    have hok' : codeOk N a = true := by simpa [codeOk] using hok
    exact Runs.scope (scopeGo_sound hok' ih 1000 a s s' e hok' h)
  case rangeFunc gop ps assign body =>
    have h : rfunC K rn ro N gop ps assign body s = some (e, s') := h
    unfold rfunC at h
    split at h
    case h_2 => cases h
    rename_i f first caps hx _
    have hr0 := hr rfl
    subst hr0
    split at h
    · cases h
    rename_i fn hf0
    split at h
    · cases h
    rename_i c hb
    split at h
    case h_2 => cases h
    rename_i hc
    simp only [Bool.and_eq_true, Nat.ble_eq] at hc
    obtain ⟨c1, c2, c3⟩ := hc
    obtain ⟨hname, hcode⟩ := hK.code f fn c c1 hf0 hb
    split at h
    case h_2 => cases h
    rename_i e1 s2 hr1
    rw [Option.bind_eq_some_iff] at h; obtain ⟨rs, hrs, h⟩ := h
    split at h
    case h_2 => cases h
    rename_i y2 hy2
    split at h
    case h_2 => cases h
    rename_i e' hc2 hpe
    simp only [Bool.and_eq_true, List.all_eq_true, Bool.not_eq_true', List.contains_eq_mem, decide_eq_false_iff_not] at hc2
    obtain ⟨d1, d2, d3, d4, d5⟩ := hc2
    obtain ⟨cr, hrs, hcr⟩ := resCs_sound hrs
    simp only [Option.some.injEq, Prod.mk.injEq] at h; obtain ⟨rfl, rfl⟩ := h
    have hrun := hrn false fn.ntmps c _ e1 s2 hcode hr1 none (fun _ => rfl)
    have e0 : (CS.as ⟨Tr.ofL (first ++ [A.xo .yl (s.nx + 1)] ++ caps) 0 .lf, s.hp, s.nx + 2, setY (setY s.ys s.nx .dfr) (s.nx + 1) (.loop ⟨ps, N, s.tm, assign, body, .ready, none⟩), []⟩) =
        ⟨fun t => (first ++ [A.xo .yl (s.as.nx + 1)] ++ caps)[t]?, s.as.hp, s.as.nx + 2, upy (upy s.as.ys s.as.nx (some .dfr)) (s.as.nx + 1) (some (.loop ⟨ps, N, s.as.tm, assign, body, .ready, none⟩)), []⟩ := by
      simp only [CS.as, ofL_tm _ c3]
      congr 1
      have e2 := setY_yf (CS.mk s.tm s.hp s.nx (setY s.ys s.nx .dfr) s.mks) (s.nx + 1) (.loop ⟨ps, N, s.tm, assign, body, .ready, none⟩)
      have e3 := setY_yf s s.nx .dfr
      have e4 : (CS.mk s.tm s.hp s.nx (setY s.ys s.nx .dfr) s.mks).yf = upy s.yf s.nx (some .dfr) := e3
      rw [e4] at e2
      exact e2
    rw [e0] at hrun
    have key := Runs.rangeFunc (N := N) (gop := gop) (ps := ps) (assign := assign) (body := body) (s := s.as) (s2 := s2.as) (y2 := y2.yr) hK.hL hx (hK.ft f fn hf0) hname hb c2 hrun (by revert d1; cases e1 <;> simp [isEnd]) hrs hcr (fun v hv => d2 v hv) (look_yf hy2)
      (by have := d3; show y2.st ≠ .busy; revert this; cases y2.st <;> simp [notBusy]) d4 (mkOk_spec d5) hpe
    have e5 : (CS.as ⟨s.tm, s2.hp, s2.nx, dropY ((s.nx + 1) :: s2.mks) s2.ys, s.nx :: s.mks⟩) = ⟨s.as.tm, s2.as.hp, s2.as.nx, fun k => if k ∈ (s.as.nx + 1) :: s2.as.mks then none else s2.as.ys k, s.as.nx :: s.as.mks⟩ := by
      simp only [CS.as]
      congr 1
      exact dropY_yf s2 ((s.nx + 1) :: s2.mks)
    rw [e5]
    exact key
  case refuse => simp [stepC] at h

theorem runC_sound (hK : K.Ok) : ∀ n, RnOk K (runC K n) ∧ ∀ (ro : Bool) (r : Option Nat) (N : Nat) (a : Code) (s s' : CS) (e : Exit), (ro = false → r = none) → codeOk N a = true → runC K n ro N (.loop a) s = some (e, s') → Loops K.P K.L r N a s.as e s'.as := by
  intro n
  induction n with
  | zero => exact ⟨(fun ro N c s e s' _ h => by cases h), (fun ro r N a s s' e _ _ h => by cases h)⟩
  | succ n ih =>
    refine ⟨stepC_sound hK ih.1 ih.2, fun ro r N a s s' e hr hok h => ?_⟩
    rw [runC_succ] at h
    have h : loopC (runC K n ro N) a s = some (e, s') := h
    unfold loopC at h
    split at h
    · rename_i s1 h1
      exact .next (ih.1 ro N a s .normal s1 hok h1 r hr) (ih.2 ro r N a s1 s' e hr hok h)
    · rename_i hne
      refine .stop (ih.1 ro N a s e s' hok h r hr) fun he => ?_
      subst he
      exact hne _ h

end
end Go.Ab
