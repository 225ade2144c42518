import Derived.Test.YthfkhnoehehpmaaGreatAf
import Derived.ChangeKeysEq
set_option linter.unusedVariables false
set_option linter.unusedSimpArgs false
/- EQUALITY OF STRUCTS AND ARRAYS; ALL OPERATIONS TOGETHER. -/
namespace Go.Ab
section
variable {P : Program} {L : Lay} {mine : Nat → Prop} {tm : Nat → Option A} {hp : Hp} {nx : Nat} {fr : Nat → Prop} {a : Act} {w : World} {ob : Nat → Option OI} {S : Nat → Prop}

theorem dec_true {p : Prop} (h : p) : dec p = true := by simp [dec, h]
theorem dec_false {p : Prop} (h : ¬ p) : dec p = false := by simp [dec, h]
theorem dec_iff {p : Prop} : dec p = true ↔ p := by unfold dec; split <;> simp_all

theorem Conf.shp (hL : LOk P L) : ∀ (n : Nat) (t : TypeId) (d : TD) (x : A), L t = some d → Conf L n t x → x.shp = d.sh
  | 0, _, _, _, _, h => h.elim
  | n + 1, t, d, x, hd, h => by
    simp only [Conf, hd] at h
    have hu := (hL t d hd).und
    cases hk : d.k <;> simp only [hk] at h hu
    case int => obtain ⟨m, rfl⟩ := h; rw [hu.2]; rfl
    case bool => obtain ⟨m, rfl⟩ := h; rw [hu.2]; rfl
    case str => obtain ⟨m, rfl⟩ := h; rw [hu.2]; rfl
    case arr m e =>
      obtain ⟨xs, rfl, h1, h2⟩ := h
      obtain ⟨u1, de, u2, u3⟩ := hu
      rw [u3, A.shp, A.shps_eq, ← h1]
      exact congrArg Sh.node (replicate_of_all _ _ xs fun y hy => Conf.shp hL n e de y u2 (h2 y hy))
    case st fts =>
      obtain ⟨-, xs, rfl, h1, h2⟩ := h
      obtain ⟨fs, shs, u1, u2, u3, u4, u5⟩ := hu
      rw [u2, A.shp, A.shps_eq]
      congr 1
      apply List.ext_getElem?
      intro i
      rw [List.getElem?_map]
      by_cases hi : i < xs.length
      · rw [List.getElem?_eq_getElem hi]
        obtain ⟨df, f, v1, v2, v3, v4, v5⟩ := u5 i fts[i] (List.getElem?_eq_getElem (by omega))
        rw [v2, Option.map_some, Conf.shp hL n _ df _ v1 (h2 i fts[i] xs[i] (List.getElem?_eq_getElem (by omega)) (List.getElem?_eq_getElem hi))]
      · rw [List.getElem?_eq_none (by omega), List.getElem?_eq_none (by omega)]; rfl

/-- two lists of one length, held against one another from a place on -/
theorem eq_drop (xs ys : List A) (k : Nat) (hl : xs.length = ys.length) (hk : k < xs.length) : (xs.drop k = ys.drop k) ↔ (xs[k]'hk = ys[k]'(by omega) ∧ xs.drop (k + 1) = ys.drop (k + 1)) := by
  have h2 : k < ys.length := by omega
  rw [List.drop_eq_getElem_cons hk, List.drop_eq_getElem_cons h2]
  exact List.cons_eq_cons

theorem equalIn_conf (hL : LOk P L) : ∀ (n : Nat) (t : TypeId) (x y : A) (vx vy : Value), Conf L n t x → Conf L n t y → RV1 P w ob S x vx → RV1 P w ob S y vy →
    ∀ k, n ≤ k → (Op.equalIn k t vx vy).run P w = .ok (dec (x = y)) w
  | 0, _, _, _, _, _, h, _, _, _, _, _ => h.elim
  | n + 1, t, x, y, vx, vy, h1, h2, r1, r2, k, hk => by
    obtain ⟨k, rfl⟩ : ∃ j, k = j + 1 := ⟨k - 1, by omega⟩
    have hk' : n ≤ k := by omega
    simp only [Conf] at h1 h2
    cases hd : L t with
    | none => simp only [hd] at h1
    | some d =>
      simp only [hd] at h1 h2
      have hu := (hL t d hd).und
      cases hkd : d.k <;> simp only [hkd] at h1 h2 hu
      case int kk =>
        obtain ⟨m1, rfl⟩ := h1; obtain ⟨m2, rfl⟩ := h2
        rw [(RV1.int.1 r1).1, (RV1.int.1 r2).1, run_equalIn_int w k t kk kk m1 m2 hu.1]
        congr 1
        rw [Bool.eq_iff_iff, dec_iff]; simp
      case bool =>
        obtain ⟨m1, rfl⟩ := h1; obtain ⟨m2, rfl⟩ := h2
        have e1 : vx = .bool m1 := by have := (RV1.leaf r1 rfl).2.1; simpa [RC] using this
        have e2 : vy = .bool m2 := by have := (RV1.leaf r2 rfl).2.1; simpa [RC] using this
        rw [e1, e2, run_equalIn_bool' w k t m1 m2 hu.1]
        congr 1
        rw [Bool.eq_iff_iff, dec_iff]; simp
      case str =>
        obtain ⟨m1, rfl⟩ := h1; obtain ⟨m2, rfl⟩ := h2
        have e1 : vx = .string ⟨m1.toArray⟩ := by have := (RV1.leaf r1 rfl).2.1; simpa [RC] using this
        have e2 : vy = .string ⟨m2.toArray⟩ := by have := (RV1.leaf r2 rfl).2.1; simpa [RC] using this
        rw [e1, e2, run_equalIn_string w k t _ _ hu.1]
        congr 1
        rw [← beq_toListBytes, str_eq, Bool.eq_iff_iff, dec_iff]; simp
      case arr m e =>
        obtain ⟨xs, rfl, a1, a2⟩ := h1; obtain ⟨ys, rfl, b1, b2⟩ := h2
        obtain ⟨u1, de, u2, u3⟩ := hu
        obtain ⟨cx, rfl, c1⟩ := RV1.st r1
        obtain ⟨cy, rfl, c2⟩ := RV1.st r2
        obtain ⟨i0, z0, w1, w2, w3, w4, w5⟩ := (hL e de u2).info
        have hce : P.cellsOf e = de.sh.width := by simp [Program.cellsOf, w1, w2]
        rw [run_equalIn_array w k cx cy u1 w1, hce, List.range_eq_range']
        have hshp : ∀ (zs : List A), zs.length = m → (∀ y ∈ zs, Conf L n e y) → A.shps zs = List.replicate m de.sh := fun zs hz hc => by
          rw [A.shps_eq, ← hz]
          exact replicate_of_all _ _ zs fun y hy => Conf.shp hL n e de y u2 (hc y hy)
        have hoff : ∀ (zs : List A), zs.length = m → (∀ y ∈ zs, Conf L n e y) → ∀ i o, i < m → (A.st zs).shp.offs [i] = some o → o = i * de.sh.width := fun zs hz hc i o hi ho => by
          simp only [A.shp, Sh.offs, hshp zs hz hc, List.getElem?_replicate, hi, if_true, Option.map_some, List.take_replicate, widths_replicate, Nat.add_zero, Option.some.injEq] at ho
          rw [Nat.min_eq_left (by omega)] at ho
          exact ho.symm
        have key : ∀ j i, i + j = m → (Op.eqItems k e de.sh.width cx cy (List.range' i j)).run P w = .ok (dec (xs.drop i = ys.drop i)) w := by
          intro j
          induction j with
          | zero =>
            intro i hi
            rw [List.drop_of_length_le (l := xs) (by omega), List.drop_of_length_le (l := ys) (by omega)]
            simp [Op.eqItems, dec]
          | succ j ih =>
            intro i hi
            have hxi : xs[i]? = some xs[i] := List.getElem?_eq_getElem (by omega)
            have hyi : ys[i]? = some ys[i] := List.getElem?_eq_getElem (by omega)
            have hcx := a2 xs[i] (List.mem_of_getElem? hxi)
            have hcy := b2 ys[i] (List.mem_of_getElem? hyi)
            obtain ⟨cc, off, e1, e2, e3, e4⟩ := part_of hL u2 r1 (k := i) (y := xs[i]) (by simp [A.sub, hxi]) (Conf.shp hL n _ de _ u2 hcx)
            obtain ⟨cc', off', e1', e2', e3', e4'⟩ := part_of hL u2 r2 (k := i) (y := ys[i]) (by simp [A.sub, hyi]) (Conf.shp hL n _ de _ u2 hcy)
            cases e1; cases e1'
            rw [hoff xs a1 a2 i off (by omega) e2] at e3
            rw [hoff ys b1 b2 i off' (by omega) e2'] at e3'
            rw [hoff xs a1 a2 i off (by omega) e2] at e4
            rw [hoff ys b1 b2 i off' (by omega) e2'] at e4'
            have hrec := equalIn_conf hL n e xs[i] ys[i] _ _ hcx hcy e4 e4' k hk'
            simp only [List.range'_succ, Op.eqItems, Sem.run_bind, e3, e3', Result.andThen_ok, hrec]
            have hiff := eq_drop xs ys i (by omega) (by omega)
            by_cases he : xs[i] = ys[i]
            · rw [dec_true he]
              simp only [Bool.not_true, Bool.false_eq_true, if_false]
              rw [ih (i + 1) (by omega)]
              congr 1
              rw [Bool.eq_iff_iff, dec_iff, dec_iff, hiff]
              simp [he]
            · rw [dec_false he]
              simp only [Bool.not_false, if_true, Sem.run_pure]
              rw [dec_false (by rw [hiff]; exact fun h => he h.1)]
        have := key m 0 (by omega)
        simpa using this
      case st fts =>
        obtain ⟨heq, xs, rfl, a1, a2⟩ := h1; obtain ⟨-, ys, rfl, b1, b2⟩ := h2
        obtain ⟨fs, shs, u1, u2, u3, u4, u5⟩ := hu
        obtain ⟨g1, g2, g3⟩ := (hL t d hd).eq heq
        obtain ⟨cx, rfl, c1⟩ := RV1.st r1
        obtain ⟨cy, rfl, c2⟩ := RV1.st r2
        have hfo : P.fieldsOf t = fs := by simp [Program.fieldsOf, u1]
        rw [run_equalIn_struct w k t cx cy (by rw [hfo]; exact u1) g1, hfo]
        have key : ∀ j i, i + j = fts.length → (Op.eqFields k cx cy (fs.toList.drop i)).run P w = .ok (dec (xs.drop i = ys.drop i)) w := by
          intro j
          induction j with
          | zero =>
            intro i hi
            rw [List.drop_of_length_le (l := fs.toList) (by simp; omega), List.drop_of_length_le (l := xs) (by omega), List.drop_of_length_le (l := ys) (by omega)]
            simp [Op.eqFields, dec]
          | succ j ih =>
            intro i hi
            have hlt : i < fts.length := by omega
            obtain ⟨df, f, v1, v2, v3, v4, v5⟩ := u5 i fts[i] (List.getElem?_eq_getElem hlt)
            have hfi : fs.toList[i]? = some f := by simpa using v3
            obtain ⟨hfl, hfe⟩ := List.getElem?_eq_some_iff.1 hfi
            rw [List.drop_eq_getElem_cons hfl, hfe]
            have hxi : xs[i]? = some xs[i] := List.getElem?_eq_getElem (by omega)
            have hyi : ys[i]? = some ys[i] := List.getElem?_eq_getElem (by omega)
            have hcx := a2 i fts[i] xs[i] (List.getElem?_eq_getElem hlt) hxi
            have hcy := b2 i fts[i] ys[i] (List.getElem?_eq_getElem hlt) hyi
            obtain ⟨cc, off, e1, e2, e3, e4⟩ := part_of hL v1 r1 (k := i) (y := xs[i]) (by simp [A.sub, hxi]) (Conf.shp hL n _ df _ v1 hcx)
            obtain ⟨cc', off', e1', e2', e3', e4'⟩ := part_of hL v1 r2 (k := i) (y := ys[i]) (by simp [A.sub, hyi]) (Conf.shp hL n _ df _ v1 hcy)
            cases e1; cases e1'
            have hoff : ∀ (zs : List A), A.shps zs = shs → ∀ o, (A.st zs).shp.offs [i] = some o → o = f.offset := fun zs hz o ho => by
              simp only [A.shp, Sh.offs, hz, v2, Option.map_some, Nat.add_zero, Option.some.injEq] at ho
              rw [v5]; exact ho.symm
            have hsx : A.shps xs = shs := by
              have := Conf.shp hL (n + 1) t d (.st xs) hd (by simp only [Conf, hd, hkd]; exact ⟨heq, xs, rfl, a1, a2⟩)
              rw [u2] at this; simpa [A.shp] using this
            have hsy : A.shps ys = shs := by
              have := Conf.shp hL (n + 1) t d (.st ys) hd (by simp only [Conf, hd, hkd]; exact ⟨heq, ys, rfl, b1, b2⟩)
              rw [u2] at this; simpa [A.shp] using this
            rw [hoff xs hsx off e2, ← v4] at e3
            rw [hoff ys hsy off' e2', ← v4] at e3'
            rw [hoff xs hsx off e2] at e4
            rw [hoff ys hsy off' e2'] at e4'
            rw [← v4] at hcx hcy
            have hrec := equalIn_conf hL n f.type xs[i] ys[i] _ _ hcx hcy e4 e4' k hk'
            have hnm : f.name ≠ "_" := g3 fs u1 f (List.mem_of_getElem? hfi)
            simp only [Op.eqFields, hnm, ne_eq, not_false_eq_true, if_true, Sem.run_bind, e3, e3', Result.andThen_ok, hrec]
            have hiff := eq_drop xs ys i (by omega) (by omega)
            by_cases he : xs[i] = ys[i]
            · rw [dec_true he]
              simp only [Bool.not_true, Bool.false_eq_true, if_false]
              rw [ih (i + 1) (by omega)]
              congr 1
              rw [Bool.eq_iff_iff, dec_iff, dec_iff, hiff]
              simp [he]
            · rw [dec_false he]
              simp only [Bool.not_false, if_true, Sem.run_pure]
              rw [dec_false (by rw [hiff]; exact fun h => he h.1)]
        have := key fts.length 0 (by omega)
        simpa using this

end
end Go.Ab

/- ALL OPERATIONS TOGETHER. -/
namespace Go.Ab
section
variable {P : Program} {L : Lay} {mine : Nat → Prop} {tm : Nat → Option A} {hp : Hp} {nx : Nat} {fr : Nat → Prop} {a : Act} {w : World} {ob : Nat → Option OI} {S : Nat → Prop}

theorem good_binStruct (hL : LOk P L) (r : RS P L mine tm hp fr a.tmps w ob S) {o : Oper} {op : BinOp} {t t' : TypeId} {x y : Operand} (ho : o.op = .binOp op t x y t') {m n : List A} (hx : evA tm x = some (.st m)) (hy : evA tm y = some (.st n))
    {c : Prop} {v : A} (h : binA L op t (.st m) (.st n) = some (c, v)) (hc : c) : Good P L hp nx w ob S ⟨v, [], [], 0⟩ (runOp P a w o) := by
  have r1 := rv1_of r hx rfl
  have r2 := rv1_of r hy rfl
  obtain ⟨cx, e1, -⟩ := RV1.st r1
  obtain ⟨cy, e2, -⟩ := RV1.st r2
  cases op <;> simp only [binA, Option.some.injEq, Prod.mk.injEq, reduceCtorEq] at h <;> obtain ⟨rfl, rfl⟩ := h
  all_goals
    obtain ⟨q1, q2, d, hd, heq⟩ := hc
    obtain ⟨g1, g2, g3⟩ := (hL t d hd).eq heq
    have he := equalIn_conf hL 9 t _ _ _ _ q1 q2 r1 r2 10000 (by omega)
    rw [e1, e2] at he
    refine Good.pure1 r (v := .bool _) ?_ ⟨by simp [RC, Value.cells]; rfl, by simp [A.isSt]⟩ rfl
    simp [runOp, execOp, ho, e1, e2, run_eqGuard_agg w _ t x y cx cy g2, run_eql_struct, run_neq_struct, he]

theorem arr_list {α : Type} (a : Array α) {l : List α} (h : a.toList = l) : a = l.toArray := by subst h; rfl

theorem good_call (hL : LOk P L) (r : RS P L mine tm hp fr a.tmps w ob S) {o : Oper} {cl : Call} {c : Prop} {δ : Dl} (hfr : 0 < δ.nw → fr nx) (hop : o.op = .call cl) (h : opv L (.call cl) (evA tm) hp nx = some (c, δ)) (hc : c) :
    Good P L hp nx w ob S δ (runOp P a w o) := by
  obtain ⟨callee, args, argTypes⟩ := cl
  cases callee with
  | builtin b =>
    have h0 := h
    simp only [opv] at h
    split at h <;> try cases h
    · -- len
      rename_i x hargs
      obtain rfl := arr_list _ hargs
      split at h <;> try cases h
      rename_i t ht
      obtain rfl := arr_list _ ht
      exact good_len r hL hop h0
    · rename_i x y hargs
      obtain rfl := arr_list _ hargs
      exact good_mm r hop (.inl rfl) h0 hc
    · rename_i x y hargs
      obtain rfl := arr_list _ hargs
      exact good_mm r hop (.inr rfl) h0 hc
    · -- append
      rename_i x y hargs
      obtain rfl := arr_list _ hargs
      split at h <;> try cases h
      rename_i t t' ht
      obtain rfl := arr_list _ ht
      split at h <;> try cases h
      rename_i htt
      subst htt
      rw [Option.bind_eq_some_iff] at h; obtain ⟨d, hd, h⟩ := h
      split at h <;> try cases h
      rename_i e hk
      rw [Option.bind_eq_some_iff] at h; obtain ⟨v, hv, h⟩ := h
      rw [Option.bind_eq_some_iff] at h; obtain ⟨⟨c', xs, rd⟩, hr, h⟩ := h
      split at h <;> try cases h
      · rename_i hx
        rw [Option.bind_eq_some_iff] at h; obtain ⟨de, hde, h⟩ := h
        cases h
        exact good_append_nil hL r (hfr (Nat.zero_lt_one)) hop hd hk hde hx hv hr hc.1 hc.2.1 hc.2.2
      · rename_i o' ver off len hx
        rw [Option.bind_eq_some_iff] at h; obtain ⟨z, hz, h⟩ := h
        rw [Option.bind_eq_some_iff] at h; obtain ⟨de, hde, h⟩ := h
        split at h
        · rename_i hle
          cases h
          obtain ⟨c1, c2, c3, c4, c5⟩ := hc
          exact good_append_over hL r hop hd hk hde hx hz hv hr c1 c2 c3 c4 c5 hle
        · rename_i hle
          cases h
          obtain ⟨c1, c2, c3, c4, c5, c6, c7, c8⟩ := hc
          subst c5
          exact good_append_grow hL r hop hd hk hde hx hz hv hr c1 c2 c3 c4 c7 c6 (by simpa using hle) c8
    · -- clear
      rename_i x hargs
      obtain rfl := arr_list _ hargs
      split at h <;> try cases h
      rename_i t ht
      obtain rfl := arr_list _ ht
      rw [Option.bind_eq_some_iff] at h; obtain ⟨d, hd, h⟩ := h
      split at h <;> try cases h
      rename_i e hk
      rw [Option.bind_eq_some_iff] at h; obtain ⟨de, hde, h⟩ := h
      split at h <;> try cases h
      rename_i o' ver off len hx
      rw [Option.bind_eq_some_iff] at h; obtain ⟨z, hz, h⟩ := h
      cases h
      obtain ⟨c1, c2, c3, c4⟩ := hc
      have hu := (hL t d hd).und
      simp only [hk] at hu
      exact good_clear hL r hop hde (by rfl) hu.1 hx hz c1 c2 c3 c4
  | _ => simp [opv] at h

theorem op_good (hL : LOk P L) (r : RS P L mine tm hp fr a.tmps w ob S) {o : Oper} {c : Prop} {δ : Dl} (hfr : 0 < δ.nw → fr nx) (h : opv L o.op (evA tm) hp nx = some (c, δ)) (hc : c) :
    Good P L hp nx w ob S δ (runOp P a w o) := by
  generalize hop : o.op = op at h
  cases op
  case move x => exact good_move r (.inl hop) (by simpa [opv] using h)
  case assign x => exact good_move r (.inr hop) (by simpa [opv] using h)
  case pick c a b => exact good_pick r hop h
  case alloc =>
    refine good_alloc hL r (hfr ?_) hop h
    simp only [opv, Option.bind_eq_some_iff] at h; obtain ⟨d, _, h⟩ := h; cases h; exact Nat.zero_lt_one
  case box =>
    refine good_box r (hfr ?_) hop h hc
    simp only [opv, Option.bind_eq_some_iff] at h; obtain ⟨d, _, v, _, h⟩ := h; cases h; exact Nat.zero_lt_one
  case load => exact good_load hL r hop h hc
  case store => exact good_store hL r hop h hc
  case nilCheck => exact good_nilCheck r hop h
  case unOp => exact good_unOp r hop h hc
  case fieldAddr => exact good_fieldAddr hL r hop h hc
  case field => exact good_field hL r hop h hc
  case indexAddr => exact good_indexAddr hL r hop h hc
  case index => exact good_index hL r hop h hc
  case extract => exact good_extract r hop h
  case makeFunc => exact good_makeFunc r hop h hc
  case makeInterface => exact good_makeInterface hL r hop h hc
  case sliceToArrayPointer => exact good_sliceToArrayPointer hL r hop h hc
  case build => exact good_build hL r hop h hc
  case buildSlice =>
    refine good_buildSlice hL r (hfr ?_) hop h hc
    simp only [opv, Option.bind_eq_some_iff] at h; obtain ⟨d, _, h⟩ := h
    split at h <;> try cases h
    simp only [Option.bind_eq_some_iff, Option.map_eq_some_iff] at h; obtain ⟨de, _, z, _, h⟩ := h; cases h; exact Nat.zero_lt_one
  case makeSlice =>
    refine good_makeSlice hL r (hfr ?_) hop h hc
    simp only [opv, Option.bind_eq_some_iff] at h; obtain ⟨d, _, h⟩ := h
    split at h <;> try cases h
    simp only [Option.bind_eq_some_iff] at h; obtain ⟨de, _, h⟩ := h; cases h; exact Nat.zero_lt_one
  case slice => exact good_slice hL r hop h hc
  case binOp op t x y t' =>
    simp only [opv] at h
    rw [Option.bind_eq_some_iff] at h; obtain ⟨u, hu, h⟩ := h
    rw [Option.bind_eq_some_iff] at h; obtain ⟨v, hv, h⟩ := h
    rw [Option.map_eq_some_iff] at h; obtain ⟨⟨c', z⟩, hz, h⟩ := h
    cases h
    cases u <;> cases v <;> first
      | exact good_binInt r hop hu hv hz hc
      | exact good_binStr r hop hu hv hz
      | exact good_binBool hL r hop hu hv hz hc
      | exact good_binStruct hL r hop hu hv hz hc
      | (exfalso; revert hz; cases op <;> simp [binA])
  case convert s t x =>
    simp only [opv] at h
    rw [Option.bind_eq_some_iff] at h; obtain ⟨d, hd, h⟩ := h
    split at h <;> try cases h
    · rename_i k k' n hk hx
      rw [Option.bind_eq_some_iff] at h; obtain ⟨ds, hds, h⟩ := h
      cases h
      refine good_convInt hL r hop hd hk hx ?_
      have := (hL s ds hds).und
      revert this
      cases ds.k <;> intro this
      all_goals first
        | exact ⟨_, this.1⟩
        | (obtain ⟨fs, shs, u1, -⟩ := this; exact ⟨_, u1⟩)
        | (obtain ⟨-, u, u1, -⟩ := this; exact ⟨_, u1⟩)
    · rename_i v hk hx
      rw [Option.bind_eq_some_iff] at h; obtain ⟨ds, hds, h⟩ := h
      split at h <;> try cases h
      rename_i e hke
      rw [Option.bind_eq_some_iff] at h; obtain ⟨de, hde, h⟩ := h
      split at h <;> try cases h
      rename_i hk8
      rw [Option.bind_eq_some_iff] at h; obtain ⟨⟨c', xs, rd⟩, hz, h⟩ := h
      cases h
      exact good_convStr hL r hop hd hk hds hke hde hk8 hx hz hc.1 hc.2
  case call cl =>
    exact good_call hL r hfr hop h hc
  all_goals simp [opv] at h

end
end Go.Ab

/- AN OPERATION LOOKS AT ITS OPERANDS, AND AT WHAT IT SAYS IT LOOKS AT, AND AT NOTHING ELSE. -/
namespace Go.Ab

theorem evAs_congr {tm tm' : Nat → Option A} : ∀ (l : List Operand), (∀ x ∈ l, evA tm' x = evA tm x) → evAs tm' l = evAs tm l
  | [], _ => rfl
  | x :: l, h => by simp only [evAs, h x (by simp), evAs_congr l (fun y hy => h y (by simp [hy]))]

theorem optBind_congr {ev ev' : Operand → Option A} {o : Option Operand} (h : ∀ x, o = some x → ev' x = ev x) : o.bind ev' = o.bind ev := by
  cases o with
  | none => rfl
  | some x => exact h x rfl

theorem fold_congr {ev ev' : Operand → Option A} : ∀ (l : List (Nat × Operand)) (r : Option (Prop × List A)), (∀ p ∈ l, ev' p.2 = ev p.2) →
    l.foldl (fun r p => r.bind fun r => (ev' p.2).bind fun v => (r.2[p.1]?).bind fun z => some (r.1 ∧ v.shp = z.shp ∧ v.isTup = false, r.2.set p.1 v)) r =
    l.foldl (fun r p => r.bind fun r => (ev p.2).bind fun v => (r.2[p.1]?).bind fun z => some (r.1 ∧ v.shp = z.shp ∧ v.isTup = false, r.2.set p.1 v)) r
  | [], _, _ => rfl
  | p :: l, r, h => by
    simp only [List.foldl_cons, h p (by simp)]
    exact fold_congr l _ fun q hq => h q (by simp [hq])

theorem opv_tm {L : Lay} {op : Op} {tm tm' : Nat → Option A} {h : Hp} {id : Nat} (hx : ∀ x ∈ op.operands, evA tm' x = evA tm x) : opv L op (evA tm') h id = opv L op (evA tm) h id := by
  cases op
  case move x => simp only [opv, hx x (by simp [Op.operands])]
  case assign x => simp only [opv, hx x (by simp [Op.operands])]
  case pick c a b => simp only [opv, hx c (by simp [Op.operands]), hx a (by simp [Op.operands]), hx b (by simp [Op.operands])]
  case alloc => rfl
  case box t x => simp only [opv, hx x (by simp [Op.operands])]
  case load t x => simp only [opv, hx x (by simp [Op.operands])]
  case store t x y => simp only [opv, hx x (by simp [Op.operands]), hx y (by simp [Op.operands])]
  case nilCheck x => simp only [opv, hx x (by simp [Op.operands])]
  case unOp o t x => simp only [opv, hx x (by simp [Op.operands])]
  case binOp o t x y t' => simp only [opv, hx x (by simp [Op.operands]), hx y (by simp [Op.operands])]
  case convert s t x => simp only [opv, hx x (by simp [Op.operands])]
  case fieldAddr t x k => simp only [opv, hx x (by simp [Op.operands])]
  case field t x k => simp only [opv, hx x (by simp [Op.operands])]
  case indexAddr t x y => simp only [opv, hx x (by simp [Op.operands]), hx y (by simp [Op.operands])]
  case index t x y => simp only [opv, hx x (by simp [Op.operands]), hx y (by simp [Op.operands])]
  case extract x k => simp only [opv, hx x (by simp [Op.operands])]
  case makeFunc f first caps =>
    have h1 : evAs (fun t => evA tm' (.tmp t)) first.toList = evAs (fun t => evA tm (.tmp t)) first.toList := evAs_congr _ fun x hxm => hx x (by simp only [Op.operands]; simp at hxm ⊢; exact .inl hxm)
    have h2 : evAs (fun t => evA tm' (.tmp t)) caps.toList = evAs (fun t => evA tm (.tmp t)) caps.toList := evAs_congr _ fun x hxm => hx x (by simp only [Op.operands]; simp at hxm ⊢; exact .inr hxm)
    simp only [opv, h1, h2]
  case makeInterface t x => simp only [opv, hx x (by simp [Op.operands])]
  case sliceToArrayPointer t x => simp only [opv, hx x (by simp [Op.operands])]
  case build t parts =>
    simp only [opv]
    congr 1; funext d
    split
    · rw [fold_congr (ev := evA tm)]
      intro p hp
      exact hx p.2 (by simp [Op.operands]; exact ⟨p.1, by simpa using hp⟩)
    · rfl
  case buildSlice t len parts =>
    simp only [opv]
    congr 1; funext d
    split
    · congr 1; funext de
      rw [fold_congr (ev := evA tm)]
      intro p hp
      exact hx p.2 (by simp [Op.operands]; exact ⟨p.1, by simpa using hp⟩)
    · rfl
  case makeSlice t x y => simp only [opv, hx x (by simp [Op.operands]), hx y (by simp [Op.operands])]
  case slice t x lo hi mx =>
    have h1 : lo.bind (evA tm') = lo.bind (evA tm) := optBind_congr fun x e => hx x (by subst e; simp [Op.operands])
    have h2 : hi.bind (evA tm') = hi.bind (evA tm) := optBind_congr fun x e => hx x (by subst e; simp [Op.operands])
    have h3 : mx.bind (evA tm') = mx.bind (evA tm) := optBind_congr fun x e => hx x (by subst e; simp [Op.operands])
    simp only [opv, hx x (by simp [Op.operands]), h1, h2, h3]
  case call cl =>
    obtain ⟨callee, args, argTypes⟩ := cl
    cases callee with
    | builtin b =>
      have hy : ∀ x ∈ args.toList, evA tm' x = evA tm x := fun x hxm => hx x (by simp only [Op.operands, Call.operands]; simpa using hxm)
      clear hx
      generalize hl : args.toList = l at hy
      rcases l with _ | ⟨x, _ | ⟨y, _ | ⟨z, l⟩⟩⟩
      · cases b <;> simp only [opv, hl]
      · cases b <;> simp only [opv, hl, hy x (by simp)]
      · cases b <;> simp only [opv, hl, hy x (by simp), hy y (by simp)]
      · cases b <;> simp only [opv, hl]
    | _ => simp only [opv]
  all_goals simp only [opv]

theorem elemsOf_hp {h h' : Hp} {v : A} {c : Prop} {xs : List A} {rd : List Nat} (he : elemsOf h v = some (c, xs, rd)) (hr : ∀ k ∈ rd, h' k = h k) : elemsOf h' v = some (c, xs, rd) := by
  cases v <;> simp only [elemsOf] at he ⊢ <;> try exact he
  rename_i o ver off len
  split at he <;> try cases he
  rename_i ob ho
  rw [hr o (by simp), ho]

theorem opv_hp {L : Lay} {op : Op} {ev : Operand → Option A} {h h' : Hp} {id : Nat} {c : Prop} {δ : Dl} (he : opv L op ev h id = some (c, δ)) (hr : ∀ k ∈ δ.rd, h' k = h k) : opv L op ev h' id = some (c, δ) := by
  cases op
  case load t x =>
    simp only [opv] at he ⊢
    rw [Option.bind_eq_some_iff] at he; obtain ⟨d, hd, he⟩ := he
    rw [hd]; simp only [Option.bind_some]
    split at he
    · rename_i hx
      rw [Option.bind_eq_some_iff] at he; obtain ⟨ob, ho, he⟩ := he
      have := he
      rw [Option.bind_eq_some_iff] at this; obtain ⟨v, hv, this⟩ := this
      cases this
      try simp only [hx]
      rw [hr _ (by simp), ho]; exact he
    · rename_i hx; (try simp only [hx]); exact he
    · cases he
  case store t x y =>
    simp only [opv] at he ⊢
    rw [Option.bind_eq_some_iff] at he; obtain ⟨d, hd, he⟩ := he
    rw [hd]; simp only [Option.bind_some]
    split at he
    · rename_i hx
      rw [Option.bind_eq_some_iff] at he; obtain ⟨ob, ho, he⟩ := he
      have := he
      simp only [Option.bind_eq_some_iff] at this; obtain ⟨v, hv, u, hu, z, hz, this⟩ := this
      cases this
      try simp only [hx]
      rw [hr _ (by simp), ho]; exact he
    · cases he
  case convert s t x =>
    simp only [opv] at he ⊢
    rw [Option.bind_eq_some_iff] at he; obtain ⟨d, hd, he⟩ := he
    rw [hd]; simp only [Option.bind_some]
    split at he
    · rename_i hk hx; (try simp only [hk, hx]); exact he
    · rename_i v hx hk
      try simp only [hk, hx]
      rw [Option.bind_eq_some_iff] at he; obtain ⟨ds, hds, he⟩ := he
      rw [hds]; simp only [Option.bind_some]
      split at he
      · rename_i e hke
        rw [Option.bind_eq_some_iff] at he; obtain ⟨de, hde, he⟩ := he
        try simp only [hke, hde, Option.bind_some]
        split at he
        · rename_i hk8
          rw [Option.bind_eq_some_iff] at he; obtain ⟨⟨c', xs, rd⟩, hr', he⟩ := he
          try simp only [hk8]
          cases he
          rw [elemsOf_hp hr' hr]; rfl
        · cases he
      · cases he
    · cases he
  case fieldAddr t x k =>
    simp only [opv] at he ⊢
    rw [Option.bind_eq_some_iff] at he; obtain ⟨d, hd, he⟩ := he
    rw [hd]; simp only [Option.bind_some]
    split at he
    case h_2 => cases he
    rename_i fts hk
    rw [Option.bind_eq_some_iff] at he; obtain ⟨ft, hft, he⟩ := he
    rw [Option.bind_eq_some_iff] at he; obtain ⟨df, hdf, he⟩ := he
    simp only [hk, hft, hdf, Option.bind_some]
    split at he
    · rename_i hx
      rw [Option.bind_eq_some_iff] at he; obtain ⟨ob, ho, he⟩ := he
      have := he
      cases this
      try simp only [hx]
      rw [hr _ (by simp), ho]; exact he
    · rename_i hx; (try simp only [hx]); exact he
    · cases he
  case indexAddr t x y =>
    simp only [opv] at he ⊢
    rw [Option.bind_eq_some_iff] at he; obtain ⟨d, hd, he⟩ := he
    rw [hd]; simp only [Option.bind_some]
    split at he
    case h_2 => cases he
    rename_i k n hi
    try simp only [hi]
    split at he
    · rename_i hk hx
      rw [Option.bind_eq_some_iff] at he; obtain ⟨de, hde, he⟩ := he
      rw [Option.bind_eq_some_iff] at he; obtain ⟨ob, ho, he⟩ := he
      have := he
      cases this
      simp only [hk, hx, hde, Option.bind_some]
      rw [hr _ (by simp), ho]; exact he
    · rename_i hk hx; (try simp only [hk, hx]); exact he
    · rename_i hk hx
      rw [Option.bind_eq_some_iff] at he; obtain ⟨de, hde, he⟩ := he
      rw [Option.bind_eq_some_iff] at he; obtain ⟨ob, ho, he⟩ := he
      have := he
      cases this
      simp only [hk, hx, hde, Option.bind_some]
      rw [hr _ (by simp), ho]; exact he
    · rename_i hk hx; (try simp only [hk, hx]); exact he
    · cases he
  case slice t x lo hi mx =>
    simp only [opv] at he ⊢
    rw [Option.bind_eq_some_iff] at he; obtain ⟨d, hd, he⟩ := he
    rw [hd]; simp only [Option.bind_some]
    split at he
    · rename_i hk hx; (try simp only [hk, hx]); exact he
    · rename_i hk hx; (try simp only [hk, hx]); exact he
    · rename_i hk hx
      try simp only [hk, hx]
      simp only [Option.bind_eq_some_iff] at he; obtain ⟨de, hde, a, ha, b, hb, ob, ho, he⟩ := he
      have := he
      cases this
      simp only [hde, ha, hb, Option.bind_some, hr _ (List.mem_singleton.2 rfl), ho]
    · rename_i hk hx
      try simp only [hk, hx]
      simp only [Option.bind_eq_some_iff] at he; obtain ⟨de, hde, ob, ho, v, hv, he⟩ := he
      split at he
      · have := he
        simp only [Option.bind_eq_some_iff] at this; obtain ⟨a, ha, b, hb, this⟩ := this
        cases this
        simp only [hde, hr _ (List.mem_singleton.2 rfl), ho, hv, Option.bind_some]; exact he
      · cases he
    · rename_i hk hx; (try simp only [hk, hx]); exact he
    · cases he
  case call cl =>
    obtain ⟨callee, args, argTypes⟩ := cl
    cases callee with
    | builtin b =>
      simp only [opv] at he ⊢
      split at he <;> try cases he
      · rename_i x hl; (try simp only [hl]); exact he
      · rename_i x y hl; (try simp only [hl]); exact he
      · rename_i x y hl; (try simp only [hl]); exact he
      · rename_i x y hl
        try simp only [hl]
        split at he <;> try cases he
        rename_i t t' ht
        try simp only [ht]
        split at he <;> try cases he
        rename_i htt
        try simp only [htt, if_true]
        subst htt
        rw [Option.bind_eq_some_iff] at he; obtain ⟨d, hd, he⟩ := he
        rw [hd]; simp only [Option.bind_some]
        split at he <;> try cases he
        rename_i e hk
        try simp only [hk]
        rw [Option.bind_eq_some_iff] at he; obtain ⟨v, hv, he⟩ := he
        rw [hv]; simp only [Option.bind_some]
        rw [Option.bind_eq_some_iff] at he; obtain ⟨⟨c', xs, rd⟩, hr', he⟩ := he
        split at he <;> try cases he
        · rename_i hx
          try simp only [hx]
          have := he
          rw [Option.bind_eq_some_iff] at this; obtain ⟨de, hde, this⟩ := this
          cases this
          rw [elemsOf_hp hr' hr]; exact he
        · rename_i o' ver off len hx
          try simp only [hx]
          simp only [Option.bind_eq_some_iff] at he; obtain ⟨z, hz, de, hde, he⟩ := he
          have h1 : δ.rd = o' :: rd := by
            have := he
            split at this <;> cases this <;> rfl
          rw [elemsOf_hp hr' (fun k hk => hr k (by rw [h1]; simp [hk]))]
          simp only [Option.bind_some]
          rw [hr _ (by rw [h1]; simp), hz]
          simp only [Option.bind_some, hde]; exact he
      · rename_i x hl
        try simp only [hl]
        split at he <;> try cases he
        rename_i t ht
        try simp only [ht]
        rw [Option.bind_eq_some_iff] at he; obtain ⟨d, hd, he⟩ := he
        rw [hd]; simp only [Option.bind_some]
        split at he <;> try cases he
        rename_i e hk
        try simp only [hk]
        rw [Option.bind_eq_some_iff] at he; obtain ⟨de, hde, he⟩ := he
        rw [hde]; simp only [Option.bind_some]
        split at he <;> try cases he
        rename_i hx
        try simp only [hx]
        rw [Option.bind_eq_some_iff] at he; obtain ⟨z, hz, he⟩ := he
        have := he
        cases this
        rw [hr _ (by simp), hz]; exact he
    | _ => simp [opv] at he
  all_goals exact he

end Go.Ab
