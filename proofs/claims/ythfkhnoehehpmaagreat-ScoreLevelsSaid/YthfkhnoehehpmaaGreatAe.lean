import Derived.Test.YthfkhnoehehpmaaGreatAd
import Derived.Laws.MakeOwn
set_option linter.unusedVariables false
set_option linter.unusedSimpArgs false
/- THE OPERATIONS, ONE BY ONE (sixth part): rows that are made, values that are built. -/
namespace Go.Ab

theorem made_list (z : Array Value) (n : Nat) (hz : 0 < z.size) : ((Array.range (n * z.size)).map (z[· % z.size]!)).toList = (List.replicate n z.toList).flatten := by
  simp only [Array.toList_map, Array.toList_range]
  induction n with
  | zero => simp
  | succ n ih =>
    rw [Nat.succ_mul, List.range_add, List.map_append, ih, List.replicate_succ', List.flatten_append]
    congr 1
    apply List.ext_getElem?
    intro j
    simp only [List.map_map, List.getElem?_map, List.getElem?_range, List.flatten_cons, List.flatten_nil, List.append_nil]
    by_cases hj : j < z.size
    · simp [hj, Nat.mod_eq_of_lt hj]
    · simp [hj]

section
variable {P : Program} {L : Lay} {mine : Nat → Prop} {tm : Nat → Option A} {hp : Hp} {nx : Nat} {fr : Nat → Prop} {a : Act} {w : World} {ob : Nat → Option OI} {S : Nat → Prop}

theorem RCs.replicate {x : A} {c : List Value} (h : RC P w ob S x c) : ∀ n, RCs P w ob S (List.replicate n x) (List.replicate n c).flatten
  | 0 => rfl
  | n + 1 => ⟨c, (List.replicate n c).flatten, by simp [List.replicate_succ], h, RCs.replicate h n⟩

/-- a new row of one's own -/
theorem good_row (r : RS P L mine tm hp fr a.tmps w ob S) (hfr : fr nx) {e t : TypeId} {de : TD} {xs : List A} {arr : Array Value} {cl rest : List Value} {cap : Nat} {w1 : World} {rd : List Nat} {res : Result Next} (hL : LOk P L) (hde : L e = some de)
    (hxs : ∀ y ∈ xs, y.shp = de.sh) (hcl : RCs P w ob S xs cl) (harr : arr.toList = cl ++ rest) (hsz : arr.size = cap * de.sh.width) (hcap : xs.length ≤ cap) (hb : xs.length * de.byt ≤ maxBytes) (hw1 : w1.heap = w.heap)
    (h : res = .ok (.value (.slice (some ⟨w.heap.size, 0, none⟩) xs.length cap)) (w1.alloc (.cells arr t))) (hsm : Same w w1 := by first | exact Same.refl _ | exact (Same.refl _).drew) :
    Good P L hp nx w ob S ⟨.own nx 0 0 xs.length, [(nx, ⟨0, false, some e, .st xs⟩)], rd, 1⟩ res := by
  have hlen : xs.length ≤ maxBytes := Nat.le_trans (Nat.le_mul_of_pos_right _ (hL e de hde).byt) hb
  let oi : OI := { blk := some w.heap.size, ver := 0, sh := .node (List.replicate cap de.sh), e := some e, cap := cap }
  have hold : ∀ b, b < w.heap.size → (w1.alloc (.cells arr t)).heap[b]? = w.heap[b]? := fun b hb => by
    rw [heap_alloc_old w1 _ b (by rw [hw1]; exact hb), hw1]
  have hnew : (w1.alloc (.cells arr t)).heap[w.heap.size]? = some (.cells arr t (0, 0)) := by
    have := heap_alloc_new w1 (.cells arr t); rwa [hw1] at this
  have hsize : (w1.alloc (.cells arr t)).heap.size = w.heap.size + 1 := by simp [hw1]
  have hext : Ext w ob S (w1.alloc (.cells arr t)) (upo ob nx oi) S := by
    refine ⟨by omega, fun b hb => ⟨hb, hold b (r.st b hb)⟩, fun o oi' ho => ⟨oi', ?_, Nat.le_refl _, fun _ => rfl⟩⟩
    have : o ≠ nx := fun e => by rw [e, r.fr nx hfr] at ho; cases ho
    simp [upo, this, ho]
  refine ⟨_, _, upo ob nx oi, S, .inl h, ?_, ?_, ?_⟩
  · refine does_new r hfr (hsm.alloc _ _) rfl (by omega) hold (fun b hb => ?_) ?_
    · simp [oi] at hb; subst hb; omega
    · refine ⟨rfl, rfl, ?_⟩
      exact (⟨arr, t, hnew, xs, de, cl, rest, rfl, hde, hxs, rfl, hcap, harr, RCs.mono hext _ _ hcl, hsz, hb, hlen⟩ : ∃ arr' t', (w1.alloc (.cells arr t)).heap[w.heap.size]? = some (.cells arr' t' (0, 0)) ∧
        ∃ xs' de cl rest, A.st xs = .st xs' ∧ L e = some de ∧ (∀ y ∈ xs', y.shp = de.sh) ∧ oi.sh = .node (List.replicate oi.cap de.sh) ∧ xs'.length ≤ oi.cap ∧ arr'.toList = cl ++ rest ∧ RCs P (w1.alloc (.cells arr t)) (upo ob nx oi) S xs' cl ∧ arr'.size = oi.cap * de.sh.width ∧ xs'.length * de.byt ≤ maxBytes ∧ xs'.length ≤ maxBytes)
  · refine RV1.of_leaf ?_ rfl
    refine ⟨oi, _, _, by simp [upo], rfl, hlen, Nat.le_refl _, fun _ => ⟨e, rfl, ?_⟩⟩
    exact ⟨by simp [oi], hcap, .inr (by simp)⟩
  · intro o y hy
    simp only [look_one] at hy
    split at hy
    · rename_i e; subst e; exact .inr ⟨Nat.le_refl _, by simp⟩
    · cases hy

theorem good_makeSlice (hL : LOk P L) (r : RS P L mine tm hp fr a.tmps w ob S) (hfr : fr nx) {o : Oper} {t : TypeId} {x y : Operand} (ho : o.op = .makeSlice t x y) {c : Prop} {δ : Dl} (h : opv L (.makeSlice t x y) (evA tm) hp nx = some (c, δ)) (hc : c) :
    Good P L hp nx w ob S δ (runOp P a w o) := by
  simp only [opv] at h
  rw [Option.bind_eq_some_iff] at h; obtain ⟨d, hd, h⟩ := h
  split at h <;> try cases h
  rename_i e n m hk hx hy
  rw [Option.bind_eq_some_iff] at h; obtain ⟨de, hde, h⟩ := h
  cases h
  obtain ⟨c1, c2, c3, c4⟩ := hc
  subst c2
  have hu := (hL t d hd).und
  simp only [hk] at hu
  obtain ⟨u1, -⟩ := hu
  obtain ⟨i, z, i1, i2, i3, i4, i5, i6, i7⟩ := (hL e de hde).info
  have hb := (hL e de hde).byt
  have hnb : n.toNat * de.byt ≤ maxBytes := by
    have : ((n.toNat * de.byt : Nat) : Int) = n * de.byt := by rw [Int.natCast_mul, Int.toNat_of_nonneg c1]
    omega
  have hnm : n.toNat ≤ maxBytes := Nat.le_trans (Nat.le_mul_of_pos_right _ hb) hnb
  have hrun := run_make (P := P) w t e i z u1 i1 i4 .i64 .i64 n n c1 (Int.le_refl _) (by rw [i3]; unfold maxBytes at c4; rw [Int.mul_comm]; omega) (by unfold maxBytes at hnm; omega)
  have hz : z.cells.size = de.sh.width := by
    have := RC.len de.zero z.cells.toList (RC.of_flat (P := P) (w := w) (ob := ob) (S := S) _ _ i5)
    rw [← i7, ← this]; simp
  have hlist : (madeCells z.cells (n.toNat * i.size)).toList = (List.replicate n.toNat z.cells.toList).flatten := by
    have := made_list z.cells n.toNat (by rw [hz]; exact c3)
    rw [← this, hz, i2]; unfold madeCells; rw [hz]
  have hlr : (List.replicate n.toNat de.zero).length = n.toNat := by simp
  have := good_row (a := a) (rd := []) (w1 := w) (t := e) (cap := n.toNat) (arr := madeCells z.cells (n.toNat * i.size)) (rest := []) (res := runOp P a w o) r hfr hL hde (xs := List.replicate n.toNat de.zero) (fun y hy => by rw [List.eq_of_mem_replicate hy, i7]) (RCs.replicate (RC.of_flat _ _ i5) _)
    (by rw [hlist]; simp) (by rw [size_madeCells, i2]) (by simp) (by rw [hlr]; exact hnb) rfl (by simp [runOp, execOp, ho, (ev_int r hx).1, (ev_int r hy).1, hrun])
  rw [hlr] at this
  exact this

theorem len_of_rc {x : A} {v : Value} (h : RV1 P w ob S x v) : v.cells.size = x.shp.width := h.cells

/-- setting cells one by one is putting them in their stead -/
theorem foldl_set (l : List Value) : ∀ (k off : Nat) (cs : Array Value), off + k + l.length ≤ cs.size →
    ((l.zipIdx k).foldl (fun cs (p : Value × Nat) => cs.setIfInBounds (off + p.2) p.1) cs).toList = cs.toList.take (off + k) ++ l ++ cs.toList.drop (off + k + l.length) := by
  induction l with
  | nil => intro k off cs h; simp
  | cons v l ih =>
    intro k off cs h
    simp only [List.zipIdx_cons, List.foldl_cons, List.length_cons] at h ⊢
    rw [ih (k + 1) off _ (by simp; omega)]
    have e := list_seg_step cs.toList (off + k) v l (by simp; omega)
    simpa [Array.toList_setIfInBounds, Nat.add_assoc] using e

theorem foldl_set_arr (v : Value) (off : Nat) (cs : Array Value) (h : off + v.cells.size ≤ cs.size) :
    (v.cells.zipIdx.foldl (fun cs (p : Value × Nat) => cs.setIfInBounds (off + p.2) p.1) cs).toList = cs.toList.take off ++ v.cells.toList ++ cs.toList.drop (off + v.cells.size) := by
  have := foldl_set v.cells.toList 0 off cs (by simpa using h)
  rw [← Array.foldl_toList, Array.toList_zipIdx]
  simpa using this

/-- parts laid one by one into cells -/
theorem fill_ok (r : RS P L mine tm hp fr a.tmps w ob S) {place : Nat → Option (Nat × Nat)} : ∀ (parts : List (Nat × Operand)) (zs : List A) (cs : Array Value) (c : Prop) (p0 : Prop) (ys : List A),
    (∀ i z, zs[i]? = some z → place i = some (Sh.widths ((A.shps zs).take i), z.shp.width)) → RCs P w ob S zs cs.toList →
    parts.foldl (fun (r : Option (Prop × List A)) p => r.bind fun r => (evA tm p.2).bind fun v => (r.2[p.1]?).bind fun z => some (r.1 ∧ v.shp = z.shp ∧ v.isTup = false, r.2.set p.1 v)) (some (p0, zs)) = some (c, ys) → c →
    p0 ∧ A.shps ys = A.shps zs ∧ ∃ cs', Instr.fill place cs (parts.map fun p => (p.1, a.eval p.2)) = some cs' ∧ RCs P w ob S ys cs'.toList
  | [], zs, cs, c, p0, ys, hp', hr, h, hc => by
    simp only [List.foldl_nil, Option.some.injEq, Prod.mk.injEq] at h
    obtain ⟨rfl, rfl⟩ := h
    exact ⟨hc, rfl, cs, rfl, hr⟩
  | p :: parts, zs, cs, c, p0, ys, hp', hr, h, hc => by
    have hnone : ∀ (ps : List (Nat × Operand)), ps.foldl (fun (r : Option (Prop × List A)) p => r.bind fun r => (evA tm p.2).bind fun v => (r.2[p.1]?).bind fun z => some (r.1 ∧ v.shp = z.shp ∧ v.isTup = false, r.2.set p.1 v)) none = none := by
      intro ps; induction ps with
      | nil => rfl
      | cons q ps ih => simpa using ih
    simp only [List.foldl_cons, Option.bind_some] at h
    cases hv : evA tm p.2 with
    | none => simp only [hv, Option.bind_none, hnone] at h; cases h
    | some v =>
      cases hz : zs[p.1]? with
      | none => simp only [hv, hz, Option.bind_some, Option.bind_none, hnone] at h; cases h
      | some z =>
        simp only [hv, hz, Option.bind_some] at h
        have hsub : (A.st zs).sub [p.1] = some z := by simp [A.sub, hz]
        -- first find out that the condition holds
        have key : v.shp = z.shp ∧ v.isTup = false → p0 ∧ A.shps ys = A.shps zs ∧ ∃ cs', Instr.fill place cs ((p :: parts).map fun p => (p.1, a.eval p.2)) = some cs' ∧ RCs P w ob S ys cs'.toList := by
          rintro ⟨hs, ht⟩
          have hrv := rv1_of r hv ht
          obtain ⟨x', off, g1, g2, g3, g5, g4⟩ := upd_spec (P := P) (w := w) (ob := ob) (S := S) (w' := w) (S' := S) v [p.1] (.st zs) z hsub hs
          simp only [A.upd, hz, Option.some.injEq] at g1
          subst g1
          have hsh : A.shps (zs.set p.1 v) = A.shps zs := by simpa [A.shp] using g2
          have hoff : off = Sh.widths ((A.shps zs).take p.1) := by
            have hzz : (A.shps zs)[p.1]? = some z.shp := by simp [A.shps_eq, hz]
            simp only [A.shp, Sh.offs, hzz, Option.map_some, Nat.add_zero, Option.some.injEq] at g3
            exact g3.symm
          obtain ⟨m1, m2⟩ := g4 cs.toList (a.eval p.2).cells.toList (fun _ _ h => h) hr hrv.1
          have hpl := hp' p.1 z hz
          have hsz : (a.eval p.2).cells.size = z.shp.width := by rw [← hs]; exact len_of_rc hrv
          have hfit : off + (a.eval p.2).cells.size ≤ cs.size := by simpa using m1
          have hfold := foldl_set_arr (a.eval p.2) off cs hfit
          have hr2 : RCs P w ob S (zs.set p.1 v) ((a.eval p.2).cells.zipIdx.foldl (fun cs (q : Value × Nat) => cs.setIfInBounds (off + q.2) q.1) cs).toList := by
            have m2' : RCs P w ob S (zs.set p.1 v) _ := m2
            rw [hfold]; simpa using m2'
          obtain ⟨k1, k2, cs', k3, k4⟩ := fill_ok r (place := place) parts (zs.set p.1 v) _ c _ ys (fun i y hy => by
            have hy' : (A.shps (zs.set p.1 v))[i]? = some y.shp := by rw [A.shps_eq, List.getElem?_map, hy]; rfl
            rw [hsh] at hy' ⊢
            obtain ⟨y0, hy0, e⟩ : ∃ y0, zs[i]? = some y0 ∧ y0.shp = y.shp := by
              simp only [A.shps_eq, List.getElem?_map, Option.map_eq_some_iff] at hy'
              exact hy'
            rw [hp' i y0 hy0, e]) hr2 h hc
          refine ⟨k1.1, k2.trans hsh, cs', ?_, k4⟩
          simp only [List.map_cons, Instr.fill, hpl]
          rw [← hoff]
          have hn : ¬ ((a.eval p.2).cells.size ≠ z.shp.width ∨ off + (a.eval p.2).cells.size > cs.size) := by omega
          simpa [hsz, Nat.not_lt.2 (by omega : off + z.shp.width ≤ cs.size)] using k3
        -- the condition is part of c
        have hpart : ∀ (ps : List (Nat × Operand)) (q0 : Prop) (us : List A) (q : Prop) (vs : List A), ps.foldl (fun (r : Option (Prop × List A)) p => r.bind fun r => (evA tm p.2).bind fun v => (r.2[p.1]?).bind fun z => some (r.1 ∧ v.shp = z.shp ∧ v.isTup = false, r.2.set p.1 v)) (some (q0, us)) = some (q, vs) → q → q0 := by
          intro ps
          induction ps with
          | nil => intro q0 us q vs h1 h2; simp at h1; rw [h1.1]; exact h2
          | cons p ps ih =>
            intro q0 us q vs h1 h2
            simp only [List.foldl_cons, Option.bind_some] at h1
            cases hv : evA tm p.2 with
            | none => simp only [hv, Option.bind_none, hnone] at h1; cases h1
            | some v =>
              cases hz : us[p.1]? with
              | none => simp only [hv, hz, Option.bind_some, Option.bind_none, hnone] at h1; cases h1
              | some z =>
                simp only [hv, hz, Option.bind_some] at h1
                exact (ih _ _ q vs h1 h2).1
        exact key (hpart _ _ _ _ _ h hc).2

theorem run_mapM_list {α β : Type} {P : Program} {w : World} (f : α → Sem β) (g : α → β) (l : List α) (h : ∀ x ∈ l, (f x).run P w = .ok (g x) w) : (l.mapM f).run P w = .ok (l.map g) w := by
  rw [← List.mapM'_eq_mapM]
  induction l with
  | nil => simp [List.mapM']
  | cons x l ih => simp [List.mapM', h x (by simp), ih (fun y hy => h y (by simp [hy]))]

theorem run_mapM {α β : Type} {P : Program} {w : World} (f : α → Sem β) (g : α → β) (l : Array α) (h : ∀ x ∈ l.toList, (f x).run P w = .ok (g x) w) : (l.mapM f).run P w = .ok (l.map g) w := by
  rw [Array.mapM_eq_mapM_toList]
  simp [run_mapM_list f g l.toList h]
  rw [← Array.toList_map]

theorem good_build (hL : LOk P L) (r : RS P L mine tm hp fr a.tmps w ob S) {o : Oper} {t : TypeId} {parts : Array (Nat × Operand)} (ho : o.op = .build t parts) {c : Prop} {δ : Dl} (h : opv L (.build t parts) (evA tm) hp nx = some (c, δ)) (hc : c) :
    Good P L hp nx w ob S δ (runOp P a w o) := by
  simp only [opv] at h
  rw [Option.bind_eq_some_iff] at h; obtain ⟨d, hd, h⟩ := h
  split at h <;> try cases h
  rename_i zs hz
  rw [Option.map_eq_some_iff] at h; obtain ⟨⟨c', ys⟩, h1, h2⟩ := h
  cases h2
  obtain ⟨i, z, i1, i2, i3, i4, i5, i6, i7⟩ := (hL t d hd).info
  rw [hz] at i5 i6 i7
  obtain ⟨zc, rfl⟩ := i6.1 rfl
  have hrz : RCs P w ob S zs zc.toList := RC.of_flat (P := P) (w := w) (ob := ob) (S := S) (.st zs) _ i5
  have hzv : ∀ w, (zeroValue t).run P w = .ok (.agg zc) w := fun w => by simp [zeroValue, typeInfo, i1, i4]
  have hu := (hL t d hd).und
  have hshp : d.sh = .node (A.shps zs) := i7.symm
  cases hk : d.k with
  | st fts =>
    simp only [hk] at hu
    obtain ⟨fs, shs, u1, u2, u3, u4, u5⟩ := hu
    rw [u2] at hshp; cases hshp
    have hplaces : (fs.mapM fun f => (do pure (f.offset, ← sizeOf f.type) : Sem (Nat × Nat))).run P w = .ok (fs.map fun f => (f.offset, P.cellsOf f.type)) w := by
      refine run_mapM _ _ _ fun f hf => ?_
      obtain ⟨k, hkf⟩ := List.getElem?_of_mem hf
      have hlt : k < fts.length := by rw [← u4]; simpa using (List.getElem?_eq_some_iff.1 hkf).1
      obtain ⟨df, f', v1, v2, v3, v4, v5⟩ := u5 k fts[k] (List.getElem?_eq_getElem hlt)
      have : f' = f := by
        have : fs.toList[k]? = fs[k]? := by simp
        rw [this, v3] at hkf; exact (Option.some.inj hkf)
      subst this
      have hez := esz_eq (hL _ df v1)
      unfold esz at hez
      rw [← v4] at v1 hez
      simp [run_sizeOf (hL _ df v1), hez]
    obtain ⟨k1, k2, cs', k3, k4⟩ := fill_ok r (place := fun i => (fs.map fun f => (f.offset, P.cellsOf f.type))[i]?) parts.toList zs zc c' True ys (fun i y hy => by
      have hy' : (A.shps zs)[i]? = some y.shp := by rw [A.shps_eq, List.getElem?_map, hy]; rfl
      have hlt : i < fts.length := by rw [← u3]; exact (List.getElem?_eq_some_iff.1 hy').1
      obtain ⟨df, f, v1, v2, v3, v4, v5⟩ := u5 i fts[i] (List.getElem?_eq_getElem hlt)
      rw [hy'] at v2
      have e : df.sh = y.shp := (Option.some.inj v2).symm
      have hez := esz_eq (hL _ df v1)
      unfold esz at hez
      simp [v3, v5, v4, hez, e]) hrz h1 hc
    refine Good.pure1 r (v := .agg cs') ?_ ⟨k4, by simp [A.isSt]⟩ rfl
    have hmap : (parts.map fun x => (x.1, a.eval x.2)).toList = parts.toList.map fun p => (p.1, a.eval p.2) := by simp
    have hb : (Instr.build t (parts.map fun x => (x.1, a.eval x.2))).run P w = .ok (.agg cs') w := by
      unfold Instr.build
      simp only [Sem.run_bind, hzv, Result.andThen_ok, run_underlying u1, hplaces, hmap, Value.cells]
      rw [k3]; rfl
    simp [runOp, execOp, ho, hb]
  | arr n e =>
    simp only [hk] at hu
    obtain ⟨u1, de, u2, u3⟩ := hu
    rw [u3] at hshp
    have hsh : A.shps zs = List.replicate n de.sh := (Sh.node.inj hshp).symm
    obtain ⟨k1, k2, cs', k3, k4⟩ := fill_ok r (place := fun i => some (i * de.sh.width, de.sh.width)) parts.toList zs zc c' True ys (fun i y hy => by
      have : (A.shps zs)[i]? = some y.shp := by rw [A.shps_eq, List.getElem?_map, hy]; rfl
      rw [hsh, List.getElem?_replicate] at this
      split at this
      · rename_i hlt
        rw [hsh, List.take_replicate, widths_replicate, Nat.min_eq_left (Nat.le_of_lt hlt), Option.some.inj this]
      · cases this) hrz h1 hc
    refine Good.pure1 r (v := .agg cs') ?_ ⟨k4, by simp [A.isSt]⟩ rfl
    have hmap : (parts.map fun x => (x.1, a.eval x.2)).toList = parts.toList.map fun p => (p.1, a.eval p.2) := by simp
    simp [runOp, execOp, ho, Instr.build, hzv, run_underlying u1, run_sizeOf (hL e de u2), Value.cells, k3]
  | _ => 
    exfalso
    simp only [hk] at hu
    first
      | (have hu := hu.2; rw [hu] at hshp; exact absurd hshp (by simp))
      | (have hu := hu.1; rw [hu] at hshp; exact absurd hshp (by simp))

theorem good_buildSlice (hL : LOk P L) (r : RS P L mine tm hp fr a.tmps w ob S) (hfr : fr nx) {o : Oper} {t : TypeId} {len : Nat} {parts : Array (Nat × Operand)} (ho : o.op = .buildSlice t len parts) {c : Prop} {δ : Dl} (h : opv L (.buildSlice t len parts) (evA tm) hp nx = some (c, δ)) (hc : c) :
    Good P L hp nx w ob S δ (runOp P a w o) := by
  simp only [opv] at h
  rw [Option.bind_eq_some_iff] at h; obtain ⟨d, hd, h⟩ := h
  split at h <;> try cases h
  rename_i e hk
  rw [Option.bind_eq_some_iff] at h; obtain ⟨de, hde, h⟩ := h
  rw [Option.map_eq_some_iff] at h; obtain ⟨⟨c', ys⟩, h1, h2⟩ := h
  cases h2
  obtain ⟨c1, c2, c3, c4⟩ := hc
  have hu := (hL t d hd).und
  simp only [hk] at hu
  obtain ⟨u1, -⟩ := hu
  obtain ⟨i, z, i1, i2, i3, i4, i5, i6, i7⟩ := (hL e de hde).info
  have hz : z.cells.size = de.sh.width := by
    have := RC.len de.zero z.cells.toList (RC.of_flat (P := P) (w := w) (ob := ob) (S := S) _ _ i5)
    rw [← i7, ← this]; simp
  let arr0 : Array Value := (Array.range (len * de.sh.width)).map (z.cells[· % z.cells.size]!)
  have hlist : arr0.toList = (List.replicate len z.cells.toList).flatten := by
    have := made_list z.cells len (by rw [hz]; exact c3)
    rw [← this, hz]; simp only [arr0]; rw [hz]
  have hrz : RCs P w ob S (List.replicate len de.zero) arr0.toList := by rw [hlist]; exact RCs.replicate (RC.of_flat _ _ i5) _
  have hsh : A.shps (List.replicate len de.zero) = List.replicate len de.sh := by rw [A.shps_eq, List.map_replicate, i7]
  obtain ⟨k1, k2, cs', k3, k4⟩ := fill_ok r (place := fun i => some (i * de.sh.width, de.sh.width)) parts.toList (List.replicate len de.zero) arr0 c' True ys (fun i y hy => by
    rw [List.getElem?_replicate] at hy
    split at hy
    · rename_i hlt; cases hy
      rw [hsh, List.take_replicate, widths_replicate, Nat.min_eq_left (Nat.le_of_lt hlt), i7]
    · cases hy) hrz h1 c1
  have hlen : ys.length = len := by
    have := congrArg List.length k2
    simpa [A.shps_eq] using this
  have hys : ∀ y ∈ ys, y.shp = de.sh := fun y hy => by
    have : y.shp ∈ A.shps ys := by rw [A.shps_eq]; exact List.mem_map_of_mem hy
    rw [k2, hsh] at this
    exact List.eq_of_mem_replicate this
  have hcs : cs'.size = len * de.sh.width := by
    have h1 := RCs.len _ _ k4
    rw [k2, hsh, widths_replicate] at h1
    simpa using h1
  have hw0 : de.sh.width ≠ 0 := by omega
  have hmap : (parts.map fun x => (x.1, a.eval x.2)).toList = parts.toList.map fun p => (p.1, a.eval p.2) := by simp
  have hrun : runOp P a w o = .ok (.value (.slice (some ⟨w.heap.size, 0, none⟩) ys.length len)) (w.alloc (.cells cs' e)) := by
    have hbig : ¬ (len * de.sh.width > 2 ^ 24) := by omega
    have hk3 : Instr.fill (fun i => some (i * de.sh.width, de.sh.width)) arr0 ((parts.map fun x => (x.1, a.eval x.2)).toList) = some cs' := by rw [hmap]; exact k3
    have hb : (Instr.buildSlice t len (parts.map fun x => (x.1, a.eval x.2))).run P w = .ok (.slice (some ⟨w.heap.size, 0, none⟩) len len) (w.alloc (.cells cs' e)) := by
      unfold Instr.buildSlice
      simp only [Sem.run_bind, run_underlying u1, Result.andThen_ok, run_sizeOf (hL e de hde), hbig, if_false]
      by_cases h0 : len * de.sh.width = 0
      · have e0 : ∀ f : Nat → Value, Array.map f (Array.range 0) = #[] := fun f => by apply Array.ext'; simp
        have hk3' := k3
        simp only [arr0, h0, e0] at hk3'
        simp [h0, newRow, e0, hk3']
      · have hk3' := k3
        simp only [arr0] at hk3'
        simp [h0, zeroValue, typeInfo, i1, i4, newRow, hk3']
    rw [hlen]
    simp [runOp, execOp, ho, hb]
  have := good_row (a := a) (rd := []) (w1 := w) (t := e) (cap := len) (arr := cs') (cl := cs'.toList) (rest := []) (res := runOp P a w o) r hfr hL hde (xs := ys) hys k4 (by simp) hcs (by omega) (by rw [hlen]; exact c4) rfl hrun
  rw [hlen] at this
  exact this

end
end Go.Ab
