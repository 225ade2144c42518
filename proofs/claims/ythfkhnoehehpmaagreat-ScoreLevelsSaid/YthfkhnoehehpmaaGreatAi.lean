import Derived.Test.YthfkhnoehehpmaaGreatAh
import Derived.MapKept
import Derived.Maps.RangeRun
import Derived.Carry
set_option linter.unusedVariables false
set_option linter.unusedSimpArgs false
/- SETS OF NUMBERS (maps), AND WALKS OVER THEM. -/
namespace Go.Ab
open Go.MapKept (IsKey findNow_spec run_checkKey run_findKey run_setObj_map run_keyThatStays)
open Go.RowKit (run_makeMap)
section
variable {P : Program} {L : Lay} {g : Gh} {tm : Nat → Option A} {hp : Hp} {fr fr' : Nat → Prop} {a : Act} {w : World} {ob : Nat → Option OI} {S : Nat → Prop}
variable {r : Option Nat} {N : Nat} {ops : Array Oper} {o : Oper}

/-- an operation whose run is known -/
theorem actG_run {s : AS} {x : A} {hp' : Hp} {nx' : Nat} {ys' : Nat → Option XO} (hw : wantA ops o s.tm = some true) (hno : ∀ c, o.op ≠ .defer c)
    (h : ∀ (g : Gh) (a : Act) (w : World) (ob : Nat → Option OI) (S : Nat → Prop), Inv P L (g.wy s) s.tm s.hp (s.nx ≤ ·) a w ob S →
      ∃ v w' ob' S', ((execOp a.eval o).run P w = .ok (.value v) w' ∨ ((execOp a.eval o).run P w = .ok .skip w' ∧ v = undef)) ∧ RV P w' ob' S' x v ∧ Inv P L { g with ys := ys', mks := s.mks } s.tm hp' (nx' ≤ ·) a w' ob' S')
    (hd : ∀ k, o.dst = some k → k < N) : ActG P L r N ops o s ⟨upf s.tm o.dst x, hp', nx', ys', s.mks⟩ := by
  intro g hg a w ha n Q i K hi hK
  obtain ⟨ob, S, iv⟩ := ha
  have hw' := wantA_spec (ops := ops) (o := o) iv.rs hw
  obtain ⟨v, w', ob', S', h1, h2, h3⟩ := h g a w ob S iv
  have hfin : K (a.put o.dst v) w' := hK _ _ ⟨ob', S', h3.put h2 o.dst (fun k hk => by show k < g.N; rw [hg]; exact hd k hk)⟩
  unfold wpOpIn
  simp only [hi, hw', if_true, Oper.wpIn]
  refine ⟨fun _ _ => trivial, ?_⟩
  rw [Oper.semAt_eq _ _ _ hno]
  rcases h1 with h1 | ⟨h1, rfl⟩
  · rw [h1]; exact hfin
  · rw [h1]; exact hfin

theorem actG_makeMap {s : AS} {t : TypeId} (ho : o.op = .makeMap t none) (hw : wantA ops o s.tm = some true) (hd : ∀ k, o.dst = some k → k < N) :
    ActG P L r N ops o s ⟨upf s.tm o.dst (.xo .mp s.nx), s.hp, s.nx + 1, upy s.ys s.nx (some (.map [])), s.mks⟩ := by
  refine actG_run hw (by rw [ho]; simp) (fun g a w ob S iv => ?_) hd
  have i1 := iv.newX (o := s.nx) (fr' := (s.nx + 1 ≤ ·)) (Nat.le_refl _) (fun k hk => ⟨by omega, by omega⟩) (obj := .map #[] 0) (x := .map []) (World.alloc_heap_new _ _)
  refine ⟨.map (some w.heap.size), _, _, _, .inl ?_, ?_, i1⟩
  · simp [execOp, ho, run_makeMap]
  · exact ⟨⟨oiX w.heap.size, w.heap.size, by simp [upo], by simp [Value.cells, XK.val], fun _ => rfl⟩, by simp [A.isSt]⟩

def mapIns (ks : List Int) (n : Int) : List Int := if n ∈ ks then ks else ks ++ [n]

theorem mkEs_snoc (ks : List Int) (n : Int) : mkEs (ks ++ [n]) = (mkEs ks).push ⟨.int .i64 n, .agg #[], ks.length⟩ := by
  apply Array.toList_inj.1
  simp [mkEs, List.mapIdx_append]

theorem mkEs_get (ks : List Int) (i : Nat) : (mkEs ks)[i]? = (ks[i]?).map fun k => ⟨.int .i64 k, .agg #[], i⟩ := by
  simp [mkEs, List.getElem?_mapIdx]

theorem mkEs_mem {ks : List Int} {e : MapEntry} (h : e ∈ (mkEs ks).toList) : ∃ i k, ks[i]? = some k ∧ e = ⟨.int .i64 k, .agg #[], i⟩ := by
  obtain ⟨i, hi⟩ := List.mem_iff_getElem?.1 h
  rw [Array.getElem?_toList, mkEs_get, Option.map_eq_some_iff] at hi
  obtain ⟨k, h1, h2⟩ := hi
  exact ⟨i, k, h1, h2.symm⟩

theorem xo_at (iv : Inv P L g tm hp fr a w ob S) {x : Operand} {k : XK} {oo : Nat} (hx : evA tm x = some (.xo k oo)) {z : XO} (hy : g.ys oo = some z) :
    ∃ oi b, ob oo = some oi ∧ oi.ver = 0 ∧ oi.blk = some b ∧ a.eval x = k.val b ∧ XOk P w ob S z b ∧ b < w.heap.size := by
  obtain ⟨oi, b, q1, q2, q3⟩ : RCxo ob k oo [a.eval x] := by
    have := ev_leaf iv.rs hx rfl rfl
    simpa [RC] using this
  obtain ⟨-, oi', b', k2, k3, k4, k5, k6, k7⟩ := iv.xs oo _ hy
  rw [q1] at k2; cases k2
  have hb := q3 k3
  rw [hb] at k4; cases k4
  exact ⟨oi, b, q1, k3, hb, by simpa using q2, k7, iv.rs.blk oo oi b q1 hb⟩

theorem rv_st0 {v : Value} (h : RV1 P w ob S (.st []) v) : v = .agg #[] := by
  obtain ⟨h1, h2⟩ := h
  obtain ⟨c, rfl⟩ := h2.1 rfl
  have h1 : c.toList = [] := by simpa [Value.cells, RC, RCs] using h1
  rw [Array.toList_eq_nil_iff] at h1
  rw [h1]

theorem run_mapUpdate_set {mt kt et : TypeId} (hm : P.underlying mt = some (.map kt et)) (hk : P.underlying kt = some (.int .i64)) {b : Nat} {ks : List Int} (hb : w.heap[b]? = some (.map (mkEs ks) ks.length)) (n : Int) :
    (Instr.mapUpdate mt (.map (some b)) (.int .i64 n) (.agg #[])).run P w = .ok () (w.putObj b (.map (mkEs (mapIns ks n)) (mapIns ks n).length)) := by
  have hkey : IsKey (.int .i64) (.int .i64 n) := rfl
  have hks : ∀ x ∈ (mkEs ks).toList, IsKey (.int .i64) x.key := fun x hx => by
    obtain ⟨i, k, -, rfl⟩ := mkEs_mem hx
    rfl
  rcases findNow_spec hkey (mkEs ks).toList 0 hks with ⟨h1, h2⟩ | ⟨j, e, h1, h2, h3⟩
  · have hn : n ∉ ks := fun h => by
      obtain ⟨i, hi⟩ := List.mem_iff_getElem?.1 h
      have : (⟨.int .i64 n, .agg #[], i⟩ : MapEntry) ∈ (mkEs ks).toList := by
        rw [List.mem_iff_getElem?]
        exact ⟨i, by rw [Array.getElem?_toList, mkEs_get, hi]; rfl⟩
      exact h2 _ this rfl
    have e1 : mapIns ks n = ks ++ [n] := by simp [mapIns, hn]
    rw [e1, mkEs_snoc, List.length_append]
    simp [Instr.mapUpdate, run_underlying hm, Go.MapKept.run_getObj_map hb, run_checkKey hk hkey, run_findKey hk h1, run_setObj_map _ hb, Result.andThen, World.putObj]
  · have hj : (mkEs ks)[j]? = some e := by simpa using h2
    rw [mkEs_get, Option.map_eq_some_iff] at hj
    obtain ⟨k, g1, g2⟩ := hj
    subst g2
    have h3 : k = n := by simpa using h3
    subst h3
    have hn : k ∈ ks := List.mem_of_getElem? g1
    have e1 : mapIns ks k = ks := by simp [mapIns, hn]
    have hj : (mkEs ks)[j]? = some ⟨.int .i64 k, .agg #[], j⟩ := by rw [mkEs_get, g1]; rfl
    have hmod : (mkEs ks).modify j (fun e => { e with key := .int .i64 k, val := .agg #[] }) = mkEs ks := by
      apply Array.ext_getElem?
      intro i
      rw [Array.getElem?_modify]
      split
      · rename_i h; subst h; rw [hj]; rfl
      · rfl
    rw [e1]
    have hkt : (Instr.keyThatStays (.int .i64 k) (.int .i64 k)).run P w = .ok (.int .i64 k) w := run_keyThatStays hkey
    simp only [Nat.zero_add] at h1
    simp [Instr.mapUpdate, run_underlying hm, Go.MapKept.run_getObj_map hb, run_checkKey hk hkey, run_findKey hk h1, run_setObj_map _ hb, Result.andThen, World.putObj, hj, hkt, hmod]

theorem actG_mapUpdate {s : AS} {mt kt et : TypeId} {m k v : Operand} {oo : Nat} {n : Int} {ks : List Int} (ho : o.op = .mapUpdate mt m k v) (hw : wantA ops o s.tm = some true) (hm : P.underlying mt = some (.map kt et)) (hk : P.underlying kt = some (.int .i64))
    (h1 : evA s.tm m = some (.xo .mp oo)) (h2 : evA s.tm k = some (.int .i64 n)) (h3 : evA s.tm v = some (.st [])) (hy : s.ys oo = some (.map ks)) (hd : ∀ k, o.dst = some k → k < N) :
    ActG P L r N ops o s ⟨upf s.tm o.dst (.tup []), s.hp, s.nx, upy s.ys oo (some (.map (mapIns ks n))), s.mks⟩ := by
  refine actG_run hw (by rw [ho]; simp) (fun g a w ob S iv => ?_) hd
  obtain ⟨oi, b, q1, q2, q3, q4, q5, q6⟩ := xo_at iv h1 (z := .map ks) hy
  have e2 : a.eval k = .int .i64 n := by
    have := ev_leaf iv.rs h2 rfl rfl
    simpa [RC] using this.1
  have e3 : a.eval v = .agg #[] := rv_st0 (rv1_of iv.rs h3 rfl)
  have i1 := iv.putObj (o := oo) (x := .map ks) (x' := some (.map (mapIns ks n))) (obj := .map (mkEs (mapIns ks n)) (mapIns ks n).length) hy q1 q3 (fun y hy => by cases hy; exact World.putObj_heap_same q6)
    (fun hmem => by
      have hm := iv.defs.2
      have key : ∀ (l : List Nat) (ds : List Deferred), Marks ob s.ys g.D l ds → ∀ o ∈ l, s.ys o = some .dfr := by
        intro l
        induction l with
        | nil => intro _ _ o ho; cases ho
        | cons o l ih =>
          intro ds h o' ho'
          obtain ⟨b, oi, ds', h1, h2, h3, h4, h5, h6⟩ := h
          rcases List.mem_cons.1 ho' with rfl | ho'
          · exact h2
          · exact ih _ h6 _ ho'
      have := key _ _ hm _ hmem
      rw [hy] at this; cases this)
  refine ⟨undef, _, _, _, .inr ⟨?_, rfl⟩, ⟨#[], rfl, rfl⟩, i1⟩
  simp [execOp, ho, q4, XK.val, e2, e3, run_mapUpdate_set hm hk q5]

theorem actG_range {s : AS} {mt kt et : TypeId} {x : Operand} {oo : Nat} {ks : List Int} (ho : o.op = .range mt x) (hw : wantA ops o s.tm = some true) (hm : P.underlying mt = some (.map kt et))
    (h1 : evA s.tm x = some (.xo .mp oo)) (hy : s.ys oo = some (.map ks)) (hd : ∀ k, o.dst = some k → k < N) :
    ActG P L r N ops o s ⟨upf s.tm o.dst (.xo .it s.nx), s.hp, s.nx + 1, upy s.ys s.nx (some (.iter oo ks.length [] ks.length)), s.mks⟩ := by
  refine actG_run hw (by rw [ho]; simp) (fun g a w ob S iv => ?_) hd
  obtain ⟨oi, b, q1, q2, q3, q4, q5, q6⟩ := xo_at iv h1 (z := .map ks) hy
  have hne : oo ≠ s.nx := by rintro rfl; rw [iv.rs.fr s.nx (Nat.le_refl _)] at q1; cases q1
  have i1 := iv.newX (o := s.nx) (fr' := (s.nx + 1 ≤ ·)) (Nat.le_refl _) (fun k hk => ⟨by omega, by omega⟩) (obj := .mapIter (some b) ks.length #[] ks.length) (x := .iter oo ks.length [] ks.length)
    ⟨oi, b, by simp only [upo, hne, if_false]; exact q1, fun _ => q3, World.alloc_heap_new _ _⟩
  refine ⟨.pointer (some ⟨w.heap.size, 0, none⟩), _, _, _, .inl ?_, ?_, i1⟩
  · have q5 : w.heap[b]? = some (.map (mkEs ks) ks.length) := q5
    simp [execOp, ho, q4, XK.val, Instr.range, run_underlying hm, Go.MapKept.run_getObj_map q5, Result.andThen]
  · exact ⟨⟨oiX w.heap.size, w.heap.size, by simp [upo], by simp [Value.cells, XK.val], fun _ => rfl⟩, by simp [A.isSt]⟩

/-- which are left -/
def leftN (n : Nat) (seen : List Nat) : List Nat := (List.range n).filter fun i => !seen.contains i

theorem leftOf_mem {ks : List Int} {seen : List Nat} {e : MapEntry} : e ∈ (leftOf (mkEs ks) seen.toArray).toList ↔ ∃ i k, ks[i]? = some k ∧ e = ⟨.int .i64 k, .agg #[], i⟩ ∧ i ∈ leftN ks.length seen := by
  unfold leftOf leftN
  simp only [Array.toList_filter, List.mem_filter, List.contains_toArray, Bool.not_eq_true', List.mem_range]
  constructor
  · rintro ⟨h1, h2⟩
    obtain ⟨i, k, h3, rfl⟩ := mkEs_mem h1
    exact ⟨i, k, h3, rfl, (List.getElem?_eq_some_iff.1 h3).1, h2⟩
  · rintro ⟨i, k, h1, rfl, h2, h3⟩
    refine ⟨?_, h3⟩
    rw [List.mem_iff_getElem?]
    exact ⟨i, by rw [Array.getElem?_toList, mkEs_get, h1]; rfl⟩

theorem mkEs_born {ks : List Int} {since : Nat} (h : ks.length ≤ since) : ∀ x ∈ (mkEs ks).toList, x.born < since := fun x hx => by
  obtain ⟨i, k, h1, rfl⟩ := mkEs_mem hx
  have := (List.getElem?_eq_some_iff.1 h1).1
  show i < since
  omega

/-- a walk's iterator, its map, where they lie -/
theorem it_at (iv : Inv P L g tm hp fr a w ob S) {x : Operand} {oo m since stepped : Nat} {seen : List Nat} {ks : List Int} (hx : evA tm x = some (.xo .it oo)) (hy : g.ys oo = some (.iter m since seen stepped)) (hm : g.ys m = some (.map ks)) :
    ∃ oi b bm, ob oo = some oi ∧ oi.ver = 0 ∧ oi.blk = some b ∧ a.eval x = .pointer (some ⟨b, 0, none⟩) ∧ b < w.heap.size ∧ w.heap[b]? = some (.mapIter (some bm) since seen.toArray stepped) ∧ w.heap[bm]? = some (.map (mkEs ks) ks.length) ∧ b ≠ bm ∧ (∃ oim, ob m = some oim ∧ (oim.ver = 0 → oim.blk = some bm)) := by
  obtain ⟨oi, b, q1, q2, q3, q4, ⟨oim, bm, q5, q6, q7⟩, q8⟩ := xo_at iv hx hy
  obtain ⟨-, oim', bm', k2, k3, k4, k5, k6, k7⟩ := iv.xs m _ hm
  rw [q5] at k2; cases k2
  rw [q6 k3] at k4; cases k4
  have k7 : w.heap[bm]? = some (.map (mkEs ks) ks.length) := k7
  refine ⟨oi, b, bm, q1, q2, q3, q4, q8, q7, k7, ?_, oim, q5, q6⟩
  rintro rfl
  rw [q7] at k7; cases k7

theorem not_marked (iv : Inv P L g tm hp fr a w ob S) {oo : Nat} {z : XO} (hy : g.ys oo = some z) (hz : z ≠ .dfr) : oo ∉ g.mks := fun hmem => by
  have key : ∀ (l : List Nat) (ds : List Deferred), Marks ob g.ys g.D l ds → ∀ o ∈ l, g.ys o = some .dfr := by
    intro l
    induction l with
    | nil => intro _ _ o ho; cases ho
    | cons o l ih =>
      intro ds h o' ho'
      obtain ⟨b, oi, ds', h1, h2, h3, h4, h5, h6⟩ := h
      rcases List.mem_cons.1 ho' with rfl | ho'
      · exact h2
      · exact ih _ h6 _ ho'
  have := key _ _ iv.defs.2 _ hmem
  rw [hy] at this; cases this
  exact hz rfl

theorem actG_nextOver {s : AS} {x : Operand} {oo m since stepped : Nat} {seen : List Nat} {ks : List Int} (ho : o.op = .next x false) (hw : wantA ops o s.tm = some true)
    (h1 : evA s.tm x = some (.xo .it oo)) (hy : s.ys oo = some (.iter m since seen stepped)) (hm : s.ys m = some (.map ks)) (hs1 : ks.length ≤ since) (hs2 : since ≤ stepped) (hl : leftN ks.length seen = []) (hd : ∀ k, o.dst = some k → k < N) :
    ActG P L r N ops o s ⟨upf s.tm o.dst (.tup [.bool false]), s.hp, s.nx, s.ys, s.mks⟩ := by
  refine actG_run hw (by rw [ho]; simp) (fun g a w ob S iv => ?_) hd
  obtain ⟨oi, b, bm, q1, q2, q3, q4, q5, q6, q7, q8, -⟩ := it_at iv h1 hy hm
  refine ⟨.tuple #[.bool false], w, ob, S, .inl ?_, ⟨#[.bool false], rfl, ?_⟩, iv⟩
  · rcases run_next_at (P := P) w o.type b bm since stepped seen.toArray (mkEs ks) ks.length q6 q7 (mkEs_born hs1) hs2 with ⟨-, h⟩ | ⟨e, he, -⟩
    · simp [execOp, ho, q4, h]
    · obtain ⟨i, k, -, -, h⟩ := leftOf_mem.1 he
      rw [hl] at h; cases h
  · exact ⟨.bool false, [], rfl, by simp [RC, Value.cells], by simp [A.isSt], rfl⟩

theorem actG_nextOne {s : AS} {x : Operand} {oo m since stepped i : Nat} {seen : List Nat} {ks : List Int} {n : Int} (ho : o.op = .next x false) (hw : wantA ops o s.tm = some true)
    (h1 : evA s.tm x = some (.xo .it oo)) (hy : s.ys oo = some (.iter m since seen stepped)) (hm : s.ys m = some (.map ks)) (hs1 : ks.length ≤ since) (hs2 : since ≤ stepped) (hl : leftN ks.length seen = [i]) (hn : ks[i]? = some n) (hwn : IntKind.wrap .i64 n = n) (hd : ∀ k, o.dst = some k → k < N) :
    ActG P L r N ops o s ⟨upf s.tm o.dst (.tup [.bool true, .int .i64 n, .st []]), s.hp, s.nx, upy s.ys oo (some (.iter m since (seen ++ [i]) ks.length)), s.mks⟩ := by
  refine actG_run hw (by rw [ho]; simp) (fun g a w ob S iv => ?_) hd
  obtain ⟨oi, b, bm, q1, q2, q3, q4, q5, q6, q7, q8, oim, q9, q10⟩ := it_at iv h1 hy hm
  rcases run_next_at (P := P) w o.type b bm since stepped seen.toArray (mkEs ks) ks.length q6 q7 (mkEs_born hs1) hs2 with ⟨h, -⟩ | ⟨e, he, w1, hw1, h⟩
  · exfalso
    have : (⟨.int .i64 n, .agg #[], i⟩ : MapEntry) ∈ (leftOf (mkEs ks) seen.toArray).toList := leftOf_mem.2 ⟨i, n, hn, rfl, by rw [hl]; simp⟩
    rw [Array.eq_empty_of_size_eq_zero h] at this
    simp at this
  · obtain ⟨j, k, g1, rfl, g2⟩ := leftOf_mem.1 he
    rw [hl] at g2
    have : j = i := by simpa using g2
    subst this
    rw [hn] at g1; cases g1
    have iv1 : Inv P L (g.wy s) s.tm s.hp (s.nx ≤ ·) a w1 ob S := by
      rcases hw1 with rfl | rfl
      · exact iv
      · exact iv.heap rfl
    have hsz : w1.heap.size = w.heap.size := by rcases hw1 with rfl | rfl <;> rfl
    have i1 := iv1.putObj (o := oo) (x := .iter m since seen stepped) (x' := some (.iter m since (seen ++ [j]) ks.length)) (obj := .mapIter (some bm) since (seen ++ [j]).toArray ks.length) hy q1 q3
      (fun y hy => by cases hy; exact ⟨oim, bm, q9, q10, World.putObj_heap_same (by omega)⟩) (not_marked iv hy (by simp))
    refine ⟨.tuple #[.bool true, .int .i64 n, .agg #[]], _, ob, S, .inl ?_, ⟨#[.bool true, .int .i64 n, .agg #[]], rfl, ?_⟩, i1⟩
    · simp only [execOp, ho, q4, h]
      simp [h, World.putObj, Go.ChangeMaps.setBlock]
    · refine ⟨.bool true, _, rfl, by simp [RC, Value.cells], by simp [A.isSt], .int .i64 n, _, rfl, ?_, by simp [A.isSt], .agg #[], [], rfl, by simp [RC, RCs, Value.cells], by simp [A.isSt], rfl⟩
      exact ⟨rfl, hwn⟩

theorem mkEs_nodup (ks : List Int) : ((mkEs ks).toList.map (·.born)).Nodup := by
  have : (mkEs ks).toList.map (·.born) = List.range ks.length := by
    apply List.ext_getElem?
    intro i
    rw [List.getElem?_map, Array.getElem?_toList, mkEs_get]
    cases h : ks[i]? with
    | none => rw [List.getElem?_eq_none_iff] at h; simp; omega
    | some k => have := (List.getElem?_eq_some_iff.1 h).1; simp [this]
  rw [this]; exact List.nodup_range

theorem actG_entry {s : AS} {x : Operand} {oo m since i : Nat} {seen : List Nat} {ks : List Int} {n : Int} (ho : o.op = .entry x) (hw : wantA ops o s.tm = some true)
    (h1 : evA s.tm x = some (.xo .it oo)) (hy : s.ys oo = some (.iter m since (seen ++ [i]) ks.length)) (hm : s.ys m = some (.map ks)) (hn : ks[i]? = some n) (hwn : IntKind.wrap .i64 n = n) (hd : ∀ k, o.dst = some k → k < N) :
    ActG P L r N ops o s ⟨upf s.tm o.dst (.tup [.int .i64 n, .st []]), s.hp, s.nx, s.ys, s.mks⟩ := by
  refine actG_run hw (by rw [ho]; simp) (fun g a w ob S iv => ?_) hd
  obtain ⟨oi, b, bm, q1, q2, q3, q4, q5, q6, q7, q8, -⟩ := it_at iv h1 hy hm
  refine ⟨.tuple #[.int .i64 n, .agg #[]], w, ob, S, .inl ?_, ⟨#[.int .i64 n, .agg #[]], rfl, ?_⟩, iv⟩
  · have he : (⟨.int .i64 n, .agg #[], i⟩ : MapEntry) ∈ (mkEs ks).toList := by
      rw [List.mem_iff_getElem?]
      exact ⟨i, by rw [Array.getElem?_toList, mkEs_get, hn]; rfl⟩
    have := run_entry_at (P := P) w b bm since seen.toArray (mkEs ks) ks.length ⟨.int .i64 n, .agg #[], i⟩ (by simpa using q6) q7 he (mkEs_nodup ks)
    simp [execOp, ho, q4, this]
  · refine ⟨.int .i64 n, _, rfl, ⟨rfl, hwn⟩, by simp [A.isSt], .agg #[], [], rfl, by simp [RC, RCs, Value.cells], by simp [A.isSt], rfl⟩

/-- a struct without fields -/
def UnitT (P : Program) (t : TypeId) : Prop := ∀ w, (Instr.build t #[]).run P w = .ok (.agg #[]) w

theorem actG_unit {s : AS} {t : TypeId} (ho : o.op = .build t #[]) (hw : wantA ops o s.tm = some true) (hu : UnitT P t) (hd : ∀ k, o.dst = some k → k < N) :
    ActG P L r N ops o s ⟨upf s.tm o.dst (.st []), s.hp, s.nx, s.ys, s.mks⟩ := by
  refine actG_run hw (by rw [ho]; simp) (fun g a w ob S iv => ?_) hd
  refine ⟨.agg #[], w, ob, S, .inl ?_, ⟨by simp [RC, RCs, Value.cells], by simp [A.isSt]⟩, iv⟩
  simp [execOp, ho, hu w]

theorem actG_skip {s : AS} (hw : wantA ops o s.tm = some false) (hd : ∀ k, o.dst = some k → k < N) : ActG P L r N ops o s ⟨upf s.tm o.dst (.tup []), s.hp, s.nx, s.ys, s.mks⟩ :=
  actG_of (P := P) (L := L) (r := r) (act_skip (ops := ops) hw) hd

end
end Go.Ab
