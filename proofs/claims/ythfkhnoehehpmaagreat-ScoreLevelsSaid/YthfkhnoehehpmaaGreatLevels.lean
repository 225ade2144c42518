/- Whatever the levels, one more, and the two numbers: the law on levels, 'stepladderlaw19.ScoreLevels', answers true, and its arguments read as they did. No condition. -/
import Derived.Test.YthfkhnoehehpmaaGreatRows
import Derived.WalkKit
import Derived.ProofKit
import Derived.OpenShut
import Derived.SizedLaws
import Derived.ChangeSlices
import Derived.Test.YthfkhnoehehpmaaGreatAp
import Derived.Test.YthfkhnoehehpmaaGreatBf
namespace Go.Proofs.YthfkhnoehehpmaaGreat.scoreLevels
open Go.ChangeShapes Go.WideShapes Go.ChangeAt Go.RowKit
set_option linter.unusedVariables false
set_option linter.unusedSimpArgs false

theorem own : ownKnob Tryz.prog.godebug = none := by kernel_rfl
theorem cells3 : Tryz.prog.cellsOf 3 = 1 := by kernel_rfl
theorem bytes3 : Tryz.prog.bytesOf 3 = 8 := by kernel_rfl

theorem wf_wrap_i64 {a : Int} (ha : (Lit.int .i64 a).wf = true) : IntKind.i64.wrap a = a ∧ -9223372036854775808 ≤ a := by
  have hd : IntKind.min .i64 ≤ a ∧ a ≤ IntKind.max .i64 := by simpa only [Lit.wf, Bool.and_eq_true, decide_eq_true_eq] using ha
  obtain ⟨h1, h2⟩ := hd
  exact ⟨Go.Ab.wrap_i64 h1 (by have : a ≤ 9223372036854775807 := h2; omega), h1⟩

theorem walk_nil (y m n : Int) (wy : (Lit.int .i64 y).wf = true) (wm : (Lit.int .i64 m).wf = true) (wn : (Lit.int .i64 n).wf = true) (w : World) :
    Calls Tryz.prog 6 #[.slice none 0 0, .int .i64 y, .int .i64 m, .int .i64 n] w fun e w' => e = .returned (.bool true) ∧ Grown w w' := by
  have key : Go.Ab.Pure Go.Ab.PP Go.Ab.LL 6 [.nilsl, Go.Ab.iA y, Go.Ab.iA m, Go.Ab.iA n] (.bool true) := by
    by_cases c1 : n < m
    · exact Go.Ab.levels_nil_out y m n c1
    · exact Go.Ab.levels_nil_in y m n (by omega) (wf_wrap_i64 wy).2
  exact Go.Ab.calls_true Tryz.func6 (by rfl) rfl (key _ _) w ⟨_, _, rfl, rfl, by simp [Go.Ab.A.isSt], Go.Ab.rvl_int (wf_wrap_i64 wy).1 (Go.Ab.rvl_int (wf_wrap_i64 wm).1 (Go.Ab.rvl_int (wf_wrap_i64 wn).1 rfl))⟩

theorem walk (b off cap : Nat) (zs : List Int) (y m n : Int) (w : World) (hz : ∀ z ∈ zs, (Lit.int .i64 z).wf = true) (hcap : zs.length ≤ cap) (hb : zs.length * 8 ≤ Go.Ab.maxBytes)
    (hc : ∀ i, i < zs.length → w.cell? ⟨b, off + i, none⟩ = some (.int .i64 (zs.getD i 0)))
    (wy : (Lit.int .i64 y).wf = true) (wm : (Lit.int .i64 m).wf = true) (wn : (Lit.int .i64 n).wf = true) :
    Calls Tryz.prog 6 #[.slice (some ⟨b, off, none⟩) zs.length cap, .int .i64 y, .int .i64 m, .int .i64 n] w fun e w' => e = .returned (.bool true) ∧ Grown w w' := by
  have key : Go.Ab.Pure Go.Ab.PP Go.Ab.LL 6 [.sl 3 (zs.map Go.Ab.iA), Go.Ab.iA y, Go.Ab.iA m, Go.Ab.iA n] (.bool true) := by
    by_cases c0 : 100 ≤ zs.length
    · exact Go.Ab.levels_out0 zs y m n c0
    by_cases c1 : n < m
    · exact Go.Ab.levels_out1 zs y m n (by omega) c1
    · exact Go.Ab.levels_in zs y m n (by omega) (by omega) (fun z h => (wf_wrap_i64 (hz z h)).2) (wf_wrap_i64 wy).2
  refine Go.Ab.calls_true Tryz.func6 (by rfl) rfl (key _ _) w ?_
  exact Go.Ab.rvl_sl (k := .i64) (e := 3) (zs := zs) (fun z h => (wf_wrap_i64 (hz z h)).1) hcap (by rw [show Go.Ab.PP.bytesOf 3 = 8 from bytes3]; exact hb) (by omega) cells3 hc (Go.Ab.rvl_int (wf_wrap_i64 wy).1 (Go.Ab.rvl_int (wf_wrap_i64 wm).1 (Go.Ab.rvl_int (wf_wrap_i64 wn).1 rfl)))

set_option maxRecDepth 100000 in
theorem lifted (os : Os) (started : os.Started) (H : Type) (enc : TypeId × Value → H) :
    ReturnsInHanded {} Tryz.checked os 6 .any (Rows.scoreLevelsSpec.pre6 enc Tryz.prog Tryz.f6 Rows.scoreLevelsRow.domain false) (Rows.scoreLevelsSpec.post enc Tryz.prog Tryz.f6 false true false false) := by
  refine returnsInHanded_of_change_sized (C := Tryz.checked) own started (by kernel_rfl) Tryz.func6
    (ChangeSpec.witness6 (enc := enc) (C := Tryz.checked) false ⟨#[], #[.slice none 0 0, .int .i64 0, .int .i64 0, .int .i64 0], []⟩ 8 (by kernel_rfl) (by kernel_rfl) (by kernel_rfl) (by kernel_rfl)) ?_
  intro W base args ds gs before hval0 hW hcnd hsz0 _
  have hsz : (DataW.weightsEach Tryz.prog (Tryz.f6.params.toList ++ Rows.scoreLevelsSpec.plain.varTypes Tryz.prog) (ds ++ gs)).all (· ≤ reachBytes) = true := hsz0
  clear hsz0
  have hval : ∀ (j : Nat) t v, Tryz.f6.params[j]? = some t → args[j]? = some v → Value.okWide Tryz.prog W .any base t v := hval0
  have hW' := hW
  obtain ⟨p, q, hA0, hV, rfl, hfz, hnd⟩ := hW
  have hA : DataW.TrodAll enc Tryz.prog W 0 (fun _ => true) true Tryz.f6.params.toList args.toList ds p := hA0
  rw [Tryz.params6] at hA hval hsz
  obtain ⟨v0, vs0, d0, ds0, p0, q0, hargs, rfl, rfl, h0, r0⟩ := trodAll_cons hA
  obtain ⟨v1, vs1, d1, ds1, p1, q1, rfl, rfl, rfl, h1, r1⟩ := trodAll_cons r0
  obtain ⟨v2, vs2, d2, ds2, p2, q2, rfl, rfl, rfl, h2, r2⟩ := trodAll_cons r1
  obtain ⟨v3, vs3, d3, ds3, p3, q3, rfl, rfl, rfl, h3, r3⟩ := trodAll_cons r2
  obtain ⟨rfl, rfl, rfl⟩ := trodAll_nil r3
  obtain rfl : args = #[v0, v1, v2, v3] := by cases args; simp_all
  obtain ⟨rfl, rfl⟩ := trodVars_none hV
  obtain ⟨a1, rfl, rfl, rfl, w1⟩ := open_int Tryz.underlying3 (hval 1 3 v1 rfl rfl) h1
  obtain ⟨a2, rfl, rfl, rfl, w2⟩ := open_int Tryz.underlying3 (hval 2 3 v2 rfl rfl) h2
  obtain ⟨a3, rfl, rfl, rfl, w3⟩ := open_int Tryz.underlying3 (hval 3 3 v3 rfl rfl) h3
  have hv0 := hval 0 22 v0 rfl rfl
  clear hA0 hval0
  simp only [List.append_nil] at hW'
  obtain ⟨ad, len, cap, rfl⟩ := okWide_slice Tryz.underlying22 hv0
  obtain ⟨fuel, hf⟩ := h0
  rcases open_ints Tryz.underlying22 Tryz.underlying3 cells3 hf with ⟨hcs, hx⟩ | ⟨a, len', cap', zs, hcs, hbb, hl, hm, hz, hx, hcell, hwz⟩
  · simp [Value.cells] at hcs
    obtain ⟨rfl, rfl, rfl⟩ := hcs
    simp only [Prod.mk.injEq] at hx
    obtain ⟨rfl, rfl⟩ := hx
    refine (walk_nil a1 a2 a3 w1 w2 w3 W).mono fun e W' ⟨he, hg⟩ => ?_
    subst he
    exact ⟨_, rfl, post_of_same (pa := []) (pv := []) hW' (fun _ _ _ => (trodAll_cons_mk (shut_bool Tryz.underlying4 _) trodAll_mk0)) (fun sp _ => (trodAll_cons_mk (shut_slice_nil Tryz.underlying22) (trodAll_cons_mk (shut_int Tryz.underlying3 w1) (trodAll_cons_mk (shut_int Tryz.underlying3 w2) (trodAll_cons_mk (shut_int Tryz.underlying3 w3) trodAll_mk0))))) (fun _ _ => rfl) rfl
      (hg.frame _) hg.2.1 (ok_one (by kernel_rfl) rfl (okWide_bool_mk Tryz.underlying4 _))⟩
  · simp [Value.cells] at hcs
    obtain ⟨rfl, rfl, rfl⟩ := hcs
    simp only [Prod.mk.injEq] at hx
    obtain ⟨rfl, rfl⟩ := hx
    simp only [if_true] at hz
    have hsp : a.spot = none := by
      simp only [Value.okWide, Cell.okWide, Cell.ok, Tryz.underlying22] at hv0
      exact hv0.2.2.2.1
    have hplain : ∀ i, a.add i = ⟨a.block, a.off + i, none⟩ := fun i => by
      unfold Addr.add
      split
      · rename_i h; subst h; cases a; simp_all
      · rfl
    have hreach := sized_slice hsz (j := 0) (t := 22) (e := 3) rfl rfl Tryz.underlying22
    rw [bytes3] at hreach
    have hlz : len ≤ zs.length := by omega
    have htl : (zs.take len).length = len := by simp; omega
    have hb8 : (zs.take len).length * 8 ≤ Go.Ab.maxBytes := by
      have h2 : (lits (H := H) .i64 (zs.take len)).length = len := by simp [lits]; omega
      rw [h2] at hreach
      unfold reachBytes at hreach
      unfold Go.Ab.maxBytes
      rw [htl]
      omega
    have key := walk a.block a.off cap (zs.take len) a1 a2 a3 W (fun z h => hwz z (List.mem_of_mem_take h)) (by omega) hb8 (fun i hi => by
      have h3 := hcell i (by omega)
      rw [hplain] at h3
      rw [h3, List.getD_eq_getElem?_getD, List.getD_eq_getElem?_getD, List.getElem?_take_of_lt (by omega)]) w1 w2 w3
    rw [htl] at key
    have ea : (some ⟨a.block, a.off, none⟩ : Option Addr) = some a := by cases a; simp_all
    rw [ea] at key
    refine key.mono fun e W' ⟨he, hg⟩ => ?_
    subst he
    have hkeep : ∀ i, i < zs.length → W'.cell? (a.add i) = some (.int .i64 (zs.getD i 0)) := fun i hi => by
      have h3 := hcell i hi
      have hlt : (a.add i).block < W.heap.size := by
        rcases Nat.lt_or_ge (a.add i).block W.heap.size with h | h
        · exact h
        · unfold World.cell? at h3; rw [Array.getElem?_eq_none h] at h3; cases h3
      obtain ⟨⟨_, _, hk⟩, _, _⟩ := hg
      have hk' := hk _ hlt
      unfold World.cell? at h3 ⊢
      cases h4 : W.heap[(a.add i).block]? with
      | none => rw [h4] at h3; cases h3
      | some o =>
        rw [h4] at h3 hk'
        cases o with
        | cells c t f =>
          cases h5 : W'.heap[(a.add i).block]? with
          | none => rw [h5] at hk'; cases hk'
          | some o' =>
            rw [h5] at hk'
            cases o' with
            | cells c' t' f' =>
              obtain ⟨_, _, _, hj⟩ := hk'
              simp only at h3 ⊢
              rw [hj _ (fun h => h)]; exact h3
            | _ => cases hk'
        | _ => cases h3
    exact ⟨_, rfl, post_of_same (pa := MemPlace.row a zs.length) (pv := []) hW' (fun _ _ _ => (trodAll_cons_mk (shut_bool Tryz.underlying4 _) trodAll_mk0)) (fun sp hs => by
        have hzz : zs.length = (if sp a.block then cap else len) := by
          by_cases h0 : cap = 0
          · split <;> omega
          · have h5 : sp a.block = true := hs (.cell a.block (a.off + 0)) (MemPlace.mem_row.2 ⟨0, by omega, rfl⟩)
            rw [h5]; exact hz
        have hT : DataW.Trod enc Tryz.prog W' 0 sp true 22 (.slice (some a) len cap) (.slice (lits .i64 (zs.take len)) (lits .i64 (zs.drop len))) (MemPlace.row a zs.length) :=
          ⟨0 + 2, shut_ints (enc := enc) (P := Tryz.prog) (w := W') (base := 0) (spare := sp) (held := true) 0 Tryz.underlying22 Tryz.underlying3 cells3 hbb hl hm hzz hkeep hwz⟩
        have e := trodAll_cons_mk hT (trodAll_cons_mk (shut_int Tryz.underlying3 w1) (trodAll_cons_mk (shut_int Tryz.underlying3 w2) (trodAll_cons_mk (shut_int Tryz.underlying3 w3) trodAll_mk0)))
        simp only [List.append_nil] at e
        exact e) (fun _ _ => rfl) (by simp)
      (hg.frame _) hg.2.1 (ok_one (by kernel_rfl) rfl (okWide_bool_mk Tryz.underlying4 _))⟩

theorem over : Rows.scoreLevelsRow.holds Tryz.pinned (OpenSpec.ofChange Rows.scoreLevelsSpec) :=
  OpenClaim.holds_of_wide 6 Tryz.f6 rfl rfl rfl rfl rfl rfl rfl ⟨rfl, rfl, rfl, rfl, rfl⟩ rfl rfl rfl rfl rfl (by kernel_rfl) Tryz.func6 (by kernel_rfl)
    (of_decide_eq_true (by kernel_rfl)) (by unfold Func.isWrapper; first | (rw [if_pos (by decide +kernel)]; kernel_rfl) | (rw [if_neg (by decide +kernel)]; exact ⟨rfl, rfl⟩))
    (fun os started H enc _ => lifted os started H enc)

/-- ████ THE STATEMENT ████ -/
theorem proved : Rows.ScoreLevelsSaid :=
  over
#print axioms proved
end Go.Proofs.YthfkhnoehehpmaaGreat.scoreLevels
