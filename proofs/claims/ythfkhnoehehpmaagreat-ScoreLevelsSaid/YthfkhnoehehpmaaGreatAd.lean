import Derived.Test.YthfkhnoehehpmaaGreatAc
import Derived.Laws.StructEq
set_option linter.unusedVariables false
set_option linter.unusedSimpArgs false
/- THE OPERATIONS, ONE BY ONE (second part). -/
namespace Go.Ab

theorem wrap_wrap (k : IntKind) (n : Int) : k.wrap (k.wrap n) = k.wrap n := by
  cases k <;> simp [IntKind.wrap, IntKind.bits, IntKind.signed]
  all_goals (by_cases h : ((2:Int) ^ 63 ≤ n % 18446744073709551616) <;> by_cases h1 : ((2:Int) ^ 31 ≤ n % 4294967296) <;> by_cases h2 : ((2:Int) ^ 15 ≤ n % 65536) <;> by_cases h3 : ((2:Int) ^ 7 ≤ n % 256) <;> simp_all <;> omega)

theorem wrap_iff (k : IntKind) (n : Int) : k.wrap n = n ↔ k.min ≤ n ∧ n ≤ k.max := by
  cases k <;> simp [IntKind.wrap, IntKind.bits, IntKind.signed, IntKind.min, IntKind.max]
  case i8 => by_cases h : ((2:Int) ^ 7 ≤ n % 256) <;> simp_all <;> omega
  case i16 => by_cases h : ((2:Int) ^ 15 ≤ n % 65536) <;> simp_all <;> omega
  case i32 => by_cases h : ((2:Int) ^ 31 ≤ n % 4294967296) <;> simp_all <;> omega
  case i64 => by_cases h : ((2:Int) ^ 63 ≤ n % 18446744073709551616) <;> simp_all <;> omega
  all_goals omega

theorem wrap_fdiv {k : IntKind} {m : Int} (h : k.wrap m = m) (j : Nat) : k.wrap (m.fdiv (2 ^ j)) = m.fdiv (2 ^ j) := by
  rw [wrap_iff] at h ⊢
  have hp : (0 : Int) < 2 ^ j := Int.pow_pos (by omega)
  rw [Int.fdiv_eq_ediv_of_nonneg _ (Int.le_of_lt hp)]
  by_cases hm : 0 ≤ m
  · have h1 := Int.ediv_nonneg hm (Int.le_of_lt hp)
    have h2 := Int.ediv_le_self (2 ^ j) hm
    refine ⟨?_, by omega⟩
    have : k.min ≤ 0 := by cases k <;> simp [IntKind.min, IntKind.bits, IntKind.signed]
    omega
  · have h1 : m ≤ m / 2 ^ j := by
      rw [Int.le_ediv_iff_mul_le hp]
      have : (1 : Int) ≤ 2 ^ j := hp
      have h0 : 0 ≤ (-m) * (2 ^ j - 1) := Int.mul_nonneg (by omega) (by omega)
      have e : (-m) * (2 ^ j - 1) = m - m * 2 ^ j := by rw [Int.mul_sub]; simp [Int.neg_mul]; omega
      omega
    have h2 : m / 2 ^ j < 0 := Int.ediv_neg_of_neg_of_pos (by omega) hp
    have : 0 ≤ k.max := by cases k <;> simp [IntKind.max, IntKind.bits, IntKind.signed]
    omega

theorem wrap_tmod {k : IntKind} {m : Int} (h : k.wrap m = m) (n : Int) : k.wrap (m.tmod n) = m.tmod n := by
  rw [wrap_iff] at h ⊢
  have h0 : k.min ≤ 0 := by cases k <;> simp [IntKind.min, IntKind.bits, IntKind.signed]
  have h9 : 0 ≤ k.max := by cases k <;> simp [IntKind.max, IntKind.bits, IntKind.signed]
  have ha : (m.tmod n).natAbs ≤ m.natAbs := by rw [Int.natAbs_tmod]; exact Nat.mod_le _ _
  by_cases hm : 0 ≤ m
  · have h1 := Int.tmod_nonneg n hm
    omega
  · have h1 := Int.tmod_nonneg n (a := -m) (by omega)
    rw [Int.neg_tmod] at h1
    omega

section
variable {P : Program} {L : Lay} {mine : Nat → Prop} {tm : Nat → Option A} {hp : Hp} {nx : Nat} {fr : Nat → Prop} {a : Act} {w : World} {ob : Nat → Option OI} {S : Nat → Prop}

theorem Good.pure1 (r : RS P L mine tm hp fr a.tmps w ob S) {y : A} {rd : List Nat} {n : Nat} {v : Value} {res : Result Next} (h : res = .ok (.value v) w) (hv : RV1 P w ob S y v) (hy : y.isTup = false) : Good P L hp nx w ob S ⟨y, [], rd, n⟩ res :=
  Good.pure r h ((RV.one fun vs e => by subst e; cases hy).2 hv)

theorem rv1_of {x : Operand} {y : A} (r : RS P L mine tm hp fr a.tmps w ob S) (h : evA tm x = some y) (hy : y.isTup = false) : RV1 P w ob S y (a.eval x) :=
  (RV.one fun vs e => by subst e; cases hy).1 (evA_rv r h)

theorem ev_int (r : RS P L mine tm hp fr a.tmps w ob S) {x : Operand} {k : IntKind} {n : Int} (h : evA tm x = some (.int k n)) : a.eval x = .int k n ∧ k.wrap n = n := RV1.int.1 (rv1_of r h rfl)

theorem ev_leaf (r : RS P L mine tm hp fr a.tmps w ob S) {x : Operand} {y : A} (h : evA tm x = some y) (ht : y.isTup = false) (hs : y.isSt = false) : RC P w ob S y [a.eval x] := (RV1.leaf (rv1_of r h ht) hs).2.1

theorem ev_bool (r : RS P L mine tm hp fr a.tmps w ob S) {x : Operand} {b : Bool} (h : evA tm x = some (.bool b)) : a.eval x = .bool b := by
  have := ev_leaf r h rfl rfl
  simpa [RC] using this

theorem ev_str (r : RS P L mine tm hp fr a.tmps w ob S) {x : Operand} {s : List UInt8} (h : evA tm x = some (.str s)) : a.eval x = .string ⟨s.toArray⟩ := by
  have := ev_leaf r h rfl rfl
  simpa [RC] using this

theorem good_store (hL : LOk P L) (r : RS P L mine tm hp fr a.tmps w ob S) {o : Oper} {t : TypeId} {x y : Operand} (ho : o.op = .store t x y) {c : Prop} {δ : Dl} (h : opv L (.store t x y) (evA tm) hp nx = some (c, δ)) (hc : c) :
    Good P L hp nx w ob S δ (runOp P a w o) := by
  simp only [opv] at h
  rw [Option.bind_eq_some_iff] at h; obtain ⟨d, hd, h⟩ := h
  split at h
  · rename_i o' ver p s hx
    rw [Option.bind_eq_some_iff] at h; obtain ⟨z, hz, h⟩ := h
    rw [Option.bind_eq_some_iff] at h; obtain ⟨v, hv, h⟩ := h
    rw [Option.bind_eq_some_iff] at h; obtain ⟨u, hu, h⟩ := h
    rw [Option.bind_eq_some_iff] at h; obtain ⟨q, hq, h⟩ := h
    cases h
    obtain ⟨c1, c2, c3, c4, c5, c6⟩ := hc
    obtain ⟨b, off, cl, oi, e1, e2, e3, e4, e5, e6⟩ := obj_part r hz c1 hu (rv1_of r hx rfl)
    have hrv := rv1_of r hv c3
    have hvl : (a.eval y).cells.toList.length = d.sh.width := by rw [← c4]; exact hrv.cells
    obtain ⟨oi', q1, q2, q3, q4⟩ := r.hp o' z hz
    rw [e4] at q1; cases q1
    obtain ⟨k1, k2, k3⟩ := q2
    simp only [e5] at k3
    obtain ⟨arr, tt, f1, f2⟩ := k3
    have hone := RC.one _ _ hrv.1
    -- the new world
    have hlen : off + (a.eval y).cells.toList.length ≤ arr.toList.length := by
      obtain ⟨arr', t', fz', g1, pre, post, g2, g3⟩ := e2
      rw [f1] at g1; cases g1
      have : cl.length = d.sh.width := by rw [← c5]; exact RC.len _ _ e3
      have hv2 : (a.eval y).cells.size = d.sh.width := hvl
      rw [g2]; simp; omega
    let arr2 : Array Value := (arr.toList.take off ++ (a.eval y).cells.toList ++ arr.toList.drop (off + (a.eval y).cells.toList.length)).toArray
    have hrun : (storeCells ⟨b, off, none⟩ (a.eval y).cells.toList).run P w = .ok () (w.setRow b arr2) := by
      have := run_storeCells_at (P := P) b off tt (a.eval y).cells.toList 0 arr w f1 (by simpa using hlen) hone
      simpa [arr2] using this
    have hext : Ext w ob S (w.setRow b arr2) ob S := by
      refine ⟨Nat.le_of_eq (by simp), fun b' hb' => ⟨hb', ?_⟩, fun o oi ho => ⟨oi, ho, Nat.le_refl _, fun _ => rfl⟩⟩
      exact setRow_other w arr2 fun e => (q3 c2 b e5).1 (e ▸ hb')
    have hnew : (w.setRow b arr2).heap[b]? = some (.cells arr2 tt (0, 0)) := setRow_heap w b arr arr2 tt (0, 0) f1
    obtain ⟨x', off', g1, g2, g3, g5, g4⟩ := upd_spec (P := P) (w := w) (ob := ob) (S := S) (w' := w.setRow b arr2) (S' := S) v p z.val u hu (c4.trans c5.symm)
    rw [hq] at g1; cases g1
    rw [e6] at g3; cases g3
    have hobj : RObj P L (w.setRow b arr2) ob S { z with val := q } oi := by
      refine ⟨k1, k2, ?_⟩
      simp only [e5]
      refine ⟨arr2, tt, hnew, ?_⟩
      cases he : z.e with
      | none =>
        simp only [he] at f2 ⊢
        obtain ⟨f3, f4⟩ := f2
        refine ⟨by rw [g2]; exact f3, ?_⟩
        exact (g4 arr.toList _ (fun x c => RC.mono hext x c) f4 (RC.mono hext _ _ hrv.1)).2
      | some e =>
        simp only [he] at f2 ⊢
        obtain ⟨xs, de, cl', rest, f3, f4, f5, f6, f7, f8, f9, f10, f11⟩ := f2
        have hp' := c6 (by simp [he])
        have f9' : RC P w ob S z.val cl' := by rw [f3]; exact f9
        obtain ⟨m1, m2⟩ := g4 cl' _ (fun x c => RC.mono hext x c) f9' (RC.mono hext _ _ hrv.1)
        have hst := g5 (by rw [f3]; rfl) hp'
        cases q with
        | st ys =>
          have hsh : A.shps ys = A.shps xs := by
            have := g2; rw [f3] at this; simpa [A.shp] using this
          have hlen2 : ys.length = xs.length := by simpa [A.shps_eq] using congrArg List.length hsh
          refine ⟨ys, de, _, rest, rfl, f4, fun y hy => ?_, f6, by omega, ?_, m2, ?_, by rw [hlen2]; exact f11.1, by rw [hlen2]; exact f11.2⟩
          · have : y.shp ∈ A.shps ys := by rw [A.shps_eq]; exact List.mem_map_of_mem hy
            rw [hsh, A.shps_eq] at this
            obtain ⟨x, hx, e⟩ := List.mem_map.1 this
            rw [← e]; exact f5 x hx
          · simp only [arr2, f8]
            rw [List.take_append_of_le_length (by omega), List.drop_append_of_le_length (by omega)]
            simp [List.append_assoc]
          · rw [← f10]
            simp only [arr2, List.size_toArray, List.length_append, List.length_take, List.length_drop, ← Array.length_toList]
            omega
        | _ => simp [A.isSt] at hst
    refine ⟨undef, w.setRow b arr2, ob, S, .inr ⟨?_, rfl⟩, ?_, ?_, ?_⟩
    · simp [runOp, execOp, ho, Instr.storeAt, e1, Instr.sureAddr, storeVar, run_sizeOf (hL t d hd), show (a.eval y).cells.size = d.sh.width from hvl, hrun]
    · refine does_write r ((Same.refl _).setRow _ _) hz c2 c2 e4 (by simp) (fun b' _ hb' => ?_) hobj
      exact setRow_other w arr2 fun e => hb' (e ▸ e5)
    · exact ⟨#[], rfl, rfl⟩
    · intro o2 y2 h2
      simp only [look_one] at h2
      split at h2
      · rename_i e; subst e; exact .inl ⟨z, hz, fun _ => c2⟩
      · cases h2
  · cases h

theorem good_nilCheck (r : RS P L mine tm hp fr a.tmps w ob S) {o : Oper} {x : Operand} (ho : o.op = .nilCheck x) {c : Prop} {δ : Dl} (h : opv L (.nilCheck x) (evA tm) hp nx = some (c, δ)) :
    Good P L hp nx w ob S δ (runOp P a w o) := by
  simp only [opv] at h
  split at h <;> try cases h
  · rename_i o' ver p s hx
    have h1 := rv1_of r hx rfl
    obtain ⟨oi, ad, k1, k2, k3, k4⟩ := (RV1.leaf h1 rfl).2.1
    simp only [List.cons.injEq, and_true] at k2
    exact Good.pure1 r (v := a.eval x) (by simp [runOp, execOp, ho, k2]) h1 rfl
  · rename_i v hx
    have h1 := rv1_of r hx rfl
    obtain ⟨b, off, cl, e1, _⟩ := (RV1.leaf h1 rfl).2.1
    simp at e1
    exact Good.pure1 r (v := a.eval x) (by simp [runOp, execOp, ho, e1]) h1 rfl
  · rename_i f p q hx
    have h1 := rv1_of r hx rfl
    obtain ⟨fa, ca, e1, _⟩ := (RV1.leaf h1 rfl).2.1
    simp at e1
    exact Good.pure1 r (v := a.eval x) (by simp [runOp, execOp, ho, e1]) h1 rfl

theorem good_unOp (r : RS P L mine tm hp fr a.tmps w ob S) {o : Oper} {op : UnOp} {t : TypeId} {x : Operand} (ho : o.op = .unOp op t x) {c : Prop} {δ : Dl} (h : opv L (.unOp op t x) (evA tm) hp nx = some (c, δ)) (hc : c) :
    Good P L hp nx w ob S δ (runOp P a w o) := by
  simp only [opv] at h
  split at h <;> try cases h
  · rename_i b hx
    exact Good.pure1 r (v := .bool (!b)) (by simp [runOp, execOp, ho, ev_bool r hx, Op.unary]) ⟨by simp [RC, Value.cells], by simp [A.isSt]⟩ rfl
  · rename_i k n hx
    exact Good.pure1 r (v := .int k (k.wrap (0 - n))) (by simp [runOp, execOp, ho, (ev_int r hx).1, Op.unary, Op.intArith]) (RV1.int.2 ⟨rfl, wrap_wrap _ _⟩) rfl
  · rename_i k n hx
    exact Good.pure1 r (v := .int k (k.wrap (BitVec.ofInt k.bits (if k.signed then -1 else k.max) ^^^ BitVec.ofInt k.bits n).toNat)) (by simp [runOp, execOp, ho, (ev_int r hx).1, Op.unary, Op.intBits]) (RV1.int.2 ⟨rfl, wrap_wrap _ _⟩) rfl

end
end Go.Ab

/- THE OPERATIONS, ONE BY ONE (third part): conversions, addresses, parts. -/
namespace Go.Ab

theorem widths_replicate (n : Nat) (s : Sh) : Sh.widths (List.replicate n s) = n * s.width := by
  induction n with
  | zero => simp [Sh.widths]
  | succ n ih => simp [List.replicate_succ, Sh.widths, ih, Nat.succ_mul]; omega

theorem offs_snoc : ∀ (p : List Nat) (s : Sh) (off : Nat) (l : List Sh) (k : Nat) (z : Sh), s.offs p = some off → s.sub p = some (.node l) → l[k]? = some z →
    s.offs (p ++ [k]) = some (off + Sh.widths (l.take k)) ∧ s.sub (p ++ [k]) = some z
  | [], s, off, l, k, z, h1, h2, h3 => by
    have e1 : off = 0 := by cases s <;> simp [Sh.offs] at h1 <;> exact h1.symm
    have e2 : s = .node l := by cases s <;> simp [Sh.sub] at h2 <;> simp [h2]
    subst e1; subst e2
    simp only [List.nil_append, Sh.offs, Sh.sub, h3, Nat.zero_add]
    constructor
    · cases z <;> simp [Sh.offs]
    · cases z <;> simp [Sh.sub]
  | i :: p, s, off, l, k, z, h1, h2, h3 => by
    cases s with
    | leaf => simp [Sh.offs] at h1
    | node m =>
      simp only [Sh.offs, Sh.sub, List.cons_append] at h1 h2 ⊢
      cases hi : m[i]? with
      | none => simp [hi] at h1
      | some y =>
        simp only [hi] at h1 h2 ⊢
        cases ho : y.offs p with
        | none => simp [ho] at h1
        | some off' =>
          simp only [ho, Option.map_some, Option.some.injEq] at h1
          obtain ⟨q1, q2⟩ := offs_snoc p y off' l k z ho h2 h3
          rw [q1, q2]
          simp [← h1]; omega

section
variable {P : Program} {L : Lay} {mine : Nat → Prop} {tm : Nat → Option A} {hp : Hp} {nx : Nat} {fr : Nat → Prop} {a : Act} {w : World} {ob : Nat → Option OI} {S : Nat → Prop}

theorem add_zero_addr (b off k : Nat) : ((⟨b, off, none⟩ : Addr).add k) = ⟨b, off + k, none⟩ := by unfold Addr.add; split <;> simp_all

/-- a pointer of the latest version, taken apart -/
theorem ptr_now (r : RS P L mine tm hp fr a.tmps w ob S) {o ver : Nat} {p : List Nat} {s : Sh} {x : Ob} {v : Value} (hx : hp o = some x) (hver : x.ver = ver) (hv : RV1 P w ob S (.ptr o ver p s) v) :
    ∃ oi b off, ob o = some oi ∧ oi.ver = ver ∧ oi.blk = some b ∧ oi.sh.offs p = some off ∧ oi.sh.sub p = some s ∧ v = .pointer (some ⟨b, off, none⟩) := by
  obtain ⟨oi, ad, k1, k2, k4, k5⟩ := (RV1.leaf hv rfl).2.1
  simp only [List.cons.injEq, and_true] at k2
  obtain ⟨oi', q1, q2, -⟩ := r.hp o x hx
  rw [k1] at q1; cases q1
  obtain ⟨b, off, e1, e2, e3, e4⟩ := k5 (q2.1.trans hver)
  exact ⟨oi, b, off, k1, q2.1.trans hver, e1, e2, e3, by rw [k2, e4]⟩

theorem rv1_ptr {o ver b off : Nat} {p : List Nat} {s : Sh} {oi : OI} (h1 : ob o = some oi) (h2 : oi.ver = ver) (h3 : oi.blk = some b) (h4 : oi.sh.offs p = some off) (h5 : oi.sh.sub p = some s) :
    RV1 P w ob S (.ptr o ver p s) (.pointer (some ⟨b, off, none⟩)) :=
  RV1.of_leaf ⟨oi, _, h1, rfl, by omega, fun _ => ⟨b, off, h3, h4, h5, rfl⟩⟩ rfl

theorem run_sub {b off : Nat} {pre c post : List Value} (h : World.run w b off (pre ++ c ++ post)) : World.run w b (off + pre.length) c := by
  obtain ⟨arr, t, fz, h1, q, r, h2, h3⟩ := h
  exact ⟨arr, t, fz, h1, q ++ pre, post ++ r, by simp [h2], by simp [h3]⟩

theorem iptr_now {x : A} {v : Value} (h : RV1 P w ob S (.iptr x) v) : ∃ b off cl, v = .pointer (some ⟨b, off, none⟩) ∧ S b ∧ World.run w b off cl ∧ RC P w ob S x cl := by
  obtain ⟨b, off, cl, e1, e2⟩ := (RV1.leaf h rfl).2.1
  simp at e1
  exact ⟨b, off, cl, e1, e2⟩

theorem rv1_iptr {x : A} {b off : Nat} {cl : List Value} (h1 : S b) (h2 : World.run w b off cl) (h3 : RC P w ob S x cl) : RV1 P w ob S (.iptr x) (.pointer (some ⟨b, off, none⟩)) :=
  RV1.of_leaf ⟨b, off, cl, rfl, h1, h2, h3⟩ rfl

/-- a pointer to a part of what is read -/
theorem iptr_sub {x y : A} {k : Nat} {v : Value} (h : RV1 P w ob S (.iptr x) v) (hy : x.sub [k] = some y) :
    ∃ b off d, v = .pointer (some ⟨b, off, none⟩) ∧ x.shp.offs [k] = some d ∧ RV1 P w ob S (.iptr y) (.pointer (some ⟨b, off + d, none⟩)) := by
  obtain ⟨b, off, cl, e1, e2, e3, e4⟩ := iptr_now h
  obtain ⟨d, g1, g2, g3⟩ := sub_spec (P := P) (w := w) (ob := ob) (S := S) [k] x y hy
  obtain ⟨pre, c, post, h1, h2, h3⟩ := g3 cl e4
  subst h1
  refine ⟨b, off, d, e1, g1, ?_⟩
  rw [← h2]
  exact rv1_iptr e2 (run_sub e3) h3

theorem good_fieldAddr (hL : LOk P L) (r : RS P L mine tm hp fr a.tmps w ob S) {o : Oper} {t : TypeId} {x : Operand} {k : Nat} (ho : o.op = .fieldAddr t x k) {c : Prop} {δ : Dl} (h : opv L (.fieldAddr t x k) (evA tm) hp nx = some (c, δ)) (hc : c) :
    Good P L hp nx w ob S δ (runOp P a w o) := by
  simp only [opv] at h
  rw [Option.bind_eq_some_iff] at h; obtain ⟨d, hd, h⟩ := h
  split at h
  case h_2 => cases h
  rename_i fts hk
  rw [Option.bind_eq_some_iff] at h; obtain ⟨ft, hft, h⟩ := h
  rw [Option.bind_eq_some_iff] at h; obtain ⟨df, hdf, h⟩ := h
  have hu := (hL t d hd).und
  simp only [hk] at hu
  obtain ⟨fs, shs, u1, u2, u3, u4, u5⟩ := hu
  obtain ⟨df', f, v1, v2, v3, v4, v5⟩ := u5 k ft hft
  rw [hdf] at v1; cases v1
  have hp0 := (hL ft df hdf).pos
  have hfp : ∀ b off, (fieldPlace ⟨b, off, none⟩ f).run P w = .ok ⟨b, off + f.offset, none⟩ w := fun b off => by
    simp [fieldPlace, v4, run_sizeOf (hL ft df hdf), Nat.ne_of_gt hp0, add_zero_addr]
  split at h <;> try cases h
  · rename_i o' ver p s hx
    rw [Option.bind_eq_some_iff] at h; obtain ⟨z, hz, h⟩ := h
    cases h
    obtain ⟨c1, c2⟩ := hc
    subst c2
    obtain ⟨oi, b, off, e1, e2, e3, e4, e5, e6⟩ := ptr_now r hz c1 (rv1_of r hx rfl)
    rw [u2] at e5
    obtain ⟨q1, q2⟩ := offs_snoc p oi.sh off shs k df.sh e4 e5 v2
    refine Good.pure1 r (v := .pointer (some ⟨b, off + f.offset, none⟩)) (by simp [runOp, execOp, ho, Instr.fieldAt, run_underlying u1, v3, e6, Instr.sureAddr, hfp]) ?_ rfl
    rw [v5]
    exact rv1_ptr e1 e2 e3 q1 q2
  · rename_i y hx
    rw [Option.bind_eq_some_iff] at h; obtain ⟨z, hz, h⟩ := h
    cases h
    obtain ⟨b, off, dd, e1, e2, e3⟩ := iptr_sub (rv1_of r hx rfl) hz
    have : dd = f.offset := by
      rw [hc, u2] at e2
      simp only [Sh.offs, v2] at e2
      have e0 : df.sh.offs [] = some 0 := by cases df.sh <;> rfl
      rw [v5]; simpa [e0] using e2.symm
    subst this
    exact Good.pure1 r (v := .pointer (some ⟨b, off + f.offset, none⟩)) (by simp [runOp, execOp, ho, Instr.fieldAt, run_underlying u1, v3, e1, Instr.sureAddr, hfp]) e3 rfl

/-- a part of a value's cells -/
theorem part_of (hL : LOk P L) {x y : A} {k : Nat} {v : Value} {t : TypeId} {d : TD} (hd : L t = some d) (h : RV1 P w ob S x v) (hy : x.sub [k] = some y) (hs : y.shp = d.sh) :
    ∃ c off, v = .agg c ∧ x.shp.offs [k] = some off ∧ (part t c off).run P w = .ok (mkVal y.shp.isNode ((c.toList.drop off).take y.shp.width)) w ∧ RV1 P w ob S y (mkVal y.shp.isNode ((c.toList.drop off).take y.shp.width)) := by
  have hst : x.isSt = true := by cases x <;> simp [A.sub] at hy; rfl
  obtain ⟨c, rfl⟩ := h.2.1 hst
  obtain ⟨off, g1, g2, g3⟩ := sub_spec (P := P) (w := w) (ob := ob) (S := S) [k] x y hy
  obtain ⟨pre, cc, post, h1, h2, h3⟩ := g3 _ h.1
  have hcl := RC.len _ _ h3
  have e : (c.toList.drop off).take y.shp.width = cc := by
    have : c.toList = pre ++ (cc ++ post) := by simpa [Value.cells] using h1
    rw [this, ← h2, List.drop_left, ← hcl, List.take_left]
  refine ⟨c, off, rfl, g1, ?_, by rw [e]; exact RV1.mk h3⟩
  rw [e]
  simp only [part, Sem.run_bind, run_isAgg (hL t d hd), Result.andThen_ok, ← hs]
  cases hn : y.shp.isNode with
  | true =>
    simp only [if_true, Sem.run_bind, run_sizeOf (hL t d hd), Result.andThen_ok, ← hs]
    have : c.extract off (off + y.shp.width) = cc.toArray := by
      apply Array.ext'
      simp only [Array.toList_extract]
      rw [← e]
      simp [List.extract_eq_take_drop]
    simp [this, mkVal]
  | false =>
    have hleaf : y.isSt = false := by rw [← shp_isNode]; exact hn
    obtain ⟨u, q1, -⟩ := RC.leaf h3 hleaf
    have : c[off]? = some u := by
      have hc2 : c.toList = pre ++ (cc ++ post) := by simpa [Value.cells] using h1
      rw [← Array.getElem?_toList, hc2, ← h2, List.getElem?_append_right (by omega)]
      simp [q1]
    simp [this, mkVal, q1]

theorem good_field (hL : LOk P L) (r : RS P L mine tm hp fr a.tmps w ob S) {o : Oper} {t : TypeId} {x : Operand} {k : Nat} (ho : o.op = .field t x k) {c : Prop} {δ : Dl} (h : opv L (.field t x k) (evA tm) hp nx = some (c, δ)) (hc : c) :
    Good P L hp nx w ob S δ (runOp P a w o) := by
  simp only [opv] at h
  rw [Option.bind_eq_some_iff] at h; obtain ⟨d, hd, h⟩ := h
  split at h
  case h_2 => cases h
  rename_i fts hk
  rw [Option.bind_eq_some_iff] at h; obtain ⟨ft, hft, h⟩ := h
  rw [Option.bind_eq_some_iff] at h; obtain ⟨df, hdf, h⟩ := h
  rw [Option.bind_eq_some_iff] at h; obtain ⟨y, hy, h⟩ := h
  rw [Option.bind_eq_some_iff] at h; obtain ⟨z, hz, h⟩ := h
  cases h
  have hu := (hL t d hd).und
  simp only [hk] at hu
  obtain ⟨fs, shs, u1, u2, u3, u4, u5⟩ := hu
  obtain ⟨df', f, v1, v2, v3, v4, v5⟩ := u5 k ft hft
  rw [hdf] at v1; cases v1
  have hyt : y.isTup = false := by cases y <;> simp [A.sub] at hz; rfl
  have hzsh : z.shp = df.sh := by
    obtain ⟨off, g1, g2, -⟩ := sub_spec (P := P) (w := w) (ob := ob) (S := S) [k] y z hz
    rw [hc, u2] at g2
    simp only [Sh.sub, v2] at g2
    exact (Option.some.inj g2).symm
  obtain ⟨cc, off, e1, e2, e3, e4⟩ := part_of hL hdf (rv1_of r hy hyt) hz hzsh
  have : off = f.offset := by
    rw [hc, u2] at e2
    simp only [Sh.offs, v2] at e2
    have e0 : df.sh.offs [] = some 0 := by cases df.sh <;> rfl
    rw [v5]; simpa [e0] using e2.symm
  subst this
  have hzt : z.isTup = false := by cases z <;> first | rfl | exact e4.1.elim
  exact Good.pure1 r (by simp [runOp, execOp, ho, Instr.field, run_underlying u1, v3, e1, asAgg, v4, e3]) e4 hzt

theorem good_index (hL : LOk P L) (r : RS P L mine tm hp fr a.tmps w ob S) {o : Oper} {t : TypeId} {x i : Operand} (ho : o.op = .index t x i) {c : Prop} {δ : Dl} (h : opv L (.index t x i) (evA tm) hp nx = some (c, δ)) (hc : c) :
    Good P L hp nx w ob S δ (runOp P a w o) := by
  simp only [opv] at h
  rw [Option.bind_eq_some_iff] at h; obtain ⟨d, hd, h⟩ := h
  split at h
  case h_2 => cases h
  rename_i k n hi
  split at h
  case h_3 => cases h
  case h_2 hk =>
    split at h
    · rename_i s hx
      rw [Option.bind_eq_some_iff] at h; obtain ⟨b, hb, h⟩ := h
      cases h
      have hu := (hL t d hd).und
      simp only [hk] at hu
      have e1 : a.eval x = .string ⟨s.toArray⟩ := by
        have := (RV1.leaf (rv1_of r hx rfl) rfl).2.1
        simpa [RC] using this
      have hlt := (List.getElem?_eq_some_iff.1 hb).1
      have hb2 : (if 0 ≤ n then (ByteArray.mk s.toArray)[n.toNat]? else none) = some b := by
        rw [if_pos hc]
        have hsz : n.toNat < (ByteArray.mk s.toArray).size := by simpa [ByteArray.size] using hlt
        rw [getElem?_pos (ByteArray.mk s.toArray) n.toNat hsz]
        exact congrArg some (List.getElem?_eq_some_iff.1 hb).2
      refine Good.pure1 r (v := .int .u8 b.toNat) ?_ (RV1.int.2 ⟨rfl, ?_⟩) rfl
      · simp only [runOp, execOp, ho, Instr.index, (ev_int r hi).1, asIntOf, Sem.run_bind, Sem.run_pure, Result.andThen_ok, run_underlying hu.1, e1, hb2]
      · have := b.toNat_lt
        simp [IntKind.wrap, IntKind.bits, IntKind.signed]; omega
    · cases h
  rename_i m e hk
  rw [Option.bind_eq_some_iff] at h; obtain ⟨y, hy, h⟩ := h
  rw [Option.bind_eq_some_iff] at h; obtain ⟨z, hz, h⟩ := h
  cases h
  obtain ⟨c1, c2, c3⟩ := hc
  have hu := (hL t d hd).und
  simp only [hk] at hu
  obtain ⟨u1, de, u2, u3⟩ := hu
  have hyt : y.isTup = false := by cases y <;> simp [A.sub] at hz; rfl
  have hnm : n.toNat < m := by omega
  have hzsh : z.shp = de.sh := by
    obtain ⟨off, g1, g2, -⟩ := sub_spec (P := P) (w := w) (ob := ob) (S := S) [n.toNat] y z hz
    rw [c3, u3] at g2
    simp only [Sh.sub, List.getElem?_replicate, hnm, if_true] at g2
    exact (Option.some.inj g2).symm
  obtain ⟨cc, off, e1, e2, e3, e4⟩ := part_of hL u2 (rv1_of r hy hyt) hz hzsh
  have : off = n.toNat * de.sh.width := by
    rw [c3, u3] at e2
    simp only [Sh.offs, List.getElem?_replicate, hnm, if_true] at e2
    have e0 : de.sh.offs [] = some 0 := by cases de.sh <;> rfl
    simp only [e0, Option.map_some, Nat.add_zero, Option.some.injEq, List.take_replicate, widths_replicate] at e2
    rw [← e2, Nat.min_eq_left (by omega)]
  subst this
  have hzt : z.isTup = false := by cases z <;> first | rfl | exact e4.1.elim
  refine Good.pure1 r ?_ e4 hzt
  simp [runOp, execOp, ho, Instr.index, (ev_int r hi).1, asIntOf, run_underlying u1, e1, c1, c2, run_sizeOf (hL e de u2), e3]

end
end Go.Ab

/- THE OPERATIONS, ONE BY ONE (fourth part): addresses of elements, conversions, closures. -/
namespace Go.Ab
section
variable {P : Program} {L : Lay} {mine : Nat → Prop} {tm : Nat → Option A} {hp : Hp} {nx : Nat} {fr : Nat → Prop} {a : Act} {w : World} {ob : Nat → Option OI} {S : Nat → Prop}

/-- a slice of one's own of the latest version, taken apart -/
theorem own_now (r : RS P L mine tm hp fr a.tmps w ob S) {o ver off len : Nat} {x : Ob} {v : Value} (hx : hp o = some x) (hver : x.ver = ver) (hv : RV1 P w ob S (.own o ver off len) v) :
    ∃ oi e ad cap, ob o = some oi ∧ oi.ver = ver ∧ oi.e = some e ∧ x.e = some e ∧ v = .slice ad len cap ∧ len ≤ maxBytes ∧ RObj P L w ob S x oi ∧
      match oi.blk with
      | none => ad = none ∧ off = 0 ∧ len = 0 ∧ cap = 0
      | some b => off + cap = oi.cap ∧ len ≤ cap ∧ (cap = 0 ∨ ad = some ⟨b, off * esz P e, none⟩) := by
  obtain ⟨oi, ad, cap, k1, k2, k3, k4, k5⟩ := (RV1.leaf hv rfl).2.1
  simp only [List.cons.injEq, and_true] at k2
  obtain ⟨oi', q1, q2, -⟩ := r.hp o x hx
  rw [k1] at q1; cases q1
  obtain ⟨e, e1, e2⟩ := k5 (q2.1.trans hver)
  exact ⟨oi, e, ad, cap, k1, q2.1.trans hver, e1, by rw [← q2.2.1, e1], k2, k3, q2, e2⟩

theorem ev_own_len (r : RS P L mine tm hp fr a.tmps w ob S) {x : Operand} {o ver off len : Nat} (h : evA tm x = some (.own o ver off len)) : ∃ ad cap, a.eval x = .slice ad len cap ∧ len ≤ maxBytes := by
  obtain ⟨oi, ad, cap, k1, k2, k3, -⟩ := (RV1.leaf (rv1_of r h rfl) rfl).2.1
  simp only [List.cons.injEq, and_true] at k2
  exact ⟨ad, cap, k2, k3⟩

theorem ev_sl (r : RS P L mine tm hp fr a.tmps w ob S) {x : Operand} {e : TypeId} {xs : List A} (h : evA tm x = some (.sl e xs)) :
    ∃ ad cap, a.eval x = .slice ad xs.length cap ∧ xs.length ≤ cap ∧ (xs.length * eby P e ≤ maxBytes ∧ xs.length ≤ maxBytes) ∧ (∀ y ∈ xs, y.shp.width = esz P e) ∧ (xs = [] ∨ ∃ b off cl, ad = some ⟨b, off, none⟩ ∧ S b ∧ World.run w b off cl ∧ RCs P w ob S xs cl) := by
  obtain ⟨ad, cap, k1, k2, k3, k0, k4, k5⟩ := (RV1.leaf (rv1_of r h rfl) rfl).2.1
  simp only [List.cons.injEq, and_true] at k1
  exact ⟨ad, cap, k1, k2, ⟨k3, k0⟩, k4, k5⟩

/-- elements of one width: the i-th stands i widths behind -/
theorem elem_at {e : Nat} : ∀ (xs : List A) (cl : List Value) (i : Nat) (y : A), RCs P w ob S xs cl → (∀ y ∈ xs, y.shp.width = e) → xs[i]? = some y →
    ∃ pre c post, cl = pre ++ c ++ post ∧ pre.length = i * e ∧ RC P w ob S y c
  | [], _, i, y, _, _, h => by simp at h
  | x :: xs, cl, 0, y, h, hw, hy => by
    simp at hy; subst hy
    obtain ⟨c, d, h1, h2, h3⟩ := h
    exact ⟨[], c, d, by simp [h1], by simp, h2⟩
  | x :: xs, cl, i + 1, y, h, hw, hy => by
    obtain ⟨c, d, h1, h2, h3⟩ := h
    simp at hy
    obtain ⟨pre, cc, post, q1, q2, q3⟩ := elem_at xs d i y h3 (fun z hz => hw z (by simp [hz])) hy
    refine ⟨c ++ pre, cc, post, by simp [h1, q1], ?_, q3⟩
    rw [List.length_append, q2, RC.len _ _ h2, hw x (by simp), Nat.succ_mul, Nat.add_comm]

theorem good_indexAddr (hL : LOk P L) (r : RS P L mine tm hp fr a.tmps w ob S) {o : Oper} {t : TypeId} {x i : Operand} (ho : o.op = .indexAddr t x i) {c : Prop} {δ : Dl} (h : opv L (.indexAddr t x i) (evA tm) hp nx = some (c, δ)) (hc : c) :
    Good P L hp nx w ob S δ (runOp P a w o) := by
  simp only [opv] at h
  rw [Option.bind_eq_some_iff] at h; obtain ⟨d, hd, h⟩ := h
  split at h
  case h_2 => cases h
  rename_i k n hi
  have hu := (hL t d hd).und
  have hin := (ev_int r hi).1
  split at h
  · rename_i e o' ver off len hk hx
    simp only [hk] at hu
    obtain ⟨u1, -⟩ := hu
    rw [Option.bind_eq_some_iff] at h; obtain ⟨de, hde, h⟩ := h
    rw [Option.bind_eq_some_iff] at h; obtain ⟨z, hz, h⟩ := h
    cases h
    obtain ⟨c1, c2, c3, c4⟩ := hc
    obtain ⟨oi, e', ad, cap, e1, e2, e3, e4, e5, e6, e7, e8⟩ := own_now r hz c1 (rv1_of r hx rfl)
    rw [c2] at e4; cases e4
    cases hb : oi.blk with
    | none => simp only [hb] at e8; omega
    | some b =>
      simp only [hb] at e8
      have e8' : ad = some ⟨b, off * esz P e, none⟩ ∧ off + cap = oi.cap ∧ len ≤ cap := by
        obtain ⟨q1, q2, q3⟩ := e8
        rcases q3 with q3 | q3
        · omega
        · exact ⟨q3, q1, q2⟩
      obtain ⟨f1, f2, f3⟩ := e8'
      have hsh : oi.sh = .node (List.replicate oi.cap de.sh) := by
        obtain ⟨-, -, q⟩ := e7
        simp only [hb, c2] at q
        obtain ⟨arr, tt, g1, xs, de', cl, rest, g2, g3, g4, g5, g6⟩ := q
        rw [hde] at g3; cases g3; exact g5
      have hez := esz_eq (hL e de hde)
      refine Good.pure1 r (v := .pointer (some ⟨b, (off + n.toNat) * de.sh.width, none⟩)) ?_ ?_ rfl
      · have : off * de.sh.width + n.toNat * de.sh.width = (off + n.toNat) * de.sh.width := by rw [Nat.add_mul]
        simp [runOp, execOp, ho, Instr.indexAt, hin, asIntOf, run_underlying u1, e5, f1, c3, c4, run_sizeOf (hL e de hde), add_zero_addr, hez, this]
      · refine rv1_ptr e1 e2 hb ?_ ?_
        · rw [hsh]
          have hlt : off + n.toNat < oi.cap := by omega
          simp [Sh.offs, List.getElem?_replicate, hlt, List.take_replicate, widths_replicate, Nat.min_eq_left (Nat.le_of_lt hlt)]
        · rw [hsh]
          have hlt : off + n.toNat < oi.cap := by omega
          simp [Sh.sub, List.getElem?_replicate, hlt]
  · rename_i e e' xs hk hx
    simp only [hk] at hu
    obtain ⟨u1, -⟩ := hu
    rw [Option.bind_eq_some_iff] at h; obtain ⟨de, hde, h⟩ := h
    rw [Option.bind_eq_some_iff] at h; obtain ⟨y, hy, h⟩ := h
    cases h
    obtain ⟨c1, c2⟩ := hc
    subst c1
    obtain ⟨ad, cap, e1, e2, e3, e4, e5⟩ := ev_sl r hx
    have hlt : n.toNat < xs.length := (List.getElem?_eq_some_iff.1 hy).1
    rcases e5 with e5 | ⟨b, off, cl, f1, f2, f3, f4⟩
    · rw [e5] at hlt; simp at hlt
    · obtain ⟨pre, cc, post, g1, g2, g3⟩ := elem_at xs cl n.toNat y f4 e4 hy
      rw [esz_eq (hL e de hde)] at g2
      subst g1
      have hi' : n < xs.length := by omega
      refine Good.pure1 r (v := .pointer (some ⟨b, off + n.toNat * de.sh.width, none⟩)) ?_ (by rw [← g2]; exact rv1_iptr f2 (run_sub f3) g3) rfl
      simp [runOp, execOp, ho, Instr.indexAt, hin, asIntOf, run_underlying u1, e1, f1, c2, hi', run_sizeOf (hL e de hde), add_zero_addr]
  · rename_i m e o' ver p s hk hx
    simp only [hk] at hu
    obtain ⟨u1, de, u2, u3⟩ := hu
    rw [Option.bind_eq_some_iff] at h; obtain ⟨de', hde, h⟩ := h
    rw [u2] at hde; cases hde
    rw [Option.bind_eq_some_iff] at h; obtain ⟨z, hz, h⟩ := h
    cases h
    obtain ⟨c1, c2, c3, c4⟩ := hc
    subst c4
    obtain ⟨oi, b, off, e1, e2, e3, e4, e5, e6⟩ := ptr_now r hz c1 (rv1_of r hx rfl)
    rw [u3] at e5
    have hlt : n.toNat < m := by omega
    obtain ⟨q1, q2⟩ := offs_snoc p oi.sh off _ n.toNat de.sh e4 e5 (by simp [List.getElem?_replicate, hlt])
    rw [List.take_replicate, widths_replicate, Nat.min_eq_left (Nat.le_of_lt hlt)] at q1
    refine Good.pure1 r (v := .pointer (some ⟨b, off + n.toNat * de.sh.width, none⟩)) ?_ (rv1_ptr e1 e2 e3 q1 q2) rfl
    simp [runOp, execOp, ho, Instr.indexAt, hin, asIntOf, run_underlying u1, e6, Instr.sureAddr, c2, c3, run_sizeOf (hL e de u2), add_zero_addr]
  · rename_i m e y hk hx
    simp only [hk] at hu
    obtain ⟨u1, de, u2, u3⟩ := hu
    rw [Option.bind_eq_some_iff] at h; obtain ⟨z, hz, h⟩ := h
    cases h
    obtain ⟨c2, c3, c4⟩ := hc
    obtain ⟨b, off, dd, e1, e2, e3⟩ := iptr_sub (rv1_of r hx rfl) hz
    have hlt : n.toNat < m := by omega
    have : dd = n.toNat * de.sh.width := by
      rw [c4, u3] at e2
      simp only [Sh.offs, List.getElem?_replicate, hlt, if_true, List.take_replicate, widths_replicate, Nat.min_eq_left (Nat.le_of_lt hlt), Option.map_some, Nat.add_zero, Option.some.injEq] at e2
      exact e2.symm
    subst this
    refine Good.pure1 r (v := .pointer (some ⟨b, off + n.toNat * de.sh.width, none⟩)) ?_ e3 rfl
    simp [runOp, execOp, ho, Instr.indexAt, hin, asIntOf, run_underlying u1, e1, Instr.sureAddr, c2, c3, run_sizeOf (hL e de u2), add_zero_addr]
  · cases h

theorem rvl_get : ∀ {vs : List A} {us : List Value} {k : Nat} {y : A}, RVl P w ob S vs us → vs[k]? = some y → ∃ u, us[k]? = some u ∧ RV1 P w ob S y u
  | [], _, k, y, _, h => by simp at h
  | x :: vs, us, 0, y, h, hy => by
    simp at hy; subst hy
    obtain ⟨v, us', h1, h2, h3, h4⟩ := h
    exact ⟨v, by simp [h1], h2, h3⟩
  | x :: vs, us, k + 1, y, h, hy => by
    obtain ⟨v, us', h1, h2, h3, h4⟩ := h
    simp at hy
    obtain ⟨u, q1, q2⟩ := rvl_get h4 hy
    exact ⟨u, by simp [h1, q1], q2⟩

theorem good_extract (r : RS P L mine tm hp fr a.tmps w ob S) {o : Oper} {x : Operand} {k : Nat} (ho : o.op = .extract x k) {c : Prop} {δ : Dl} (h : opv L (.extract x k) (evA tm) hp nx = some (c, δ)) :
    Good P L hp nx w ob S δ (runOp P a w o) := by
  simp only [opv] at h
  split at h
  · rename_i vs hx
    rw [Option.bind_eq_some_iff] at h; obtain ⟨y, hy, h⟩ := h
    cases h
    obtain ⟨arr, e1, e2⟩ := evA_rv r hx
    obtain ⟨u, q1, q2⟩ := rvl_get e2 hy
    have q1' : arr[k]? = some u := by simpa using q1
    have hyt : y.isTup = false := by cases y <;> first | rfl | exact q2.1.elim
    exact Good.pure1 r (v := u) (by simp [runOp, execOp, ho, Instr.extract, e1, q1']) q2 hyt
  · cases h

theorem evAs_rvl (r : RS P L mine tm hp fr a.tmps w ob S) : ∀ {l : List Operand} {vs : List A}, evAs tm l = some vs → (∀ v ∈ vs, v.isTup = false) → RVl P w ob S vs (l.map a.eval)
  | [], vs, h, _ => by simp [evAs] at h; subst h; rfl
  | x :: l, vs, h, ht => by
    simp only [evAs] at h
    split at h <;> try cases h
    rename_i v hv
    split at h <;> try cases h
    rename_i us hus
    obtain ⟨h1, h2⟩ := rv1_of r hv (ht v (by simp))
    exact ⟨_, _, rfl, h1, h2, evAs_rvl r hus (fun u hu => ht u (by simp [hu]))⟩

theorem good_makeFunc (r : RS P L mine tm hp fr a.tmps w ob S) {o : Oper} {f : Fn} {first caps : Array Operand} (ho : o.op = .makeFunc f first caps) {c : Prop} {δ : Dl} (h : opv L (.makeFunc f first caps) (evA tm) hp nx = some (c, δ)) (hc : c) :
    Good P L hp nx w ob S δ (runOp P a w o) := by
  simp only [opv] at h
  rw [Option.bind_eq_some_iff] at h; obtain ⟨fs, hfs, h⟩ := h
  rw [Option.bind_eq_some_iff] at h; obtain ⟨cs, hcs, h⟩ := h
  cases h
  obtain ⟨c1, c2⟩ := hc
  have h1 := evAs_rvl r (l := first.toList) hfs c1
  have h2 := evAs_rvl r (l := caps.toList) hcs c2
  refine Good.pure1 r (v := .func f (first.map a.eval) (caps.map a.eval)) (by simp [runOp, execOp, ho, Instr.makeFunc]) (RV1.of_leaf ⟨_, _, rfl, by simpa using h1, by simpa using h2⟩ rfl) rfl

theorem good_makeInterface (hL : LOk P L) (r : RS P L mine tm hp fr a.tmps w ob S) {o : Oper} {t : TypeId} {x : Operand} (ho : o.op = .makeInterface t x) {c : Prop} {δ : Dl} (h : opv L (.makeInterface t x) (evA tm) hp nx = some (c, δ)) (hc : c) :
    Good P L hp nx w ob S δ (runOp P a w o) := by
  simp only [opv] at h
  rw [Option.bind_eq_some_iff] at h; obtain ⟨d, hd, h⟩ := h
  rw [Option.bind_eq_some_iff] at h; obtain ⟨v, hv, h⟩ := h
  cases h
  obtain ⟨hc, hc2⟩ := hc
  obtain ⟨u, hu1, hu2⟩ : ∃ u, P.underlying t = some u ∧ ∀ ms, u ≠ .interface ms := by
    have hu := (hL t d hd).und
    cases hk : d.k <;> simp only [hk] at hu
    case other => exact absurd hk hc2
    all_goals first | (obtain ⟨hu, -⟩ := hu; exact ⟨_, hu, by simp⟩) | (obtain ⟨fs, shs, hu, -⟩ := hu; exact ⟨_, hu, by simp⟩)
  have hrv := rv1_of r hv hc
  refine Good.pure1 r (v := .iface t (a.eval x)) ?_ (RV1.of_leaf ⟨_, rfl, hrv.1, hrv.2⟩ rfl) rfl
  simp only [runOp, execOp, ho, Instr.makeInterface, Sem.run_bind, run_underlying hu1, Result.andThen_ok]
  cases u <;> simp_all

theorem RCs.take {n : Nat} {xs : List A} {cl : List Value} (h : RCs P w ob S xs cl) : ∃ c d, cl = c ++ d ∧ RCs P w ob S (xs.take n) c := by
  rw [← List.take_append_drop n xs] at h
  obtain ⟨c, d, h1, h2, h3⟩ := RCs.split h
  exact ⟨c, d, h1, h2⟩

theorem good_sliceToArrayPointer (hL : LOk P L) (r : RS P L mine tm hp fr a.tmps w ob S) {o : Oper} {t : TypeId} {x : Operand} (ho : o.op = .sliceToArrayPointer t x) {c : Prop} {δ : Dl} (h : opv L (.sliceToArrayPointer t x) (evA tm) hp nx = some (c, δ)) (hc : c) :
    Good P L hp nx w ob S δ (runOp P a w o) := by
  simp only [opv] at h
  rw [Option.bind_eq_some_iff] at h; obtain ⟨d, hd, h⟩ := h
  split at h <;> try cases h
  rename_i n e e' xs hk hx
  obtain ⟨c1, c2, c3⟩ := hc
  subst c1
  have hu := (hL t d hd).und
  simp only [hk] at hu
  obtain ⟨u1, -⟩ := hu
  obtain ⟨ad, cap, e1, e2, e3, e4, e5⟩ := ev_sl r hx
  rcases e5 with e5 | ⟨b, off, cl, f1, f2, f3, f4⟩
  · subst e5; simp at c2; omega
  · obtain ⟨cc, dd, g1, g2⟩ := RCs.take (n := n) f4
    subst g1
    have hn : ¬ xs.length < n := by omega
    refine Good.pure1 r (v := .pointer (some ⟨b, off, none⟩)) ?_ (rv1_iptr f2 (cl := cc) ?_ g2) rfl
    · simp [runOp, execOp, ho, Instr.arrayAt, run_underlying u1, e1, f1, hn]
    · have := run_sub (pre := []) (c := cc) (post := dd) (w := w) (b := b) (off := off) (by simpa using f3)
      simpa using this

theorem good_binInt {k : IntKind} (r : RS P L mine tm hp fr a.tmps w ob S) {o : Oper} {op : BinOp} {t t' : TypeId} {x y : Operand} (ho : o.op = .binOp op t x y t') {m n : Int} {k' : IntKind} (hx : evA tm x = some (.int k m)) (hy : evA tm y = some (.int k' n))
    {c : Prop} {v : A} (h : binA L op t (.int k m) (.int k' n) = some (c, v)) (hc : c) : Good P L hp nx w ob S ⟨v, [], [], 0⟩ (runOp P a w o) := by
  have e1 := ev_int r hx
  have e2 := ev_int r hy
  have hguard : ∀ w, (eqGuard op t x y (.int k m) (.int k' n)).run P w = .ok () w := fun w => by unfold eqGuard; split <;> simp
  cases op <;> simp only [binA, Option.some.injEq, Prod.mk.injEq, reduceCtorEq] at h <;> obtain ⟨rfl, rfl⟩ := h
  case shl => exact Good.pure1 r (v := .int k (k.wrap (m * 2 ^ (min n.toNat k.bits)))) (by simp [runOp, execOp, ho, e1.1, e2.1, hguard, binOp, Op.shift, Int.not_lt.2 hc]) (RV1.int.2 ⟨rfl, wrap_wrap _ _⟩) rfl
  case shr =>
    refine Good.pure1 r (v := .int k (m.fdiv (2 ^ (min n.toNat k.bits)))) (by simp [runOp, execOp, ho, e1.1, e2.1, hguard, binOp, Op.shift, Int.not_lt.2 hc]) (RV1.int.2 ⟨rfl, ?_⟩) rfl
    exact wrap_fdiv e1.2 _
  case add => subst hc; exact Good.pure1 r (v := .int k (k.wrap (m + n))) (by simp [runOp, execOp, ho, e1.1, e2.1, hguard, binOp, Op.intArith]) (RV1.int.2 ⟨rfl, wrap_wrap _ _⟩) rfl
  case sub => subst hc; exact Good.pure1 r (v := .int k (k.wrap (m - n))) (by simp [runOp, execOp, ho, e1.1, e2.1, hguard, binOp, Op.intArith]) (RV1.int.2 ⟨rfl, wrap_wrap _ _⟩) rfl
  case mul => subst hc; exact Good.pure1 r (v := .int k (k.wrap (m * n))) (by simp [runOp, execOp, ho, e1.1, e2.1, hguard, binOp, Op.intArith]) (RV1.int.2 ⟨rfl, wrap_wrap _ _⟩) rfl
  case quo => obtain ⟨rfl, hc⟩ := hc; exact Good.pure1 r (v := .int k (k.wrap (m.tdiv n))) (by simp [runOp, execOp, ho, e1.1, e2.1, hguard, binOp, Op.intDiv, hc]) (RV1.int.2 ⟨rfl, wrap_wrap _ _⟩) rfl
  case rem =>
    obtain ⟨rfl, hc⟩ := hc
    refine Good.pure1 r (v := .int k (m.tmod n)) (by simp [runOp, execOp, ho, e1.1, e2.1, hguard, binOp, Op.intDiv, hc]) (RV1.int.2 ⟨rfl, ?_⟩) rfl
    exact wrap_tmod e1.2 _
  case and => subst hc; exact Good.pure1 r (by simp [runOp, execOp, ho, e1.1, e2.1, hguard, binOp, Op.intBits]) (RV1.int.2 ⟨rfl, wrap_wrap _ _⟩) rfl
  case or => subst hc; exact Good.pure1 r (by simp [runOp, execOp, ho, e1.1, e2.1, hguard, binOp, Op.intBits]) (RV1.int.2 ⟨rfl, wrap_wrap _ _⟩) rfl
  case xor => subst hc; exact Good.pure1 r (by simp [runOp, execOp, ho, e1.1, e2.1, hguard, binOp, Op.intBits]) (RV1.int.2 ⟨rfl, wrap_wrap _ _⟩) rfl
  all_goals (subst hc; refine Good.pure1 r (by simp [runOp, execOp, ho, e1.1, e2.1, hguard, binOp, Op.intCmp]; rfl) ⟨by simp [RC, Value.cells], by simp [A.isSt]⟩ rfl)

end
end Go.Ab

/- THE OPERATIONS, ONE BY ONE (fifth part): texts, truth, numbers of a slice, rows that are made. -/
namespace Go.Ab
section
variable {P : Program} {L : Lay} {mine : Nat → Prop} {tm : Nat → Option A} {hp : Hp} {nx : Nat} {fr : Nat → Prop} {a : Act} {w : World} {ob : Nat → Option OI} {S : Nat → Prop}

theorem rv1_bool (b : Bool) : RV1 P w ob S (.bool b) (.bool b) := ⟨by simp [RC, Value.cells], by simp [A.isSt]⟩

theorem str_eq (s s' : List UInt8) : ((⟨s.toArray⟩ : ByteArray) == ⟨s'.toArray⟩) = (s == s') := by
  rw [beq_toListBytes]
  simp

theorem good_binStr (r : RS P L mine tm hp fr a.tmps w ob S) {o : Oper} {op : BinOp} {t t' : TypeId} {x y : Operand} (ho : o.op = .binOp op t x y t') {m n : List UInt8} (hx : evA tm x = some (.str m)) (hy : evA tm y = some (.str n))
    {c : Prop} {v : A} (h : binA L op t (.str m) (.str n) = some (c, v)) : Good P L hp nx w ob S ⟨v, [], [], 0⟩ (runOp P a w o) := by
  have e1 := ev_str r hx
  have e2 := ev_str r hy
  have hguard : ∀ w, (eqGuard op t x y (.string ⟨m.toArray⟩) (.string ⟨n.toArray⟩)).run P w = .ok () w := fun w => by unfold eqGuard; split <;> simp
  cases op <;> simp only [binA, Option.some.injEq, Prod.mk.injEq, reduceCtorEq] at h <;> obtain ⟨rfl, rfl⟩ := h
  case eql => exact Good.pure1 r (v := .bool (m == n)) (by simp [runOp, execOp, ho, e1, e2, hguard, binOp, Op.stringOp, str_eq]) (rv1_bool _) rfl
  case neq => exact Good.pure1 r (v := .bool (m != n)) (by simp [runOp, execOp, ho, e1, e2, hguard, binOp, Op.stringOp, bne, str_eq]) (rv1_bool _) rfl

theorem good_binBool (hL : LOk P L) (r : RS P L mine tm hp fr a.tmps w ob S) {o : Oper} {op : BinOp} {t t' : TypeId} {x y : Operand} (ho : o.op = .binOp op t x y t') {m n : Bool} (hx : evA tm x = some (.bool m)) (hy : evA tm y = some (.bool n))
    {c : Prop} {v : A} (h : binA L op t (.bool m) (.bool n) = some (c, v)) (hc : c) : Good P L hp nx w ob S ⟨v, [], [], 0⟩ (runOp P a w o) := by
  have e1 := ev_bool r hx
  have e2 := ev_bool r hy
  have hguard : ∀ w, (eqGuard op t x y (.bool m) (.bool n)).run P w = .ok () w := fun w => by unfold eqGuard; split <;> simp
  cases op <;> simp only [binA, Option.some.injEq, Prod.mk.injEq, reduceCtorEq] at h <;> obtain ⟨rfl, rfl⟩ := h
  all_goals
    obtain ⟨d, hd, hk⟩ := hc
    have hu := (hL t d hd).und
    simp only [hk] at hu
    obtain ⟨u1, -⟩ := hu
  all_goals
    have heq : ∀ w, (Op.equal t (.bool m) (.bool n)).run P w = .ok (m == n) w := fun w => run_equalIn_bool' w 9999 t m n u1
  case eql => exact Good.pure1 r (v := .bool (m == n)) (by simp [runOp, execOp, ho, e1, e2, hguard, binOp, heq]) (rv1_bool _) rfl
  case neq => exact Good.pure1 r (v := .bool (!(m == n))) (by simp [runOp, execOp, ho, e1, e2, hguard, binOp, heq]) (rv1_bool _) rfl

theorem good_convInt (hL : LOk P L) (r : RS P L mine tm hp fr a.tmps w ob S) {o : Oper} {s t : TypeId} {x : Operand} (ho : o.op = .convert s t x) {d : TD} {k k' : IntKind} {n : Int} (hd : L t = some d) (hk : d.k = .int k) (hx : evA tm x = some (.int k' n)) (hs : ∃ u, P.underlying s = some u) :
    Good P L hp nx w ob S ⟨.int k (k.wrap n), [], [], 0⟩ (runOp P a w o) := by
  have e1 := ev_int r hx
  have hu := (hL t d hd).und
  simp only [hk] at hu
  obtain ⟨u1, -⟩ := hu
  obtain ⟨u, hs⟩ := hs
  exact Good.pure1 r (v := .int k (k.wrap n)) (by simp [runOp, execOp, ho, e1.1, convert, run_underlying hs, run_underlying u1, Conv.intToInt]) (RV1.int.2 ⟨rfl, wrap_wrap _ _⟩) rfl

theorem arr1 {α : Type} {l : Array α} {x : α} (h : l.toList = [x]) : l = #[x] := by cases l; simp_all
theorem arr2 {α : Type} {l : Array α} {x y : α} (h : l.toList = [x, y]) : l = #[x, y] := by cases l; simp_all

theorem wrap_i64_nat {n : Nat} (h : n ≤ maxBytes) : IntKind.i64.wrap (n : Int) = n := by
  rw [wrap_iff]
  simp [IntKind.min, IntKind.max, IntKind.bits, IntKind.signed]
  unfold maxBytes at h
  omega

theorem good_len (r : RS P L mine tm hp fr a.tmps w ob S) (hL : LOk P L) {o : Oper} {x : Operand} {t : TypeId} (ho : o.op = .call { callee := .builtin .len, args := #[x], argTypes := #[t] }) {c : Prop} {δ : Dl}
    (h : opv L (.call { callee := .builtin .len, args := #[x], argTypes := #[t] }) (evA tm) hp nx = some (c, δ)) :
    Good P L hp nx w ob S δ (runOp P a w o) := by
  simp only [opv] at h
  rw [Option.bind_eq_some_iff] at h; obtain ⟨d, hd, h⟩ := h
  split at h <;> try cases h
  rename_i e hk
  have hu := (hL t d hd).und
  simp only [hk] at hu
  obtain ⟨hu, -⟩ := hu
  rw [Option.bind_eq_some_iff] at h; obtain ⟨v, hv, h⟩ := h
  have hrun : ∀ ad n cap, a.eval x = .slice ad n cap → runOp P a w o = .ok (.value (.int .i64 n)) w := fun ad n cap e1 => by
    simp [runOp, execOp, ho, resolve, invoke, builtin, Builtin.len_, e1, run_underlying hu, goInt]
  split at h
  · rename_i e' xs
    cases h
    obtain ⟨ad, cap, e1, e2, e3, e4, e5⟩ := ev_sl r hv
    exact Good.pure1 r (hrun _ _ _ e1) (RV1.int.2 ⟨rfl, wrap_i64_nat e3.2⟩) rfl
  · cases h
    have := (RV1.leaf (rv1_of r hv rfl) rfl).2.1
    simp [RC] at this
    exact Good.pure1 r (hrun _ _ _ this) (RV1.int.2 ⟨rfl, wrap_i64_nat (by simp)⟩) rfl
  · cases h
    obtain ⟨ad, cap, e1, e2⟩ := ev_own_len r hv
    exact Good.pure1 r (hrun _ _ _ e1) (RV1.int.2 ⟨rfl, wrap_i64_nat e2⟩) rfl
  · cases h

theorem good_mm (r : RS P L mine tm hp fr a.tmps w ob S) {o : Oper} {b : Builtin} {x y : Operand} {ts : Array TypeId} (ho : o.op = .call { callee := .builtin b, args := #[x, y], argTypes := ts }) (hb : b = .min ∨ b = .max) {c : Prop} {δ : Dl}
    (h : opv L (.call { callee := .builtin b, args := #[x, y], argTypes := ts }) (evA tm) hp nx = some (c, δ)) (hc : c) :
    Good P L hp nx w ob S δ (runOp P a w o) := by
  rcases hb with rfl | rfl
  · simp only [opv] at h
    split at h <;> try cases h
    rename_i k m k' n hx hy
    subst hc
    refine Good.pure1 r (v := .int k (if n < m then n else m)) (by simp [runOp, execOp, ho, resolve, invoke, builtin, Builtin.min_, Builtin.min2, (ev_int r hx).1, (ev_int r hy).1]) (RV1.int.2 ⟨rfl, ?_⟩) rfl
    split
    · exact (ev_int r hy).2
    · exact (ev_int r hx).2
  · simp only [opv] at h
    split at h <;> try cases h
    rename_i k m k' n hx hy
    subst hc
    refine Good.pure1 r (v := .int k (if m < n then n else m)) (by simp [runOp, execOp, ho, resolve, invoke, builtin, Builtin.max_, Builtin.max2, (ev_int r hx).1, (ev_int r hy).1]) (RV1.int.2 ⟨rfl, ?_⟩) rfl
    split
    · exact (ev_int r hy).2
    · exact (ev_int r hx).2

end
end Go.Ab
