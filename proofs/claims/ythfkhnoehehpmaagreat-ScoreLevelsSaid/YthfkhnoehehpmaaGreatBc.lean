import Derived.Test.YthfkhnoehehpmaaGreatBb
import Derived.Test.YthfkhnoehehpmaaGreatAo
import Derived.KernelRfl
set_option linter.unusedVariables false
set_option linter.unusedSimpArgs false
/- SHA: one word turned. -/
namespace Go.Ab
open Go.Proofs

theorem cok {f : FuncId} {fn : Func} {c : Code} (h1 : ftTr.get f = some fn) (h2 : fn.body = some c) : codeOk fn.ntmps c = true := (code_of code_ok f fn c h1 h2).2

theorem fin {f : FuncId} {fn : Func} {c : Code} {r : Option Nat} {s : AS} {Φ : Exit → AS → Prop} (h1 : ftTr.get f = some fn) (h2 : fn.body = some c) (h : RK PP LL r fn.ntmps c s Φ) : RW PP LL r fn.ntmps c s Φ := h LL_ok mixed_ok (cok h1 h2)

theorem unit160 : UnitT PP 160 := fun w => by kernel_rfl

noncomputable def KE (E : ET) : Cfg := ⟨PP, ftTr.get, LL, E, fun _ => true, fun t => Nat.beq t 160⟩
def EOk (E : ET) : Prop := ∀ f vs hp nx δ, E f vs hp nx = some δ → CallD PP LL f vs hp nx δ
theorem KE_ok {E : ET} (h : EOk E) : (KE E).Ok := ⟨LL_ok, mixed_ok, ft_ok, fun f fn c _ h1 h2 => code_of code_ok f fn c h1 h2, fun t h => by rw [Nat.eq_of_beq_eq_true h]; exact unit160, h⟩
def E0 : ET := fun _ _ _ _ => none
theorem E0_ok : EOk E0 := fun _ _ _ _ _ h => by cases h

theorem and31 (n : Nat) (hn : 0 < n ∧ n < 32) : (18446744073709551616 - n) &&& 31 = 32 - n := by
  have : (18446744073709551616 - n) &&& (2 ^ 5 - 1) = (18446744073709551616 - n) % 2 ^ 5 := Nat.and_two_pow_sub_one_eq_mod _ _
  rw [show (31 : Nat) = 2 ^ 5 - 1 from rfl, this]; omega

theorem rot_con (x n : Nat) (hx : x < 4294967296) (hn : 0 < n ∧ n < 32) (hp : Hp) (nx : Nat) : CallD PP LL 229 [.int .u32 x, .int .i64 (-(n : Int))] hp nx ⟨.int .u32 ((rr x n : Nat) : Int), [], [], 0⟩ := by
  refine callD_pure LL_ok Tryz.func229 (by rfl) rfl (by simp [Tryz.f229]) (by rfl) (rs := [_]) (fin (f := 229) (fn := Tryz.f229) rfl rfl ?_) (by rfl) (by simp [A.isTup])
  refine RK_reg ?_
  refine wpo_r rfl (by first | exact trivial | exact rfl | exact ⟨rfl, rfl⟩ | exact ⟨rfl, by omega, by omega, rfl⟩ | exact ⟨by omega, by omega, rfl⟩ | exact ⟨rfl, rfl, rfl, rfl, rfl, fun h => nomatch h⟩ | omega | decide) rfl ?_
  refine wpo_nil ?_
  refine RK_reg ?_
  refine wpo_r rfl (by first | exact trivial | exact rfl | exact ⟨rfl, rfl⟩ | exact ⟨rfl, by omega, by omega, rfl⟩ | exact ⟨by omega, by omega, rfl⟩ | exact ⟨rfl, rfl, rfl, rfl, rfl, fun h => nomatch h⟩ | omega | decide) rfl ?_
  refine wpo_r rfl (by first | exact trivial | exact rfl | exact ⟨rfl, rfl⟩ | exact ⟨rfl, by omega, by omega, rfl⟩ | exact ⟨by omega, by omega, rfl⟩ | exact ⟨rfl, rfl, rfl, rfl, rfl, fun h => nomatch h⟩ | omega | decide) (congrArg (A.int .u64) (u64_of_neg n ⟨by omega, by omega⟩)) ?_
  refine wpo_r rfl (by first | exact trivial | exact rfl | exact ⟨rfl, rfl⟩ | exact ⟨rfl, by omega, by omega, rfl⟩ | exact ⟨by omega, by omega, rfl⟩ | exact ⟨rfl, rfl, rfl, rfl, rfl, fun h => nomatch h⟩ | omega | decide) (congrArg (A.int .u64) ((and_u64 (n := 31) (by omega) (by omega)).trans (congrArg Nat.cast (and31 n hn)))) ?_
  refine wpo_r rfl (by first | exact trivial | exact rfl | exact ⟨rfl, rfl⟩ | exact ⟨rfl, by omega, by omega, rfl⟩ | exact ⟨by omega, by omega, rfl⟩ | exact ⟨rfl, rfl, rfl, rfl, rfl, fun h => nomatch h⟩ | omega | decide) rfl ?_
  refine wpo_nil ?_
  refine RK_reg ?_
  refine wpo_r rfl (by first | exact trivial | exact rfl | exact ⟨rfl, rfl⟩ | exact ⟨rfl, by omega, by omega, rfl⟩ | exact ⟨by omega, by omega, rfl⟩ | exact ⟨rfl, rfl, rfl, rfl, rfl, fun h => nomatch h⟩ | omega | decide) rfl ?_
  refine wpo_r rfl (by first | exact trivial | exact rfl | exact ⟨rfl, rfl⟩ | exact ⟨rfl, by omega, by omega, rfl⟩ | exact ⟨by omega, by omega, rfl⟩ | exact ⟨rfl, rfl, rfl, rfl, rfl, fun h => nomatch h⟩ | omega | decide) rfl ?_
  refine wpo_r rfl (by first | exact trivial | exact rfl | exact ⟨rfl, rfl⟩ | exact ⟨rfl, by omega, by omega, rfl⟩ | exact ⟨by omega, by omega, rfl⟩ | exact ⟨rfl, rfl, rfl, rfl, rfl, fun h => nomatch h⟩ | omega | decide) (congrArg (A.int .u32) (shl_u32 x (32 - n))) ?_
  refine wpo_r rfl (by first | exact trivial | exact rfl | exact ⟨rfl, rfl⟩ | exact ⟨rfl, by omega, by omega, rfl⟩ | exact ⟨by omega, by omega, rfl⟩ | exact ⟨rfl, rfl, rfl, rfl, rfl, fun h => nomatch h⟩ | omega | decide) rfl ?_
  refine wpo_r rfl (by first | exact trivial | exact rfl | exact ⟨rfl, rfl⟩ | exact ⟨rfl, by omega, by omega, rfl⟩ | exact ⟨by omega, by omega, rfl⟩ | exact ⟨rfl, rfl, rfl, rfl, rfl, fun h => nomatch h⟩ | omega | decide) rfl ?_
  refine wpo_r rfl (by first | exact trivial | exact rfl | exact ⟨rfl, rfl⟩ | exact ⟨rfl, by omega, by omega, rfl⟩ | exact ⟨by omega, by omega, rfl⟩ | exact ⟨rfl, rfl, rfl, rfl, rfl, fun h => nomatch h⟩ | omega | decide) (congrArg (A.int .u64) (show _ = ((n : Nat) : Int) from by simp only [IntKind.wrap, IntKind.bits, IntKind.signed, Bool.false_and, Bool.false_eq_true, if_false]; omega)) ?_
  refine wpo_r rfl (by first | exact trivial | exact rfl | exact ⟨rfl, rfl⟩ | exact ⟨rfl, by omega, by omega, rfl⟩ | exact ⟨by omega, by omega, rfl⟩ | exact ⟨rfl, rfl, rfl, rfl, rfl, fun h => nomatch h⟩ | omega | decide) (congrArg (A.int .u32) (shr_u32 x n)) ?_
  refine wpo_r rfl (by first | exact trivial | exact rfl | exact ⟨rfl, rfl⟩ | exact ⟨rfl, by omega, by omega, rfl⟩ | exact ⟨by omega, by omega, rfl⟩ | exact ⟨rfl, rfl, rfl, rfl, rfl, fun h => nomatch h⟩ | omega | decide) (congrArg (A.int .u32) (or_u32 (by omega) (by rw [Nat.shiftRight_eq_div_pow]; exact Nat.lt_of_le_of_lt (Nat.div_le_self _ _) hx))) ?_
  refine wpo_r rfl (by first | exact trivial | exact rfl | exact ⟨rfl, rfl⟩ | exact ⟨rfl, by omega, by omega, rfl⟩ | exact ⟨by omega, by omega, rfl⟩ | exact ⟨rfl, rfl, rfl, rfl, rfl, fun h => nomatch h⟩ | omega | decide) rfl ?_
  refine wpo_nil ?_
  refine RK_ret ⟨.inl rfl, True ∧ True, ?_, trivial, trivial⟩
  have e : (x <<< min (32 - n) 32) % 4294967296 ||| x >>> min n 32 = rr x n := by
    rw [show min (32 - n) 32 = 32 - n by omega, show min n 32 = n by omega, Nat.or_comm]; rfl
  rw [← e]
  rfl

theorem right_con (x n : Nat) (hx : x < 4294967296) (hn : 0 < n ∧ n < 32) (hp : Hp) (nx : Nat) : CallD PP LL 197 [.int .u32 x, .int .i64 n] hp nx ⟨.int .u32 ((rr x n : Nat) : Int), [], [], 0⟩ := by
  refine callD_pure LL_ok Tryz.func197 (by rfl) rfl (by simp [Tryz.f197]) (by rfl) (rs := [_]) (fin (f := 197) (fn := Tryz.f197) rfl rfl ?_) (by rfl) (by simp [A.isTup])
  refine RK_reg ?_
  refine wpo_r rfl (by first | exact trivial | exact rfl | exact ⟨rfl, rfl⟩ | exact ⟨rfl, by omega, by omega, rfl⟩ | exact ⟨by omega, by omega, rfl⟩ | exact ⟨rfl, rfl, rfl, rfl, rfl, fun h => nomatch h⟩ | omega | decide) rfl ?_
  refine wpo_nil ?_
  refine RK_reg ?_
  refine wpo_r rfl (by first | exact trivial | exact rfl | exact ⟨rfl, rfl⟩ | exact ⟨rfl, by omega, by omega, rfl⟩ | exact ⟨by omega, by omega, rfl⟩ | exact ⟨rfl, rfl, rfl, rfl, rfl, fun h => nomatch h⟩ | omega | decide) rfl ?_
  refine wpo_r rfl (by first | exact trivial | exact rfl | exact ⟨rfl, rfl⟩ | exact ⟨rfl, by omega, by omega, rfl⟩ | exact ⟨by omega, by omega, rfl⟩ | exact ⟨rfl, rfl, rfl, rfl, rfl, fun h => nomatch h⟩ | omega | decide) rfl ?_
  refine wpo_r rfl (by first | exact trivial | exact rfl | exact ⟨rfl, rfl⟩ | exact ⟨rfl, by omega, by omega, rfl⟩ | exact ⟨by omega, by omega, rfl⟩ | exact ⟨rfl, rfl, rfl, rfl, rfl, fun h => nomatch h⟩ | omega | decide) (congrArg (A.int .i64) (show _ = -(n : Int) from by rw [wrap_i64 (by omega) (by omega)]; omega)) ?_
  refine wpo_c rfl rfl (by repeat (first | refine List.forall_mem_cons.2 ⟨rfl, ?_⟩ | exact List.forall_mem_nil _)) (rot_con x n hx hn _ _) rfl ?_
  refine wpo_r rfl (by first | exact trivial | exact rfl | exact ⟨rfl, rfl⟩ | exact ⟨rfl, by omega, by omega, rfl⟩ | exact ⟨by omega, by omega, rfl⟩ | exact ⟨rfl, rfl, rfl, rfl, rfl, fun h => nomatch h⟩ | omega | decide) rfl ?_
  refine wpo_nil ?_
  exact RK_ret ⟨.inl rfl, _, rfl, trivial, trivial⟩

end Go.Ab


/- SHA: 'add' goes through sixty-four bytes. -/
namespace Go.Ab
open Go.Proofs

def K8 : Sh := .node (List.replicate 8 .leaf)
def sA (v : ShaV) : A := .st [uA v.a, uA v.b, uA v.c, uA v.d, uA v.e, uA v.f, uA v.g, uA v.h]

theorem getD_lt {l : List Nat} (h : ∀ x ∈ l, x < 4294967296) (i : Nat) : l.getD i 0 < 4294967296 := by
  rw [List.getD_eq_getElem?_getD]
  cases hx : l[i]? with
  | none => simp
  | some x => have := h x (List.mem_of_getElem? hx); simpa using this

theorem getB_lt {l : List Nat} (h : ∀ x ∈ l, x < 256) (i : Nat) : l.getD i 0 < 256 := by
  rw [List.getD_eq_getElem?_getD]
  cases hx : l[i]? with
  | none => simp
  | some x => have := h x (List.mem_of_getElem? hx); simpa using this

theorem bget {b : List Nat} {i : Nat} (hi : i < b.length) : (b.map bA)[i]? = some (bA (b.getD i 0)) := by
  rw [List.getElem?_map, List.getD_eq_getElem?_getD, List.getElem?_eq_getElem hi]; rfl

/-- the first loop's states -/
def s1 (s : ShaV) (b : List Nat) (i : Nat) : AS := stL [(0, .ptr 0 0 [] K8), (1, .sl 5 (b.map bA)), (4, .ptr 1 0 [] (.node (List.replicate 64 .leaf))), (17, .int .i64 (i : Int))]
  [(0, ⟨0, false, none, sA s⟩), (1, ⟨0, false, none, .st (wArr b i)⟩)] 2

theorem conv_u8 {m : Nat} (h : m < 256) : IntKind.u32.wrap (m : Int) = (m : Int) := wrap_nat .u32 (by simp only [limN]; omega)

theorem i64_mul4 {i : Nat} (hi : i < 64) : IntKind.i64.wrap ((4 : Int) * (i : Int)) = ((4 * i : Nat) : Int) := by rw [wrap_i64 (by omega) (by omega)]; omega
theorem i64_add {i j : Nat} (hi : i < 1000000) (hj : j < 1000000) : IntKind.i64.wrap ((i : Int) + (j : Int)) = ((i + j : Nat) : Int) := by rw [wrap_i64 (by omega) (by omega)]; omega
theorem i64_sub {i j : Nat} (hi : i < 1000000) (hj : j ≤ i) : IntKind.i64.wrap ((i : Int) - (j : Int)) = ((i - j : Nat) : Int) := by rw [wrap_i64 (by omega) (by omega)]; omega
theorem lss_i {i j : Nat} : decide ((i : Int) < (j : Int)) = decide (i < j) := by by_cases h : i < j <;> simp [h]

set_option maxRecDepth 100000 in
theorem loop1_body (s : ShaV) (b : List Nat) (hb : ∀ x ∈ b, x < 256) (hlen : b.length = 64) (i : Nat) (hi : i < 64) :
    RK PP LL none 194 (loopOf Tryz.f156 0) (s1 s b i) (fun e s' => e = .normal ∧ Le s' (s1 s b (i + 1))) := by
  have B : ∀ j, b.getD j 0 < 256 := getB_lt hb
  refine RK_reg ?_
  refine wpo_r rfl (by first | exact trivial | exact rfl | exact ⟨rfl, rfl⟩ | exact ⟨rfl, by omega, by omega, rfl⟩ | exact ⟨by omega, by omega, rfl⟩ | exact ⟨rfl, rfl, rfl, rfl, rfl, fun h => nomatch h⟩ | omega | decide) rfl ?_
  refine wpo_nil ?_
  refine RK_on (t := decide ((i : Int) < 64)) rfl (decide_eq_true (by omega)) ?_
  refine RK_seq (RK_blk ?_)
  refine RK_reg ?_
  refine wpo_r rfl (by first | exact trivial | exact rfl | exact ⟨rfl, rfl⟩ | exact ⟨rfl, by omega, by omega, rfl⟩ | exact ⟨by omega, by omega, rfl⟩ | exact ⟨rfl, rfl, rfl, rfl, rfl, fun h => nomatch h⟩ | omega | decide) rfl ?_
  refine wpo_r rfl (by first | exact trivial | exact rfl | exact ⟨rfl, rfl⟩ | exact ⟨rfl, by omega, by omega, rfl⟩ | exact ⟨by omega, by omega, rfl⟩ | exact ⟨rfl, rfl, rfl, rfl, rfl, fun h => nomatch h⟩ | omega | decide) rfl ?_
  refine wpo_nil ?_
  refine RK_seqx ?_
  refine RK_reg ?_
  refine wpo_r rfl (by first | exact trivial | exact rfl | exact ⟨rfl, rfl⟩ | exact ⟨rfl, by omega, by omega, rfl⟩ | exact ⟨by omega, by omega, rfl⟩ | exact ⟨rfl, rfl, rfl, rfl, rfl, fun h => nomatch h⟩ | omega | decide) rfl ?_
  refine wpo_r rfl (by first | exact trivial | exact rfl | exact ⟨rfl, rfl⟩ | exact ⟨rfl, by omega, by omega, rfl⟩ | exact ⟨by omega, by omega, rfl⟩ | exact ⟨rfl, rfl, rfl, rfl, rfl, fun h => nomatch h⟩ | omega | decide) rfl ?_
  refine wpo_nil ?_
  by_cases h16 : i < 16
  · refine RK_ct (t := decide ((i : Int) < 16)) rfl (decide_eq_true (by omega)) ?_
    refine RK_drw ?_
    refine wpd_r rfl (by first | exact trivial | exact rfl | exact ⟨rfl, rfl⟩ | exact ⟨rfl, by omega, by omega, rfl⟩ | exact ⟨by omega, by omega, rfl⟩ | exact ⟨rfl, rfl, rfl, rfl, rfl, fun h => nomatch h⟩ | omega | decide) rfl ?_
    refine wpd_r rfl (by first | exact trivial | exact rfl | exact ⟨rfl, rfl⟩ | exact ⟨rfl, by omega, by omega, rfl⟩ | exact ⟨by omega, by omega, rfl⟩ | exact ⟨rfl, rfl, rfl, rfl, rfl, fun h => nomatch h⟩ | omega | decide) rfl ?_
    refine wpd_r rfl (by first | exact trivial | exact rfl | exact ⟨rfl, rfl⟩ | exact ⟨rfl, by omega, by omega, rfl⟩ | exact ⟨by omega, by omega, rfl⟩ | exact ⟨rfl, rfl, rfl, rfl, rfl, fun h => nomatch h⟩ | omega | decide) rfl ?_
    refine wpd_r rfl (by first | exact trivial | exact rfl | exact ⟨rfl, rfl⟩ | exact ⟨rfl, by omega, by omega, rfl⟩ | exact ⟨by omega, by omega, rfl⟩ | exact ⟨rfl, rfl, rfl, rfl, rfl, fun h => nomatch h⟩ | omega | decide) (congrArg (A.int .i64) (i64_mul4 hi)) ?_
    refine wpd_r (opv_iasl rfl rfl rfl rfl rfl (bget (by omega))) ⟨rfl, by omega⟩ rfl ?_
    refine wpd_r rfl (by first | exact trivial | exact rfl | exact ⟨rfl, rfl⟩ | exact ⟨rfl, by omega, by omega, rfl⟩ | exact ⟨by omega, by omega, rfl⟩ | exact ⟨rfl, rfl, rfl, rfl, rfl, fun h => nomatch h⟩ | omega | decide) rfl ?_
    refine wpd_r rfl (by first | exact trivial | exact rfl | exact ⟨rfl, rfl⟩ | exact ⟨rfl, by omega, by omega, rfl⟩ | exact ⟨by omega, by omega, rfl⟩ | exact ⟨rfl, rfl, rfl, rfl, rfl, fun h => nomatch h⟩ | omega | decide) (congrArg (A.int .u32) (conv_u8 (B _))) ?_
    refine wpd_r rfl (by first | exact trivial | exact rfl | exact ⟨rfl, rfl⟩ | exact ⟨rfl, by omega, by omega, rfl⟩ | exact ⟨by omega, by omega, rfl⟩ | exact ⟨rfl, rfl, rfl, rfl, rfl, fun h => nomatch h⟩ | omega | decide) (congrArg (A.int .u32) (shl_u32 _ 24)) ?_
    refine wpd_r rfl (by first | exact trivial | exact rfl | exact ⟨rfl, rfl⟩ | exact ⟨rfl, by omega, by omega, rfl⟩ | exact ⟨by omega, by omega, rfl⟩ | exact ⟨rfl, rfl, rfl, rfl, rfl, fun h => nomatch h⟩ | omega | decide) rfl ?_
    refine wpd_r rfl (by first | exact trivial | exact rfl | exact ⟨rfl, rfl⟩ | exact ⟨rfl, by omega, by omega, rfl⟩ | exact ⟨by omega, by omega, rfl⟩ | exact ⟨rfl, rfl, rfl, rfl, rfl, fun h => nomatch h⟩ | omega | decide) rfl ?_
    refine wpd_r rfl (by first | exact trivial | exact rfl | exact ⟨rfl, rfl⟩ | exact ⟨rfl, by omega, by omega, rfl⟩ | exact ⟨by omega, by omega, rfl⟩ | exact ⟨rfl, rfl, rfl, rfl, rfl, fun h => nomatch h⟩ | omega | decide) (congrArg (A.int .i64) (i64_mul4 hi)) ?_
    refine wpd_r rfl (by first | exact trivial | exact rfl | exact ⟨rfl, rfl⟩ | exact ⟨rfl, by omega, by omega, rfl⟩ | exact ⟨by omega, by omega, rfl⟩ | exact ⟨rfl, rfl, rfl, rfl, rfl, fun h => nomatch h⟩ | omega | decide) (congrArg (A.int .i64) (i64_add (j := 1) (by omega) (by omega))) ?_
    refine wpd_r (opv_iasl rfl rfl rfl rfl rfl (bget (by omega))) ⟨rfl, by omega⟩ rfl ?_
    refine wpd_r rfl (by first | exact trivial | exact rfl | exact ⟨rfl, rfl⟩ | exact ⟨rfl, by omega, by omega, rfl⟩ | exact ⟨by omega, by omega, rfl⟩ | exact ⟨rfl, rfl, rfl, rfl, rfl, fun h => nomatch h⟩ | omega | decide) rfl ?_
    refine wpd_r rfl (by first | exact trivial | exact rfl | exact ⟨rfl, rfl⟩ | exact ⟨rfl, by omega, by omega, rfl⟩ | exact ⟨by omega, by omega, rfl⟩ | exact ⟨rfl, rfl, rfl, rfl, rfl, fun h => nomatch h⟩ | omega | decide) (congrArg (A.int .u32) (conv_u8 (B _))) ?_
    refine wpd_r rfl (by first | exact trivial | exact rfl | exact ⟨rfl, rfl⟩ | exact ⟨rfl, by omega, by omega, rfl⟩ | exact ⟨by omega, by omega, rfl⟩ | exact ⟨rfl, rfl, rfl, rfl, rfl, fun h => nomatch h⟩ | omega | decide) (congrArg (A.int .u32) (shl_u32 _ 16)) ?_
    refine wpd_r rfl (by first | exact trivial | exact rfl | exact ⟨rfl, rfl⟩ | exact ⟨rfl, by omega, by omega, rfl⟩ | exact ⟨by omega, by omega, rfl⟩ | exact ⟨rfl, rfl, rfl, rfl, rfl, fun h => nomatch h⟩ | omega | decide) (congrArg (A.int .u32) (or_u32 (Nat.mod_lt _ (by omega)) (Nat.mod_lt _ (by omega)))) ?_
    refine wpd_r rfl (by first | exact trivial | exact rfl | exact ⟨rfl, rfl⟩ | exact ⟨rfl, by omega, by omega, rfl⟩ | exact ⟨by omega, by omega, rfl⟩ | exact ⟨rfl, rfl, rfl, rfl, rfl, fun h => nomatch h⟩ | omega | decide) rfl ?_
    refine wpd_r rfl (by first | exact trivial | exact rfl | exact ⟨rfl, rfl⟩ | exact ⟨rfl, by omega, by omega, rfl⟩ | exact ⟨by omega, by omega, rfl⟩ | exact ⟨rfl, rfl, rfl, rfl, rfl, fun h => nomatch h⟩ | omega | decide) rfl ?_
    refine wpd_r rfl (by first | exact trivial | exact rfl | exact ⟨rfl, rfl⟩ | exact ⟨rfl, by omega, by omega, rfl⟩ | exact ⟨by omega, by omega, rfl⟩ | exact ⟨rfl, rfl, rfl, rfl, rfl, fun h => nomatch h⟩ | omega | decide) (congrArg (A.int .i64) (i64_mul4 hi)) ?_
    refine wpd_r rfl (by first | exact trivial | exact rfl | exact ⟨rfl, rfl⟩ | exact ⟨rfl, by omega, by omega, rfl⟩ | exact ⟨by omega, by omega, rfl⟩ | exact ⟨rfl, rfl, rfl, rfl, rfl, fun h => nomatch h⟩ | omega | decide) (congrArg (A.int .i64) (i64_add (j := 2) (by omega) (by omega))) ?_
    refine wpd_r (opv_iasl rfl rfl rfl rfl rfl (bget (by omega))) ⟨rfl, by omega⟩ rfl ?_
    refine wpd_r rfl (by first | exact trivial | exact rfl | exact ⟨rfl, rfl⟩ | exact ⟨rfl, by omega, by omega, rfl⟩ | exact ⟨by omega, by omega, rfl⟩ | exact ⟨rfl, rfl, rfl, rfl, rfl, fun h => nomatch h⟩ | omega | decide) rfl ?_
    refine wpd_r rfl (by first | exact trivial | exact rfl | exact ⟨rfl, rfl⟩ | exact ⟨rfl, by omega, by omega, rfl⟩ | exact ⟨by omega, by omega, rfl⟩ | exact ⟨rfl, rfl, rfl, rfl, rfl, fun h => nomatch h⟩ | omega | decide) (congrArg (A.int .u32) (conv_u8 (B _))) ?_
    refine wpd_r rfl (by first | exact trivial | exact rfl | exact ⟨rfl, rfl⟩ | exact ⟨rfl, by omega, by omega, rfl⟩ | exact ⟨by omega, by omega, rfl⟩ | exact ⟨rfl, rfl, rfl, rfl, rfl, fun h => nomatch h⟩ | omega | decide) (congrArg (A.int .u32) (shl_u32 _ 8)) ?_
    refine wpd_r rfl (by first | exact trivial | exact rfl | exact ⟨rfl, rfl⟩ | exact ⟨rfl, by omega, by omega, rfl⟩ | exact ⟨by omega, by omega, rfl⟩ | exact ⟨rfl, rfl, rfl, rfl, rfl, fun h => nomatch h⟩ | omega | decide) (congrArg (A.int .u32) (or_u32 (or_lt (Nat.mod_lt _ (by omega)) (Nat.mod_lt _ (by omega))) (Nat.mod_lt _ (by omega)))) ?_
    refine wpd_r rfl (by first | exact trivial | exact rfl | exact ⟨rfl, rfl⟩ | exact ⟨rfl, by omega, by omega, rfl⟩ | exact ⟨by omega, by omega, rfl⟩ | exact ⟨rfl, rfl, rfl, rfl, rfl, fun h => nomatch h⟩ | omega | decide) rfl ?_
    refine wpd_r rfl (by first | exact trivial | exact rfl | exact ⟨rfl, rfl⟩ | exact ⟨rfl, by omega, by omega, rfl⟩ | exact ⟨by omega, by omega, rfl⟩ | exact ⟨rfl, rfl, rfl, rfl, rfl, fun h => nomatch h⟩ | omega | decide) rfl ?_
    refine wpd_r rfl (by first | exact trivial | exact rfl | exact ⟨rfl, rfl⟩ | exact ⟨rfl, by omega, by omega, rfl⟩ | exact ⟨by omega, by omega, rfl⟩ | exact ⟨rfl, rfl, rfl, rfl, rfl, fun h => nomatch h⟩ | omega | decide) (congrArg (A.int .i64) (i64_mul4 hi)) ?_
    refine wpd_r rfl (by first | exact trivial | exact rfl | exact ⟨rfl, rfl⟩ | exact ⟨rfl, by omega, by omega, rfl⟩ | exact ⟨by omega, by omega, rfl⟩ | exact ⟨rfl, rfl, rfl, rfl, rfl, fun h => nomatch h⟩ | omega | decide) (congrArg (A.int .i64) (i64_add (j := 3) (by omega) (by omega))) ?_
    refine wpd_r (opv_iasl rfl rfl rfl rfl rfl (bget (by omega))) ⟨rfl, by omega⟩ rfl ?_
    refine wpd_r rfl (by first | exact trivial | exact rfl | exact ⟨rfl, rfl⟩ | exact ⟨rfl, by omega, by omega, rfl⟩ | exact ⟨by omega, by omega, rfl⟩ | exact ⟨rfl, rfl, rfl, rfl, rfl, fun h => nomatch h⟩ | omega | decide) rfl ?_
    refine wpd_r rfl (by first | exact trivial | exact rfl | exact ⟨rfl, rfl⟩ | exact ⟨rfl, by omega, by omega, rfl⟩ | exact ⟨by omega, by omega, rfl⟩ | exact ⟨rfl, rfl, rfl, rfl, rfl, fun h => nomatch h⟩ | omega | decide) (congrArg (A.int .u32) (conv_u8 (B _))) ?_
    refine wpd_r rfl (by first | exact trivial | exact rfl | exact ⟨rfl, rfl⟩ | exact ⟨rfl, by omega, by omega, rfl⟩ | exact ⟨by omega, by omega, rfl⟩ | exact ⟨rfl, rfl, rfl, rfl, rfl, fun h => nomatch h⟩ | omega | decide) (congrArg (A.int .u32) (or_u32 (or_lt (or_lt (Nat.mod_lt _ (by omega)) (Nat.mod_lt _ (by omega))) (Nat.mod_lt _ (by omega))) (Nat.lt_trans (B _) (by omega)))) ?_
    refine wpd_r rfl (by first | exact trivial | exact rfl | exact ⟨rfl, rfl⟩ | exact ⟨rfl, by omega, by omega, rfl⟩ | exact ⟨by omega, by omega, rfl⟩ | exact ⟨rfl, rfl, rfl, rfl, rfl, fun h => nomatch h⟩ | omega | decide) rfl ?_
    refine wpd_s (opv_sto rfl rfl rfl rfl (sub_one (wArr_self b hi)) (upd_one (wArr_self b hi))) ⟨rfl, rfl, rfl, rfl, rfl, fun h => nomatch h⟩ (congrArg (fun l => Ob.mk 0 false none (.st l)) ((congrArg (fun x => (wArr b i).set i (uA x)) (if_pos h16).symm).trans (wArr_set b hi))) ?_
    refine ⟨rfl, RK_exit (.inr ⟨by simp, .inl rfl, rfl, RK_region ?_⟩)⟩
    refine wpo_r rfl (by first | exact trivial | exact rfl | exact ⟨rfl, rfl⟩ | exact ⟨rfl, by omega, by omega, rfl⟩ | exact ⟨by omega, by omega, rfl⟩ | exact ⟨rfl, rfl, rfl, rfl, rfl, fun h => nomatch h⟩ | omega | decide) (congrArg (A.int .i64) (i64_add (j := 1) (by omega) (by omega))) ?_
    refine wpo_r rfl (by first | exact trivial | exact rfl | exact ⟨rfl, rfl⟩ | exact ⟨rfl, by omega, by omega, rfl⟩ | exact ⟨by omega, by omega, rfl⟩ | exact ⟨rfl, rfl, rfl, rfl, rfl, fun h => nomatch h⟩ | omega | decide) rfl ?_
    refine wpo_nil ?_
    exact ⟨rfl, le_st ⟨rfl, rfl, rfl, rfl, trivial⟩ ⟨rfl, rfl, trivial⟩ (Nat.le_refl _) rfl⟩
  · refine RK_cf (t := decide ((i : Int) < 16)) rfl (decide_eq_false (by omega)) (RK_skip (.inl ⟨rfl, ?_⟩))
    have W : ∀ j, (wR b i).getD j 0 < 4294967296 := getD_lt (wR_lt hb i)
    refine RK_drw ?_
    refine wpd_r rfl (by first | exact trivial | exact rfl | exact ⟨rfl, rfl⟩ | exact ⟨rfl, by omega, by omega, rfl⟩ | exact ⟨by omega, by omega, rfl⟩ | exact ⟨rfl, rfl, rfl, rfl, rfl, fun h => nomatch h⟩ | omega | decide) rfl ?_
    refine wpd_r rfl (by first | exact trivial | exact rfl | exact ⟨rfl, rfl⟩ | exact ⟨rfl, by omega, by omega, rfl⟩ | exact ⟨by omega, by omega, rfl⟩ | exact ⟨rfl, rfl, rfl, rfl, rfl, fun h => nomatch h⟩ | omega | decide) (congrArg (A.int .i64) (i64_sub (j := 15) (by omega) (by omega))) ?_
    refine wpd_r rfl (by first | exact trivial | exact rfl | exact ⟨rfl, rfl⟩ | exact ⟨rfl, by omega, by omega, rfl⟩ | exact ⟨by omega, by omega, rfl⟩ | exact ⟨rfl, rfl, rfl, rfl, rfl, fun h => nomatch h⟩ | omega | decide) rfl ?_
    refine wpd_r (opv_ld rfl rfl rfl (sub_one ((wArr_get b (j := i - 15) (by omega)).trans (congrArg (fun k => some (uA ((wR b i).getD k 0))) (show i - 1 - (i - 15) = 14 by omega))))) ⟨rfl, rfl⟩ rfl ?_
    refine wpd_r rfl (by first | exact trivial | exact rfl | exact ⟨rfl, rfl⟩ | exact ⟨rfl, by omega, by omega, rfl⟩ | exact ⟨by omega, by omega, rfl⟩ | exact ⟨rfl, rfl, rfl, rfl, rfl, fun h => nomatch h⟩ | omega | decide) rfl ?_
    refine wpd_r rfl (by first | exact trivial | exact rfl | exact ⟨rfl, rfl⟩ | exact ⟨rfl, by omega, by omega, rfl⟩ | exact ⟨by omega, by omega, rfl⟩ | exact ⟨rfl, rfl, rfl, rfl, rfl, fun h => nomatch h⟩ | omega | decide) (congrArg (A.int .i64) (i64_sub (j := 2) (by omega) (by omega))) ?_
    refine wpd_r rfl (by first | exact trivial | exact rfl | exact ⟨rfl, rfl⟩ | exact ⟨rfl, by omega, by omega, rfl⟩ | exact ⟨by omega, by omega, rfl⟩ | exact ⟨rfl, rfl, rfl, rfl, rfl, fun h => nomatch h⟩ | omega | decide) rfl ?_
    refine wpd_r (opv_ld rfl rfl rfl (sub_one ((wArr_get b (j := i - 2) (by omega)).trans (congrArg (fun k => some (uA ((wR b i).getD k 0))) (show i - 1 - (i - 2) = 1 by omega))))) ⟨rfl, rfl⟩ rfl ?_
    refine wpd_r rfl (by first | exact trivial | exact rfl | exact ⟨rfl, rfl⟩ | exact ⟨rfl, by omega, by omega, rfl⟩ | exact ⟨by omega, by omega, rfl⟩ | exact ⟨rfl, rfl, rfl, rfl, rfl, fun h => nomatch h⟩ | omega | decide) rfl ?_
    refine wpd_r rfl (by first | exact trivial | exact rfl | exact ⟨rfl, rfl⟩ | exact ⟨rfl, by omega, by omega, rfl⟩ | exact ⟨by omega, by omega, rfl⟩ | exact ⟨rfl, rfl, rfl, rfl, rfl, fun h => nomatch h⟩ | omega | decide) rfl ?_
    refine ⟨rfl, RK_drawn ?_⟩
    refine wpd_r rfl (by first | exact trivial | exact rfl | exact ⟨rfl, rfl⟩ | exact ⟨rfl, by omega, by omega, rfl⟩ | exact ⟨by omega, by omega, rfl⟩ | exact ⟨rfl, rfl, rfl, rfl, rfl, fun h => nomatch h⟩ | omega | decide) rfl ?_
    refine wpd_r rfl (by first | exact trivial | exact rfl | exact ⟨rfl, rfl⟩ | exact ⟨rfl, by omega, by omega, rfl⟩ | exact ⟨by omega, by omega, rfl⟩ | exact ⟨rfl, rfl, rfl, rfl, rfl, fun h => nomatch h⟩ | omega | decide) rfl ?_
    refine wpd_r rfl (by first | exact trivial | exact rfl | exact ⟨rfl, rfl⟩ | exact ⟨rfl, by omega, by omega, rfl⟩ | exact ⟨by omega, by omega, rfl⟩ | exact ⟨rfl, rfl, rfl, rfl, rfl, fun h => nomatch h⟩ | omega | decide) (congrArg (A.int .i64) (i64_sub (j := 16) (by omega) (by omega))) ?_
    refine wpd_r rfl (by first | exact trivial | exact rfl | exact ⟨rfl, rfl⟩ | exact ⟨rfl, by omega, by omega, rfl⟩ | exact ⟨by omega, by omega, rfl⟩ | exact ⟨rfl, rfl, rfl, rfl, rfl, fun h => nomatch h⟩ | omega | decide) rfl ?_
    refine wpd_r (opv_ld rfl rfl rfl (sub_one ((wArr_get b (j := i - 16) (by omega)).trans (congrArg (fun k => some (uA ((wR b i).getD k 0))) (show i - 1 - (i - 16) = 15 by omega))))) ⟨rfl, rfl⟩ rfl ?_
    refine wpd_r rfl (by first | exact trivial | exact rfl | exact ⟨rfl, rfl⟩ | exact ⟨rfl, by omega, by omega, rfl⟩ | exact ⟨by omega, by omega, rfl⟩ | exact ⟨rfl, rfl, rfl, rfl, rfl, fun h => nomatch h⟩ | omega | decide) rfl ?_
    refine wpd_r rfl (by first | exact trivial | exact rfl | exact ⟨rfl, rfl⟩ | exact ⟨rfl, by omega, by omega, rfl⟩ | exact ⟨by omega, by omega, rfl⟩ | exact ⟨rfl, rfl, rfl, rfl, rfl, fun h => nomatch h⟩ | omega | decide) (congrArg (A.int .i64) (i64_sub (j := 7) (by omega) (by omega))) ?_
    refine wpd_r rfl (by first | exact trivial | exact rfl | exact ⟨rfl, rfl⟩ | exact ⟨rfl, by omega, by omega, rfl⟩ | exact ⟨by omega, by omega, rfl⟩ | exact ⟨rfl, rfl, rfl, rfl, rfl, fun h => nomatch h⟩ | omega | decide) rfl ?_
    refine wpd_r (opv_ld rfl rfl rfl (sub_one ((wArr_get b (j := i - 7) (by omega)).trans (congrArg (fun k => some (uA ((wR b i).getD k 0))) (show i - 1 - (i - 7) = 6 by omega))))) ⟨rfl, rfl⟩ rfl ?_
    refine wpd_r rfl (by first | exact trivial | exact rfl | exact ⟨rfl, rfl⟩ | exact ⟨rfl, by omega, by omega, rfl⟩ | exact ⟨by omega, by omega, rfl⟩ | exact ⟨rfl, rfl, rfl, rfl, rfl, fun h => nomatch h⟩ | omega | decide) (congrArg (A.int .u32) (add_u32 _ _)) ?_
    refine wpd_r rfl (by first | exact trivial | exact rfl | exact ⟨rfl, rfl⟩ | exact ⟨rfl, by omega, by omega, rfl⟩ | exact ⟨by omega, by omega, rfl⟩ | exact ⟨rfl, rfl, rfl, rfl, rfl, fun h => nomatch h⟩ | omega | decide) rfl ?_
    refine wpd_c rfl rfl (by repeat (first | refine List.forall_mem_cons.2 ⟨rfl, ?_⟩ | exact List.forall_mem_nil _)) (right_con ((wR b i).getD 14 0) 7 (W _) (by omega) _ _) rfl ?_
    refine wpd_r rfl (by first | exact trivial | exact rfl | exact ⟨rfl, rfl⟩ | exact ⟨rfl, by omega, by omega, rfl⟩ | exact ⟨by omega, by omega, rfl⟩ | exact ⟨rfl, rfl, rfl, rfl, rfl, fun h => nomatch h⟩ | omega | decide) rfl ?_
    refine wpd_c rfl rfl (by repeat (first | refine List.forall_mem_cons.2 ⟨rfl, ?_⟩ | exact List.forall_mem_nil _)) (right_con ((wR b i).getD 14 0) 18 (W _) (by omega) _ _) rfl ?_
    refine wpd_r rfl (by first | exact trivial | exact rfl | exact ⟨rfl, rfl⟩ | exact ⟨rfl, by omega, by omega, rfl⟩ | exact ⟨by omega, by omega, rfl⟩ | exact ⟨rfl, rfl, rfl, rfl, rfl, fun h => nomatch h⟩ | omega | decide) (congrArg (A.int .u32) (xor_u32 (rr_lt (W _)) (rr_lt (W _)))) ?_
    refine wpd_r rfl (by first | exact trivial | exact rfl | exact ⟨rfl, rfl⟩ | exact ⟨rfl, by omega, by omega, rfl⟩ | exact ⟨by omega, by omega, rfl⟩ | exact ⟨rfl, rfl, rfl, rfl, rfl, fun h => nomatch h⟩ | omega | decide) rfl ?_
    refine wpd_r rfl (by first | exact trivial | exact rfl | exact ⟨rfl, rfl⟩ | exact ⟨rfl, by omega, by omega, rfl⟩ | exact ⟨by omega, by omega, rfl⟩ | exact ⟨rfl, rfl, rfl, rfl, rfl, fun h => nomatch h⟩ | omega | decide) (congrArg (A.int .u32) (shr_u32 _ 3)) ?_
    refine wpd_r rfl (by first | exact trivial | exact rfl | exact ⟨rfl, rfl⟩ | exact ⟨rfl, by omega, by omega, rfl⟩ | exact ⟨by omega, by omega, rfl⟩ | exact ⟨rfl, rfl, rfl, rfl, rfl, fun h => nomatch h⟩ | omega | decide) (congrArg (A.int .u32) (xor_u32 (xor_lt (rr_lt (W _)) (rr_lt (W _))) (shr_lt (W _)))) ?_
    refine wpd_r rfl (by first | exact trivial | exact rfl | exact ⟨rfl, rfl⟩ | exact ⟨rfl, by omega, by omega, rfl⟩ | exact ⟨by omega, by omega, rfl⟩ | exact ⟨rfl, rfl, rfl, rfl, rfl, fun h => nomatch h⟩ | omega | decide) (congrArg (A.int .u32) (add_u32 _ _)) ?_
    refine wpd_r rfl (by first | exact trivial | exact rfl | exact ⟨rfl, rfl⟩ | exact ⟨rfl, by omega, by omega, rfl⟩ | exact ⟨by omega, by omega, rfl⟩ | exact ⟨rfl, rfl, rfl, rfl, rfl, fun h => nomatch h⟩ | omega | decide) rfl ?_
    refine wpd_c rfl rfl (by repeat (first | refine List.forall_mem_cons.2 ⟨rfl, ?_⟩ | exact List.forall_mem_nil _)) (right_con ((wR b i).getD 1 0) 17 (W _) (by omega) _ _) rfl ?_
    refine wpd_r rfl (by first | exact trivial | exact rfl | exact ⟨rfl, rfl⟩ | exact ⟨rfl, by omega, by omega, rfl⟩ | exact ⟨by omega, by omega, rfl⟩ | exact ⟨rfl, rfl, rfl, rfl, rfl, fun h => nomatch h⟩ | omega | decide) rfl ?_
    refine wpd_c rfl rfl (by repeat (first | refine List.forall_mem_cons.2 ⟨rfl, ?_⟩ | exact List.forall_mem_nil _)) (right_con ((wR b i).getD 1 0) 19 (W _) (by omega) _ _) rfl ?_
    refine wpd_r rfl (by first | exact trivial | exact rfl | exact ⟨rfl, rfl⟩ | exact ⟨rfl, by omega, by omega, rfl⟩ | exact ⟨by omega, by omega, rfl⟩ | exact ⟨rfl, rfl, rfl, rfl, rfl, fun h => nomatch h⟩ | omega | decide) (congrArg (A.int .u32) (xor_u32 (rr_lt (W _)) (rr_lt (W _)))) ?_
    refine wpd_r rfl (by first | exact trivial | exact rfl | exact ⟨rfl, rfl⟩ | exact ⟨rfl, by omega, by omega, rfl⟩ | exact ⟨by omega, by omega, rfl⟩ | exact ⟨rfl, rfl, rfl, rfl, rfl, fun h => nomatch h⟩ | omega | decide) rfl ?_
    refine wpd_r rfl (by first | exact trivial | exact rfl | exact ⟨rfl, rfl⟩ | exact ⟨rfl, by omega, by omega, rfl⟩ | exact ⟨by omega, by omega, rfl⟩ | exact ⟨rfl, rfl, rfl, rfl, rfl, fun h => nomatch h⟩ | omega | decide) (congrArg (A.int .u32) (shr_u32 _ 10)) ?_
    refine wpd_r rfl (by first | exact trivial | exact rfl | exact ⟨rfl, rfl⟩ | exact ⟨rfl, by omega, by omega, rfl⟩ | exact ⟨by omega, by omega, rfl⟩ | exact ⟨rfl, rfl, rfl, rfl, rfl, fun h => nomatch h⟩ | omega | decide) (congrArg (A.int .u32) (xor_u32 (xor_lt (rr_lt (W _)) (rr_lt (W _))) (shr_lt (W _)))) ?_
    refine wpd_r rfl (by first | exact trivial | exact rfl | exact ⟨rfl, rfl⟩ | exact ⟨rfl, by omega, by omega, rfl⟩ | exact ⟨by omega, by omega, rfl⟩ | exact ⟨rfl, rfl, rfl, rfl, rfl, fun h => nomatch h⟩ | omega | decide) (congrArg (A.int .u32) (add_u32 _ _)) ?_
    refine wpd_r rfl (by first | exact trivial | exact rfl | exact ⟨rfl, rfl⟩ | exact ⟨rfl, by omega, by omega, rfl⟩ | exact ⟨by omega, by omega, rfl⟩ | exact ⟨rfl, rfl, rfl, rfl, rfl, fun h => nomatch h⟩ | omega | decide) rfl ?_
    refine wpd_s (opv_sto rfl rfl rfl rfl (sub_one (wArr_self b hi)) (upd_one (wArr_self b hi))) ⟨rfl, rfl, rfl, rfl, rfl, fun h => nomatch h⟩ (congrArg (fun l => Ob.mk 0 false none (.st l)) ((congrArg (fun x => (wArr b i).set i (uA x)) (if_neg h16).symm).trans (wArr_set b hi))) ?_
    refine ⟨rfl, .inr rfl, rfl, RK_region ?_⟩
    refine wpo_r rfl (by first | exact trivial | exact rfl | exact ⟨rfl, rfl⟩ | exact ⟨rfl, by omega, by omega, rfl⟩ | exact ⟨by omega, by omega, rfl⟩ | exact ⟨rfl, rfl, rfl, rfl, rfl, fun h => nomatch h⟩ | omega | decide) (congrArg (A.int .i64) (i64_add (j := 1) (by omega) (by omega))) ?_
    refine wpo_r rfl (by first | exact trivial | exact rfl | exact ⟨rfl, rfl⟩ | exact ⟨rfl, by omega, by omega, rfl⟩ | exact ⟨by omega, by omega, rfl⟩ | exact ⟨rfl, rfl, rfl, rfl, rfl, fun h => nomatch h⟩ | omega | decide) rfl ?_
    refine wpo_nil ?_
    exact ⟨rfl, le_st ⟨rfl, rfl, rfl, rfl, trivial⟩ ⟨rfl, rfl, trivial⟩ (Nat.le_refl _) rfl⟩

def tL (t : Nat) (j : Nat) : List (Nat × A) := [(0, .ptr 0 0 [] K8), (4, .ptr 1 0 [] (.node (List.replicate 64 .leaf))), (8, .ptr 2 0 [] (.node (List.replicate 64 .leaf))), (9, .ptr 3 0 [] K8), (t, .int .i64 (j : Int))]
def s2 (s : ShaV) (ws : List Nat) (j : Nat) : AS := stL (tL 99 j)
  [(0, ⟨0, false, none, sA s⟩), (1, ⟨0, false, none, .st (ws.map uA)⟩), (2, ⟨0, false, none, .st (shaK.map uA)⟩), (3, ⟨0, false, none, sA (vR ws shaK s j)⟩)] 4

theorem uget {b : List Nat} {i : Nat} (hi : i < b.length) : (b.map uA)[i]? = some (uA (b.getD i 0)) := by
  rw [List.getElem?_map, List.getD_eq_getElem?_getD, List.getElem?_eq_getElem hi]; rfl

theorem and_lt' {x y : Nat} (hx : x < 4294967296) : x &&& y < 4294967296 := by rw [Nat.and_comm]; exact and_lt hx

theorem shaK_lt : ∀ x ∈ shaK, x < 4294967296 := by decide

set_option maxRecDepth 100000 in
theorem loop2_body (s : ShaV) (hs : s.ok) (ws : List Nat) (hw : ∀ x ∈ ws, x < 4294967296) (hlen : ws.length = 64) (i : Nat) (hi : i < 64) :
    RK PP LL none 194 (loopOf Tryz.f156 1) (s2 s ws i) (fun e s' => e = .normal ∧ Le s' (s2 s ws (i + 1))) := by
  have hv : (vR ws shaK s i).ok := vR_ok hs i
  have W : ∀ j, ws.getD j 0 < 4294967296 := getD_lt hw
  have Kb : ∀ j, shaK.getD j 0 < 4294967296 := getD_lt shaK_lt
  have e2 : s2 s ws i = stL (tL 99 i) [(0, ⟨0, false, none, sA s⟩), (1, ⟨0, false, none, .st (ws.map uA)⟩), (2, ⟨0, false, none, .st (shaK.map uA)⟩), (3, ⟨0, false, none, sA (vR ws shaK s i)⟩)] 4 := rfl
  have e3 : sA (rnd (vR ws shaK s i) (shaK.getD i 0) (ws.getD i 0)) = sA (vR ws shaK s (i + 1)) := rfl
  rw [e2]
  generalize vR ws shaK s i = v at hv e3 ⊢
  have h1 : ∀ y ∈ v.l, y < 4294967296 := hv
  simp only [ShaV.l, List.mem_cons, List.not_mem_nil, or_false, forall_eq_or_imp, forall_eq] at h1
  obtain ⟨ha, hb, hc, hd, he, hf, hg, hh⟩ := h1
  refine RK_reg ?_
  refine wpo_r rfl (by first | exact trivial | exact rfl | exact ⟨rfl, rfl⟩ | exact ⟨rfl, by omega, by omega, rfl⟩ | exact ⟨by omega, by omega, rfl⟩ | exact ⟨rfl, rfl, rfl, rfl, rfl, fun h => nomatch h⟩ | omega | decide) rfl ?_
  refine wpo_nil ?_
  refine RK_on (t := decide ((i : Int) < 64)) rfl (decide_eq_true (by omega)) ?_
  refine RK_seq (RK_blk ?_)
  refine RK_reg ?_
  refine wpo_r rfl (by first | exact trivial | exact rfl | exact ⟨rfl, rfl⟩ | exact ⟨rfl, by omega, by omega, rfl⟩ | exact ⟨by omega, by omega, rfl⟩ | exact ⟨rfl, rfl, rfl, rfl, rfl, fun h => nomatch h⟩ | omega | decide) rfl ?_
  refine wpo_r rfl (by first | exact trivial | exact rfl | exact ⟨rfl, rfl⟩ | exact ⟨rfl, by omega, by omega, rfl⟩ | exact ⟨by omega, by omega, rfl⟩ | exact ⟨rfl, rfl, rfl, rfl, rfl, fun h => nomatch h⟩ | omega | decide) rfl ?_
  refine wpo_nil ?_
  refine RK_drw ?_
  refine wpd_r rfl (by first | exact trivial | exact rfl | exact ⟨rfl, rfl⟩ | exact ⟨rfl, by omega, by omega, rfl⟩ | exact ⟨by omega, by omega, rfl⟩ | exact ⟨rfl, rfl, rfl, rfl, rfl, fun h => nomatch h⟩ | omega | decide) rfl ?_
  refine wpd_r rfl (by first | exact trivial | exact rfl | exact ⟨rfl, rfl⟩ | exact ⟨rfl, by omega, by omega, rfl⟩ | exact ⟨by omega, by omega, rfl⟩ | exact ⟨rfl, rfl, rfl, rfl, rfl, fun h => nomatch h⟩ | omega | decide) rfl ?_
  refine wpd_r rfl (by first | exact trivial | exact rfl | exact ⟨rfl, rfl⟩ | exact ⟨rfl, by omega, by omega, rfl⟩ | exact ⟨by omega, by omega, rfl⟩ | exact ⟨rfl, rfl, rfl, rfl, rfl, fun h => nomatch h⟩ | omega | decide) rfl ?_
  refine wpd_r rfl (by first | exact trivial | exact rfl | exact ⟨rfl, rfl⟩ | exact ⟨rfl, by omega, by omega, rfl⟩ | exact ⟨by omega, by omega, rfl⟩ | exact ⟨rfl, rfl, rfl, rfl, rfl, fun h => nomatch h⟩ | omega | decide) rfl ?_
  refine wpd_r rfl (by first | exact trivial | exact rfl | exact ⟨rfl, rfl⟩ | exact ⟨rfl, by omega, by omega, rfl⟩ | exact ⟨by omega, by omega, rfl⟩ | exact ⟨rfl, rfl, rfl, rfl, rfl, fun h => nomatch h⟩ | omega | decide) rfl ?_
  refine wpd_r rfl (by first | exact trivial | exact rfl | exact ⟨rfl, rfl⟩ | exact ⟨rfl, by omega, by omega, rfl⟩ | exact ⟨by omega, by omega, rfl⟩ | exact ⟨rfl, rfl, rfl, rfl, rfl, fun h => nomatch h⟩ | omega | decide) rfl ?_
  refine ⟨rfl, ?_⟩
  refine RK_drw ?_
  refine wpd_r rfl (by first | exact trivial | exact rfl | exact ⟨rfl, rfl⟩ | exact ⟨rfl, by omega, by omega, rfl⟩ | exact ⟨by omega, by omega, rfl⟩ | exact ⟨rfl, rfl, rfl, rfl, rfl, fun h => nomatch h⟩ | omega | decide) rfl ?_
  refine wpd_r rfl (by first | exact trivial | exact rfl | exact ⟨rfl, rfl⟩ | exact ⟨rfl, by omega, by omega, rfl⟩ | exact ⟨by omega, by omega, rfl⟩ | exact ⟨rfl, rfl, rfl, rfl, rfl, fun h => nomatch h⟩ | omega | decide) rfl ?_
  refine wpd_r rfl (by first | exact trivial | exact rfl | exact ⟨rfl, rfl⟩ | exact ⟨rfl, by omega, by omega, rfl⟩ | exact ⟨by omega, by omega, rfl⟩ | exact ⟨rfl, rfl, rfl, rfl, rfl, fun h => nomatch h⟩ | omega | decide) rfl ?_
  refine wpd_c rfl rfl (by repeat (first | refine List.forall_mem_cons.2 ⟨rfl, ?_⟩ | exact List.forall_mem_nil _)) (right_con v.e 6 he (by omega) _ _) rfl ?_
  refine wpd_r rfl (by first | exact trivial | exact rfl | exact ⟨rfl, rfl⟩ | exact ⟨rfl, by omega, by omega, rfl⟩ | exact ⟨by omega, by omega, rfl⟩ | exact ⟨rfl, rfl, rfl, rfl, rfl, fun h => nomatch h⟩ | omega | decide) rfl ?_
  refine wpd_c rfl rfl (by repeat (first | refine List.forall_mem_cons.2 ⟨rfl, ?_⟩ | exact List.forall_mem_nil _)) (right_con v.e 11 he (by omega) _ _) rfl ?_
  refine wpd_r rfl (by first | exact trivial | exact rfl | exact ⟨rfl, rfl⟩ | exact ⟨rfl, by omega, by omega, rfl⟩ | exact ⟨by omega, by omega, rfl⟩ | exact ⟨rfl, rfl, rfl, rfl, rfl, fun h => nomatch h⟩ | omega | decide) (congrArg (A.int .u32) (xor_u32 (rr_lt he) (rr_lt he))) ?_
  refine wpd_r rfl (by first | exact trivial | exact rfl | exact ⟨rfl, rfl⟩ | exact ⟨rfl, by omega, by omega, rfl⟩ | exact ⟨by omega, by omega, rfl⟩ | exact ⟨rfl, rfl, rfl, rfl, rfl, fun h => nomatch h⟩ | omega | decide) rfl ?_
  refine wpd_c rfl rfl (by repeat (first | refine List.forall_mem_cons.2 ⟨rfl, ?_⟩ | exact List.forall_mem_nil _)) (right_con v.e 25 he (by omega) _ _) rfl ?_
  refine wpd_r rfl (by first | exact trivial | exact rfl | exact ⟨rfl, rfl⟩ | exact ⟨rfl, by omega, by omega, rfl⟩ | exact ⟨by omega, by omega, rfl⟩ | exact ⟨rfl, rfl, rfl, rfl, rfl, fun h => nomatch h⟩ | omega | decide) (congrArg (A.int .u32) (xor_u32 (xor_lt (rr_lt he) (rr_lt he)) (rr_lt he))) ?_
  refine wpd_r rfl (by first | exact trivial | exact rfl | exact ⟨rfl, rfl⟩ | exact ⟨rfl, by omega, by omega, rfl⟩ | exact ⟨by omega, by omega, rfl⟩ | exact ⟨rfl, rfl, rfl, rfl, rfl, fun h => nomatch h⟩ | omega | decide) (congrArg (A.int .u32) (add_u32 _ _)) ?_
  refine wpd_r rfl (by first | exact trivial | exact rfl | exact ⟨rfl, rfl⟩ | exact ⟨rfl, by omega, by omega, rfl⟩ | exact ⟨by omega, by omega, rfl⟩ | exact ⟨rfl, rfl, rfl, rfl, rfl, fun h => nomatch h⟩ | omega | decide) rfl ?_
  refine wpd_r rfl (by first | exact trivial | exact rfl | exact ⟨rfl, rfl⟩ | exact ⟨rfl, by omega, by omega, rfl⟩ | exact ⟨by omega, by omega, rfl⟩ | exact ⟨rfl, rfl, rfl, rfl, rfl, fun h => nomatch h⟩ | omega | decide) rfl ?_
  refine wpd_r rfl (by first | exact trivial | exact rfl | exact ⟨rfl, rfl⟩ | exact ⟨rfl, by omega, by omega, rfl⟩ | exact ⟨by omega, by omega, rfl⟩ | exact ⟨rfl, rfl, rfl, rfl, rfl, fun h => nomatch h⟩ | omega | decide) rfl ?_
  refine wpd_r rfl (by first | exact trivial | exact rfl | exact ⟨rfl, rfl⟩ | exact ⟨rfl, by omega, by omega, rfl⟩ | exact ⟨by omega, by omega, rfl⟩ | exact ⟨rfl, rfl, rfl, rfl, rfl, fun h => nomatch h⟩ | omega | decide) (congrArg (A.int .u32) (and_u32 he hf)) ?_
  refine wpd_r rfl (by first | exact trivial | exact rfl | exact ⟨rfl, rfl⟩ | exact ⟨rfl, by omega, by omega, rfl⟩ | exact ⟨by omega, by omega, rfl⟩ | exact ⟨rfl, rfl, rfl, rfl, rfl, fun h => nomatch h⟩ | omega | decide) rfl ?_
  refine wpd_r rfl (by first | exact trivial | exact rfl | exact ⟨rfl, rfl⟩ | exact ⟨rfl, by omega, by omega, rfl⟩ | exact ⟨by omega, by omega, rfl⟩ | exact ⟨rfl, rfl, rfl, rfl, rfl, fun h => nomatch h⟩ | omega | decide) (congrArg (A.int .u32) (not_u32 he)) ?_
  refine wpd_r rfl (by first | exact trivial | exact rfl | exact ⟨rfl, rfl⟩ | exact ⟨rfl, by omega, by omega, rfl⟩ | exact ⟨by omega, by omega, rfl⟩ | exact ⟨rfl, rfl, rfl, rfl, rfl, fun h => nomatch h⟩ | omega | decide) rfl ?_
  refine wpd_r rfl (by first | exact trivial | exact rfl | exact ⟨rfl, rfl⟩ | exact ⟨rfl, by omega, by omega, rfl⟩ | exact ⟨by omega, by omega, rfl⟩ | exact ⟨rfl, rfl, rfl, rfl, rfl, fun h => nomatch h⟩ | omega | decide) rfl ?_
  refine wpd_r rfl (by first | exact trivial | exact rfl | exact ⟨rfl, rfl⟩ | exact ⟨rfl, by omega, by omega, rfl⟩ | exact ⟨by omega, by omega, rfl⟩ | exact ⟨rfl, rfl, rfl, rfl, rfl, fun h => nomatch h⟩ | omega | decide) (congrArg (A.int .u32) (and_u32 (by omega) hg)) ?_
  refine wpd_r rfl (by first | exact trivial | exact rfl | exact ⟨rfl, rfl⟩ | exact ⟨rfl, by omega, by omega, rfl⟩ | exact ⟨by omega, by omega, rfl⟩ | exact ⟨rfl, rfl, rfl, rfl, rfl, fun h => nomatch h⟩ | omega | decide) (congrArg (A.int .u32) (xor_u32 (and_lt hf) (and_lt hg))) ?_
  refine wpd_r rfl (by first | exact trivial | exact rfl | exact ⟨rfl, rfl⟩ | exact ⟨rfl, by omega, by omega, rfl⟩ | exact ⟨by omega, by omega, rfl⟩ | exact ⟨rfl, rfl, rfl, rfl, rfl, fun h => nomatch h⟩ | omega | decide) (congrArg (A.int .u32) (add_u32 _ _)) ?_
  refine wpd_r rfl (by first | exact trivial | exact rfl | exact ⟨rfl, rfl⟩ | exact ⟨rfl, by omega, by omega, rfl⟩ | exact ⟨by omega, by omega, rfl⟩ | exact ⟨rfl, rfl, rfl, rfl, rfl, fun h => nomatch h⟩ | omega | decide) rfl ?_
  refine wpd_r rfl (by first | exact trivial | exact rfl | exact ⟨rfl, rfl⟩ | exact ⟨rfl, by omega, by omega, rfl⟩ | exact ⟨by omega, by omega, rfl⟩ | exact ⟨rfl, rfl, rfl, rfl, rfl, fun h => nomatch h⟩ | omega | decide) rfl ?_
  refine wpd_r (opv_ld rfl rfl rfl (sub_one (uget (b := shaK) (i := i) hi))) ⟨rfl, rfl⟩ rfl ?_
  refine wpd_r rfl (by first | exact trivial | exact rfl | exact ⟨rfl, rfl⟩ | exact ⟨rfl, by omega, by omega, rfl⟩ | exact ⟨by omega, by omega, rfl⟩ | exact ⟨rfl, rfl, rfl, rfl, rfl, fun h => nomatch h⟩ | omega | decide) (congrArg (A.int .u32) (add_u32 _ _)) ?_
  refine wpd_r rfl (by first | exact trivial | exact rfl | exact ⟨rfl, rfl⟩ | exact ⟨rfl, by omega, by omega, rfl⟩ | exact ⟨by omega, by omega, rfl⟩ | exact ⟨rfl, rfl, rfl, rfl, rfl, fun h => nomatch h⟩ | omega | decide) rfl ?_
  refine wpd_r rfl (by first | exact trivial | exact rfl | exact ⟨rfl, rfl⟩ | exact ⟨rfl, by omega, by omega, rfl⟩ | exact ⟨by omega, by omega, rfl⟩ | exact ⟨rfl, rfl, rfl, rfl, rfl, fun h => nomatch h⟩ | omega | decide) rfl ?_
  refine wpd_r (opv_ld rfl rfl rfl (sub_one (uget (b := ws) (i := i) (by omega)))) ⟨rfl, rfl⟩ rfl ?_
  refine wpd_r rfl (by first | exact trivial | exact rfl | exact ⟨rfl, rfl⟩ | exact ⟨rfl, by omega, by omega, rfl⟩ | exact ⟨by omega, by omega, rfl⟩ | exact ⟨rfl, rfl, rfl, rfl, rfl, fun h => nomatch h⟩ | omega | decide) (congrArg (A.int .u32) (add_u32 _ _)) ?_
  refine wpd_r rfl (by first | exact trivial | exact rfl | exact ⟨rfl, rfl⟩ | exact ⟨rfl, by omega, by omega, rfl⟩ | exact ⟨by omega, by omega, rfl⟩ | exact ⟨rfl, rfl, rfl, rfl, rfl, fun h => nomatch h⟩ | omega | decide) rfl ?_
  refine ⟨rfl, ?_⟩
  refine RK_drw ?_
  refine wpd_r rfl (by first | exact trivial | exact rfl | exact ⟨rfl, rfl⟩ | exact ⟨rfl, by omega, by omega, rfl⟩ | exact ⟨by omega, by omega, rfl⟩ | exact ⟨rfl, rfl, rfl, rfl, rfl, fun h => nomatch h⟩ | omega | decide) rfl ?_
  refine wpd_c rfl rfl (by repeat (first | refine List.forall_mem_cons.2 ⟨rfl, ?_⟩ | exact List.forall_mem_nil _)) (right_con v.a 2 ha (by omega) _ _) rfl ?_
  refine wpd_r rfl (by first | exact trivial | exact rfl | exact ⟨rfl, rfl⟩ | exact ⟨rfl, by omega, by omega, rfl⟩ | exact ⟨by omega, by omega, rfl⟩ | exact ⟨rfl, rfl, rfl, rfl, rfl, fun h => nomatch h⟩ | omega | decide) rfl ?_
  refine wpd_c rfl rfl (by repeat (first | refine List.forall_mem_cons.2 ⟨rfl, ?_⟩ | exact List.forall_mem_nil _)) (right_con v.a 13 ha (by omega) _ _) rfl ?_
  refine wpd_r rfl (by first | exact trivial | exact rfl | exact ⟨rfl, rfl⟩ | exact ⟨rfl, by omega, by omega, rfl⟩ | exact ⟨by omega, by omega, rfl⟩ | exact ⟨rfl, rfl, rfl, rfl, rfl, fun h => nomatch h⟩ | omega | decide) (congrArg (A.int .u32) (xor_u32 (rr_lt ha) (rr_lt ha))) ?_
  refine wpd_r rfl (by first | exact trivial | exact rfl | exact ⟨rfl, rfl⟩ | exact ⟨rfl, by omega, by omega, rfl⟩ | exact ⟨by omega, by omega, rfl⟩ | exact ⟨rfl, rfl, rfl, rfl, rfl, fun h => nomatch h⟩ | omega | decide) rfl ?_
  refine wpd_c rfl rfl (by repeat (first | refine List.forall_mem_cons.2 ⟨rfl, ?_⟩ | exact List.forall_mem_nil _)) (right_con v.a 22 ha (by omega) _ _) rfl ?_
  refine wpd_r rfl (by first | exact trivial | exact rfl | exact ⟨rfl, rfl⟩ | exact ⟨rfl, by omega, by omega, rfl⟩ | exact ⟨by omega, by omega, rfl⟩ | exact ⟨rfl, rfl, rfl, rfl, rfl, fun h => nomatch h⟩ | omega | decide) (congrArg (A.int .u32) (xor_u32 (xor_lt (rr_lt ha) (rr_lt ha)) (rr_lt ha))) ?_
  refine wpd_r rfl (by first | exact trivial | exact rfl | exact ⟨rfl, rfl⟩ | exact ⟨rfl, by omega, by omega, rfl⟩ | exact ⟨by omega, by omega, rfl⟩ | exact ⟨rfl, rfl, rfl, rfl, rfl, fun h => nomatch h⟩ | omega | decide) rfl ?_
  refine wpd_r rfl (by first | exact trivial | exact rfl | exact ⟨rfl, rfl⟩ | exact ⟨rfl, by omega, by omega, rfl⟩ | exact ⟨by omega, by omega, rfl⟩ | exact ⟨rfl, rfl, rfl, rfl, rfl, fun h => nomatch h⟩ | omega | decide) rfl ?_
  refine wpd_r rfl (by first | exact trivial | exact rfl | exact ⟨rfl, rfl⟩ | exact ⟨rfl, by omega, by omega, rfl⟩ | exact ⟨by omega, by omega, rfl⟩ | exact ⟨rfl, rfl, rfl, rfl, rfl, fun h => nomatch h⟩ | omega | decide) rfl ?_
  refine wpd_r rfl (by first | exact trivial | exact rfl | exact ⟨rfl, rfl⟩ | exact ⟨rfl, by omega, by omega, rfl⟩ | exact ⟨by omega, by omega, rfl⟩ | exact ⟨rfl, rfl, rfl, rfl, rfl, fun h => nomatch h⟩ | omega | decide) (congrArg (A.int .u32) (and_u32 ha hb)) ?_
  refine wpd_r rfl (by first | exact trivial | exact rfl | exact ⟨rfl, rfl⟩ | exact ⟨rfl, by omega, by omega, rfl⟩ | exact ⟨by omega, by omega, rfl⟩ | exact ⟨rfl, rfl, rfl, rfl, rfl, fun h => nomatch h⟩ | omega | decide) rfl ?_
  refine wpd_r rfl (by first | exact trivial | exact rfl | exact ⟨rfl, rfl⟩ | exact ⟨rfl, by omega, by omega, rfl⟩ | exact ⟨by omega, by omega, rfl⟩ | exact ⟨rfl, rfl, rfl, rfl, rfl, fun h => nomatch h⟩ | omega | decide) rfl ?_
  refine wpd_r rfl (by first | exact trivial | exact rfl | exact ⟨rfl, rfl⟩ | exact ⟨rfl, by omega, by omega, rfl⟩ | exact ⟨by omega, by omega, rfl⟩ | exact ⟨rfl, rfl, rfl, rfl, rfl, fun h => nomatch h⟩ | omega | decide) rfl ?_
  refine wpd_r rfl (by first | exact trivial | exact rfl | exact ⟨rfl, rfl⟩ | exact ⟨rfl, by omega, by omega, rfl⟩ | exact ⟨by omega, by omega, rfl⟩ | exact ⟨rfl, rfl, rfl, rfl, rfl, fun h => nomatch h⟩ | omega | decide) (congrArg (A.int .u32) (and_u32 ha hc)) ?_
  refine wpd_r rfl (by first | exact trivial | exact rfl | exact ⟨rfl, rfl⟩ | exact ⟨rfl, by omega, by omega, rfl⟩ | exact ⟨by omega, by omega, rfl⟩ | exact ⟨rfl, rfl, rfl, rfl, rfl, fun h => nomatch h⟩ | omega | decide) (congrArg (A.int .u32) (xor_u32 (and_lt hb) (and_lt hc))) ?_
  refine wpd_r rfl (by first | exact trivial | exact rfl | exact ⟨rfl, rfl⟩ | exact ⟨rfl, by omega, by omega, rfl⟩ | exact ⟨by omega, by omega, rfl⟩ | exact ⟨rfl, rfl, rfl, rfl, rfl, fun h => nomatch h⟩ | omega | decide) rfl ?_
  refine wpd_r rfl (by first | exact trivial | exact rfl | exact ⟨rfl, rfl⟩ | exact ⟨rfl, by omega, by omega, rfl⟩ | exact ⟨by omega, by omega, rfl⟩ | exact ⟨rfl, rfl, rfl, rfl, rfl, fun h => nomatch h⟩ | omega | decide) rfl ?_
  refine wpd_r rfl (by first | exact trivial | exact rfl | exact ⟨rfl, rfl⟩ | exact ⟨rfl, by omega, by omega, rfl⟩ | exact ⟨by omega, by omega, rfl⟩ | exact ⟨rfl, rfl, rfl, rfl, rfl, fun h => nomatch h⟩ | omega | decide) rfl ?_
  refine wpd_r rfl (by first | exact trivial | exact rfl | exact ⟨rfl, rfl⟩ | exact ⟨rfl, by omega, by omega, rfl⟩ | exact ⟨by omega, by omega, rfl⟩ | exact ⟨rfl, rfl, rfl, rfl, rfl, fun h => nomatch h⟩ | omega | decide) rfl ?_
  refine wpd_r rfl (by first | exact trivial | exact rfl | exact ⟨rfl, rfl⟩ | exact ⟨rfl, by omega, by omega, rfl⟩ | exact ⟨by omega, by omega, rfl⟩ | exact ⟨rfl, rfl, rfl, rfl, rfl, fun h => nomatch h⟩ | omega | decide) (congrArg (A.int .u32) (and_u32 hb hc)) ?_
  refine wpd_r rfl (by first | exact trivial | exact rfl | exact ⟨rfl, rfl⟩ | exact ⟨rfl, by omega, by omega, rfl⟩ | exact ⟨by omega, by omega, rfl⟩ | exact ⟨rfl, rfl, rfl, rfl, rfl, fun h => nomatch h⟩ | omega | decide) (congrArg (A.int .u32) (xor_u32 (xor_lt (and_lt hb) (and_lt hc)) (and_lt hc))) ?_
  refine wpd_r rfl (by first | exact trivial | exact rfl | exact ⟨rfl, rfl⟩ | exact ⟨rfl, by omega, by omega, rfl⟩ | exact ⟨by omega, by omega, rfl⟩ | exact ⟨rfl, rfl, rfl, rfl, rfl, fun h => nomatch h⟩ | omega | decide) (congrArg (A.int .u32) (add_u32 _ _)) ?_
  refine wpd_r rfl (by first | exact trivial | exact rfl | exact ⟨rfl, rfl⟩ | exact ⟨rfl, by omega, by omega, rfl⟩ | exact ⟨by omega, by omega, rfl⟩ | exact ⟨rfl, rfl, rfl, rfl, rfl, fun h => nomatch h⟩ | omega | decide) rfl ?_
  refine ⟨rfl, RK_region ?_⟩
  refine wpo_r rfl (by first | exact trivial | exact rfl | exact ⟨rfl, rfl⟩ | exact ⟨rfl, by omega, by omega, rfl⟩ | exact ⟨by omega, by omega, rfl⟩ | exact ⟨rfl, rfl, rfl, rfl, rfl, fun h => nomatch h⟩ | omega | decide) rfl ?_
  refine wpo_r rfl (by first | exact trivial | exact rfl | exact ⟨rfl, rfl⟩ | exact ⟨rfl, by omega, by omega, rfl⟩ | exact ⟨by omega, by omega, rfl⟩ | exact ⟨rfl, rfl, rfl, rfl, rfl, fun h => nomatch h⟩ | omega | decide) rfl ?_
  refine wpo_r rfl (by first | exact trivial | exact rfl | exact ⟨rfl, rfl⟩ | exact ⟨rfl, by omega, by omega, rfl⟩ | exact ⟨by omega, by omega, rfl⟩ | exact ⟨rfl, rfl, rfl, rfl, rfl, fun h => nomatch h⟩ | omega | decide) (congrArg (A.int .u32) (add_u32 _ _)) ?_
  refine wpo_r rfl (by first | exact trivial | exact rfl | exact ⟨rfl, rfl⟩ | exact ⟨rfl, by omega, by omega, rfl⟩ | exact ⟨by omega, by omega, rfl⟩ | exact ⟨rfl, rfl, rfl, rfl, rfl, fun h => nomatch h⟩ | omega | decide) rfl ?_
  refine wpo_r rfl (by first | exact trivial | exact rfl | exact ⟨rfl, rfl⟩ | exact ⟨rfl, by omega, by omega, rfl⟩ | exact ⟨by omega, by omega, rfl⟩ | exact ⟨rfl, rfl, rfl, rfl, rfl, fun h => nomatch h⟩ | omega | decide) rfl ?_
  refine wpo_r rfl (by first | exact trivial | exact rfl | exact ⟨rfl, rfl⟩ | exact ⟨rfl, by omega, by omega, rfl⟩ | exact ⟨by omega, by omega, rfl⟩ | exact ⟨rfl, rfl, rfl, rfl, rfl, fun h => nomatch h⟩ | omega | decide) rfl ?_
  refine wpo_r rfl (by first | exact trivial | exact rfl | exact ⟨rfl, rfl⟩ | exact ⟨rfl, by omega, by omega, rfl⟩ | exact ⟨by omega, by omega, rfl⟩ | exact ⟨rfl, rfl, rfl, rfl, rfl, fun h => nomatch h⟩ | omega | decide) rfl ?_
  refine wpo_r rfl (by first | exact trivial | exact rfl | exact ⟨rfl, rfl⟩ | exact ⟨rfl, by omega, by omega, rfl⟩ | exact ⟨by omega, by omega, rfl⟩ | exact ⟨rfl, rfl, rfl, rfl, rfl, fun h => nomatch h⟩ | omega | decide) rfl ?_
  refine wpo_r rfl (by first | exact trivial | exact rfl | exact ⟨rfl, rfl⟩ | exact ⟨rfl, by omega, by omega, rfl⟩ | exact ⟨by omega, by omega, rfl⟩ | exact ⟨rfl, rfl, rfl, rfl, rfl, fun h => nomatch h⟩ | omega | decide) rfl ?_
  refine wpo_r rfl (by first | exact trivial | exact rfl | exact ⟨rfl, rfl⟩ | exact ⟨rfl, by omega, by omega, rfl⟩ | exact ⟨by omega, by omega, rfl⟩ | exact ⟨rfl, rfl, rfl, rfl, rfl, fun h => nomatch h⟩ | omega | decide) rfl ?_
  refine wpo_r rfl (by first | exact trivial | exact rfl | exact ⟨rfl, rfl⟩ | exact ⟨rfl, by omega, by omega, rfl⟩ | exact ⟨by omega, by omega, rfl⟩ | exact ⟨rfl, rfl, rfl, rfl, rfl, fun h => nomatch h⟩ | omega | decide) rfl ?_
  refine wpo_r rfl (by first | exact trivial | exact rfl | exact ⟨rfl, rfl⟩ | exact ⟨rfl, by omega, by omega, rfl⟩ | exact ⟨by omega, by omega, rfl⟩ | exact ⟨rfl, rfl, rfl, rfl, rfl, fun h => nomatch h⟩ | omega | decide) (congrArg (A.int .u32) (add_u32 _ _)) ?_
  refine wpo_r rfl (by first | exact trivial | exact rfl | exact ⟨rfl, rfl⟩ | exact ⟨rfl, by omega, by omega, rfl⟩ | exact ⟨by omega, by omega, rfl⟩ | exact ⟨rfl, rfl, rfl, rfl, rfl, fun h => nomatch h⟩ | omega | decide) rfl ?_
  refine wpo_r rfl (by first | exact trivial | exact rfl | exact ⟨rfl, rfl⟩ | exact ⟨rfl, by omega, by omega, rfl⟩ | exact ⟨by omega, by omega, rfl⟩ | exact ⟨rfl, rfl, rfl, rfl, rfl, fun h => nomatch h⟩ | omega | decide) rfl ?_
  refine wpo_r rfl (by first | exact trivial | exact rfl | exact ⟨rfl, rfl⟩ | exact ⟨rfl, by omega, by omega, rfl⟩ | exact ⟨by omega, by omega, rfl⟩ | exact ⟨rfl, rfl, rfl, rfl, rfl, fun h => nomatch h⟩ | omega | decide) rfl ?_
  refine wpo_r rfl (by first | exact trivial | exact rfl | exact ⟨rfl, rfl⟩ | exact ⟨rfl, by omega, by omega, rfl⟩ | exact ⟨by omega, by omega, rfl⟩ | exact ⟨rfl, rfl, rfl, rfl, rfl, fun h => nomatch h⟩ | omega | decide) rfl ?_
  refine wpo_r rfl (by first | exact trivial | exact rfl | exact ⟨rfl, rfl⟩ | exact ⟨rfl, by omega, by omega, rfl⟩ | exact ⟨by omega, by omega, rfl⟩ | exact ⟨rfl, rfl, rfl, rfl, rfl, fun h => nomatch h⟩ | omega | decide) rfl ?_
  refine wpo_r rfl ⟨⟨⟨⟨⟨⟨⟨⟨trivial, rfl, rfl⟩, rfl, rfl⟩, rfl, rfl⟩, rfl, rfl⟩, rfl, rfl⟩, rfl, rfl⟩, rfl, rfl⟩, rfl, rfl⟩ rfl ?_
  refine wpo_s rfl (by first | exact trivial | exact rfl | exact ⟨rfl, rfl⟩ | exact ⟨rfl, by omega, by omega, rfl⟩ | exact ⟨by omega, by omega, rfl⟩ | exact ⟨rfl, rfl, rfl, rfl, rfl, fun h => nomatch h⟩ | omega | decide) ((congrArg (Ob.mk 0 false none) e3)) ?_
  refine wpo_nil ?_
  refine ⟨.inr rfl, rfl, RK_region ?_⟩
  refine wpo_r rfl (by first | exact trivial | exact rfl | exact ⟨rfl, rfl⟩ | exact ⟨rfl, by omega, by omega, rfl⟩ | exact ⟨by omega, by omega, rfl⟩ | exact ⟨rfl, rfl, rfl, rfl, rfl, fun h => nomatch h⟩ | omega | decide) (congrArg (A.int .i64) (i64_add (j := 1) (by omega) (by omega))) ?_
  refine wpo_r rfl (by first | exact trivial | exact rfl | exact ⟨rfl, rfl⟩ | exact ⟨rfl, by omega, by omega, rfl⟩ | exact ⟨by omega, by omega, rfl⟩ | exact ⟨rfl, rfl, rfl, rfl, rfl, fun h => nomatch h⟩ | omega | decide) rfl ?_
  refine wpo_nil ?_
  exact ⟨rfl, le_st ⟨rfl, rfl, rfl, rfl, rfl, trivial⟩ ⟨rfl, rfl, rfl, rfl, trivial⟩ (Nat.le_refl _) rfl⟩

def aL (s v : ShaV) (i : Nat) : List Nat := (addV s v).l.take i ++ s.l.drop i
def s3 (s v : ShaV) (j : Nat) : AS := stL [(0, .ptr 0 0 [] K8), (179, sA v), (180, .int .i64 (j : Int))] [(0, ⟨0, false, none, .st ((aL s v j).map uA)⟩)] 4

set_option maxRecDepth 100000 in
theorem loop3_body (s v : ShaV) (i : Nat) (hi : i < 8) :
    RK PP LL none 194 (loopOf Tryz.f156 2) (s3 s v i) (fun e s' => e = .normal ∧ Le s' (s3 s v (i + 1))) := by
  have hj : i = 0 ∨ i = 1 ∨ i = 2 ∨ i = 3 ∨ i = 4 ∨ i = 5 ∨ i = 6 ∨ i = 7 := by omega
  rcases hj with rfl | rfl | rfl | rfl | rfl | rfl | rfl | rfl
  all_goals
    refine RK_reg ?_
    refine wpo_r rfl (by first | exact trivial | exact rfl | exact ⟨rfl, rfl⟩ | exact ⟨rfl, by omega, by omega, rfl⟩ | exact ⟨by omega, by omega, rfl⟩ | exact ⟨rfl, rfl, rfl, rfl, rfl, fun h => nomatch h⟩ | omega | decide) rfl ?_
    refine wpo_nil ?_
    refine RK_on (t := true) rfl rfl ?_
    refine RK_seq (RK_blk ?_)
    refine RK_reg ?_
    refine wpo_r rfl (by first | exact trivial | exact rfl | exact ⟨rfl, rfl⟩ | exact ⟨rfl, by omega, by omega, rfl⟩ | exact ⟨by omega, by omega, rfl⟩ | exact ⟨rfl, rfl, rfl, rfl, rfl, fun h => nomatch h⟩ | omega | decide) rfl ?_
    refine wpo_r rfl (by first | exact trivial | exact rfl | exact ⟨rfl, rfl⟩ | exact ⟨rfl, by omega, by omega, rfl⟩ | exact ⟨by omega, by omega, rfl⟩ | exact ⟨rfl, rfl, rfl, rfl, rfl, fun h => nomatch h⟩ | omega | decide) rfl ?_
    refine wpo_r rfl (by first | exact trivial | exact rfl | exact ⟨rfl, rfl⟩ | exact ⟨rfl, by omega, by omega, rfl⟩ | exact ⟨by omega, by omega, rfl⟩ | exact ⟨rfl, rfl, rfl, rfl, rfl, fun h => nomatch h⟩ | omega | decide) rfl ?_
    refine wpo_r rfl (by first | exact trivial | exact rfl | exact ⟨rfl, rfl⟩ | exact ⟨rfl, by omega, by omega, rfl⟩ | exact ⟨by omega, by omega, rfl⟩ | exact ⟨rfl, rfl, rfl, rfl, rfl, fun h => nomatch h⟩ | omega | decide) rfl ?_
    refine wpo_nil ?_
    refine RK_drawn ?_
    refine wpd_r rfl (by first | exact trivial | exact rfl | exact ⟨rfl, rfl⟩ | exact ⟨rfl, by omega, by omega, rfl⟩ | exact ⟨by omega, by omega, rfl⟩ | exact ⟨rfl, rfl, rfl, rfl, rfl, fun h => nomatch h⟩ | omega | decide) rfl ?_
    refine wpd_r rfl (by first | exact trivial | exact rfl | exact ⟨rfl, rfl⟩ | exact ⟨rfl, by omega, by omega, rfl⟩ | exact ⟨by omega, by omega, rfl⟩ | exact ⟨rfl, rfl, rfl, rfl, rfl, fun h => nomatch h⟩ | omega | decide) rfl ?_
    refine wpd_r rfl (by first | exact trivial | exact rfl | exact ⟨rfl, rfl⟩ | exact ⟨rfl, by omega, by omega, rfl⟩ | exact ⟨by omega, by omega, rfl⟩ | exact ⟨rfl, rfl, rfl, rfl, rfl, fun h => nomatch h⟩ | omega | decide) rfl ?_
    refine wpd_r rfl (by first | exact trivial | exact rfl | exact ⟨rfl, rfl⟩ | exact ⟨rfl, by omega, by omega, rfl⟩ | exact ⟨by omega, by omega, rfl⟩ | exact ⟨rfl, rfl, rfl, rfl, rfl, fun h => nomatch h⟩ | omega | decide) rfl ?_
    refine wpd_r rfl (by first | exact trivial | exact rfl | exact ⟨rfl, rfl⟩ | exact ⟨rfl, by omega, by omega, rfl⟩ | exact ⟨by omega, by omega, rfl⟩ | exact ⟨rfl, rfl, rfl, rfl, rfl, fun h => nomatch h⟩ | omega | decide) rfl ?_
    refine wpd_r rfl (by first | exact trivial | exact rfl | exact ⟨rfl, rfl⟩ | exact ⟨rfl, by omega, by omega, rfl⟩ | exact ⟨by omega, by omega, rfl⟩ | exact ⟨rfl, rfl, rfl, rfl, rfl, fun h => nomatch h⟩ | omega | decide) rfl ?_
    refine wpd_r rfl (by first | exact trivial | exact rfl | exact ⟨rfl, rfl⟩ | exact ⟨rfl, by omega, by omega, rfl⟩ | exact ⟨by omega, by omega, rfl⟩ | exact ⟨rfl, rfl, rfl, rfl, rfl, fun h => nomatch h⟩ | omega | decide) (congrArg (A.int .u32) (add_u32 _ _)) ?_
    refine wpd_r rfl (by first | exact trivial | exact rfl | exact ⟨rfl, rfl⟩ | exact ⟨rfl, by omega, by omega, rfl⟩ | exact ⟨by omega, by omega, rfl⟩ | exact ⟨rfl, rfl, rfl, rfl, rfl, fun h => nomatch h⟩ | omega | decide) rfl ?_
    refine wpd_r rfl (by first | exact trivial | exact rfl | exact ⟨rfl, rfl⟩ | exact ⟨rfl, by omega, by omega, rfl⟩ | exact ⟨by omega, by omega, rfl⟩ | exact ⟨rfl, rfl, rfl, rfl, rfl, fun h => nomatch h⟩ | omega | decide) rfl ?_
    refine wpd_s rfl (by first | exact trivial | exact rfl | exact ⟨rfl, rfl⟩ | exact ⟨rfl, by omega, by omega, rfl⟩ | exact ⟨by omega, by omega, rfl⟩ | exact ⟨rfl, rfl, rfl, rfl, rfl, fun h => nomatch h⟩ | omega | decide) rfl ?_
    refine ⟨rfl, .inr rfl, rfl, RK_region ?_⟩
    refine wpo_r rfl (by first | exact trivial | exact rfl | exact ⟨rfl, rfl⟩ | exact ⟨rfl, by omega, by omega, rfl⟩ | exact ⟨by omega, by omega, rfl⟩ | exact ⟨rfl, rfl, rfl, rfl, rfl, fun h => nomatch h⟩ | omega | decide) rfl ?_
    refine wpo_r rfl (by first | exact trivial | exact rfl | exact ⟨rfl, rfl⟩ | exact ⟨rfl, by omega, by omega, rfl⟩ | exact ⟨by omega, by omega, rfl⟩ | exact ⟨rfl, rfl, rfl, rfl, rfl, fun h => nomatch h⟩ | omega | decide) rfl ?_
    refine wpo_nil ?_
    exact ⟨rfl, le_st ⟨rfl, rfl, rfl, trivial⟩ ⟨rfl, trivial⟩ (Nat.le_refl _) rfl⟩

theorem num_con : Pure PP LL 198 [] (.st (shaK.map uA)) := pureOf_sound (KE_ok E0_ok) (n := 40) (by kernel_rfl)

theorem wR_rev_lt {b : List Nat} (hb : ∀ x ∈ b, x < 256) (i : Nat) : ∀ x ∈ (wR b i).reverse, x < 4294967296 := fun x hx => wR_lt hb i x (List.mem_reverse.1 hx)

theorem wArr64 (b : List Nat) : wArr b 64 = (wR b 64).reverse.map uA := by
  unfold wArr
  rw [show (64 : Nat) - 64 = 0 from rfl, List.replicate_zero, List.append_nil]

set_option maxRecDepth 100000 in
theorem add_con (s : ShaV) (hs : s.ok) (b : List Nat) (hb : ∀ x ∈ b, x < 256) (hlen : b.length = 64) {hp : Hp} {nx o : Nat} (ho : hp o = some ⟨0, false, none, sA s⟩) :
    CallD PP LL 156 [.ptr o 0 [] K8, .sl 5 (b.map bA)] hp nx ⟨.tup [], [(o, ⟨0, false, none, sA (addR s b)⟩)], [o], 0⟩ := by
  have hbr : A.rlL (b.map bA) = [] := by
    clear hlen hb
    induction b with
    | nil => rfl
    | cons x l ih => exact ih
  have key := callD_one LL_ok Tryz.func156 (by rfl) rfl (vs := [.ptr 0 0 [] K8, .sl 5 (b.map bA)]) (x0 := ⟨0, false, none, sA s⟩) (x1 := ⟨0, false, none, sA (addR s b)⟩) (rs := []) (by simp [Tryz.f156])
    (refs_rlL _ _ (by simp only [A.rlL, A.rl, hbr]; simp)) (by rfl) (by rfl) (fun _ => rfl) (fin (f := 156) (fn := Tryz.f156) rfl rfl ?_) (by rfl) (by simp) (hp := hp) (nx := nx) ho
  · have e : [A.ptr 0 0 [] K8, .sl 5 (b.map bA)].map (A.ren fun i => if i < 1 then o else nx) = [.ptr o 0 [] K8, .sl 5 (b.map bA)] := by
      simp only [List.map_cons, List.map_nil, A.ren, renL_nil _ hbr]
      rfl
    rw [e] at key
    exact key
  refine RK_reg ?_
  refine wpo_w rfl (by first | exact trivial | exact rfl | exact ⟨rfl, rfl⟩ | exact ⟨rfl, by omega, by omega, rfl⟩ | exact ⟨by omega, by omega, rfl⟩ | exact ⟨rfl, rfl, rfl, rfl, rfl, fun h => nomatch h⟩ | omega | decide) ?_
  refine wpo_nil ?_
  refine RK_seq ?_
  refine RK_reg ?_
  refine wpo_r rfl (by first | exact trivial | exact rfl | exact ⟨rfl, rfl⟩ | exact ⟨rfl, by omega, by omega, rfl⟩ | exact ⟨by omega, by omega, rfl⟩ | exact ⟨rfl, rfl, rfl, rfl, rfl, fun h => nomatch h⟩ | omega | decide) rfl ?_
  refine wpo_nil ?_
  refine RK_for (s1 s b) 64 (le_st ⟨rfl, rfl, rfl, rfl, trivial⟩ ⟨rfl, rfl, trivial⟩ (Nat.le_refl _) rfl) (fun i hi => loop1_body s b hb hlen i hi) ?_ ?_
  · refine RK_reg ?_
    refine wpo_r rfl (by first | exact trivial | exact rfl | exact ⟨rfl, rfl⟩ | exact ⟨rfl, by omega, by omega, rfl⟩ | exact ⟨by omega, by omega, rfl⟩ | exact ⟨rfl, rfl, rfl, rfl, rfl, fun h => nomatch h⟩ | omega | decide) rfl ?_
    refine wpo_nil ?_
    exact RK_out (t := false) rfl rfl ⟨rfl, le_st ⟨rfl, rfl, rfl, rfl, trivial⟩ ⟨rfl, rfl, trivial⟩ (Nat.le_refl _) rfl⟩
  intro t1 ht1
  refine ⟨rfl, RK_weak ?_ ht1⟩
  have e1 : s1 s b 64 = stL [(0, .ptr 0 0 [] K8), (1, .sl 5 (b.map bA)), (4, .ptr 1 0 [] (.node (List.replicate 64 .leaf))), (17, .int .i64 (64 : Int))]
    [(0, ⟨0, false, none, sA s⟩), (1, ⟨0, false, none, .st ((wR b 64).reverse.map uA)⟩)] 2 := by unfold s1; rw [wArr64]; rfl
  rw [e1]
  have hw := wR_rev_lt hb 64
  have hwl : (wR b 64).reverse.length = 64 := by simp [wR_len]
  have ea : addR s b = addV s (vR (wR b 64).reverse shaK s 64) := rfl
  rw [ea]
  generalize (wR b 64).reverse = ws at hw hwl ⊢
  refine RK_reg ?_
  refine wpo_c rfl rfl (by repeat (first | refine List.forall_mem_cons.2 ⟨rfl, ?_⟩ | exact List.forall_mem_nil _)) (num_con _ _) rfl ?_
  refine wpo_w rfl (by first | exact trivial | exact rfl | exact ⟨rfl, rfl⟩ | exact ⟨rfl, by omega, by omega, rfl⟩ | exact ⟨by omega, by omega, rfl⟩ | exact ⟨rfl, rfl, rfl, rfl, rfl, fun h => nomatch h⟩ | omega | decide) ?_
  refine wpo_s rfl (by first | exact trivial | exact rfl | exact ⟨rfl, rfl⟩ | exact ⟨rfl, by omega, by omega, rfl⟩ | exact ⟨by omega, by omega, rfl⟩ | exact ⟨rfl, rfl, rfl, rfl, rfl, fun h => nomatch h⟩ | omega | decide) rfl ?_
  refine wpo_nil ?_
  refine RK_reg ?_
  refine wpo_r rfl (by first | exact trivial | exact rfl | exact ⟨rfl, rfl⟩ | exact ⟨rfl, by omega, by omega, rfl⟩ | exact ⟨by omega, by omega, rfl⟩ | exact ⟨rfl, rfl, rfl, rfl, rfl, fun h => nomatch h⟩ | omega | decide) rfl ?_
  refine wpo_r rfl (by first | exact trivial | exact rfl | exact ⟨rfl, rfl⟩ | exact ⟨rfl, by omega, by omega, rfl⟩ | exact ⟨by omega, by omega, rfl⟩ | exact ⟨rfl, rfl, rfl, rfl, rfl, fun h => nomatch h⟩ | omega | decide) rfl ?_
  refine wpo_r rfl (by first | exact trivial | exact rfl | exact ⟨rfl, rfl⟩ | exact ⟨rfl, by omega, by omega, rfl⟩ | exact ⟨by omega, by omega, rfl⟩ | exact ⟨rfl, rfl, rfl, rfl, rfl, fun h => nomatch h⟩ | omega | decide) rfl ?_
  refine wpo_w rfl (by first | exact trivial | exact rfl | exact ⟨rfl, rfl⟩ | exact ⟨rfl, by omega, by omega, rfl⟩ | exact ⟨by omega, by omega, rfl⟩ | exact ⟨rfl, rfl, rfl, rfl, rfl, fun h => nomatch h⟩ | omega | decide) ?_
  refine wpo_s rfl (by first | exact trivial | exact rfl | exact ⟨rfl, rfl⟩ | exact ⟨rfl, by omega, by omega, rfl⟩ | exact ⟨by omega, by omega, rfl⟩ | exact ⟨rfl, rfl, rfl, rfl, rfl, fun h => nomatch h⟩ | omega | decide) rfl ?_
  refine wpo_nil ?_
  refine RK_seq ?_
  refine RK_reg ?_
  refine wpo_r rfl (by first | exact trivial | exact rfl | exact ⟨rfl, rfl⟩ | exact ⟨rfl, by omega, by omega, rfl⟩ | exact ⟨by omega, by omega, rfl⟩ | exact ⟨rfl, rfl, rfl, rfl, rfl, fun h => nomatch h⟩ | omega | decide) rfl ?_
  refine wpo_nil ?_
  refine RK_for (s2 s ws) 64 (le_st ⟨rfl, rfl, rfl, rfl, rfl, trivial⟩ ⟨rfl, rfl, rfl, rfl, trivial⟩ (Nat.le_refl _) rfl) (fun i hi => loop2_body s hs ws hw hwl i hi) ?_ ?_
  · refine RK_reg ?_
    refine wpo_r rfl (by first | exact trivial | exact rfl | exact ⟨rfl, rfl⟩ | exact ⟨rfl, by omega, by omega, rfl⟩ | exact ⟨by omega, by omega, rfl⟩ | exact ⟨rfl, rfl, rfl, rfl, rfl, fun h => nomatch h⟩ | omega | decide) rfl ?_
    refine wpo_nil ?_
    exact RK_out (t := false) rfl rfl ⟨rfl, le_st ⟨rfl, rfl, rfl, rfl, rfl, trivial⟩ ⟨rfl, rfl, rfl, rfl, trivial⟩ (Nat.le_refl _) rfl⟩
  intro t2 ht2
  refine ⟨rfl, RK_weak ?_ ht2⟩
  have e2 : s2 s ws 64 = stL (tL 99 64) [(0, ⟨0, false, none, sA s⟩), (1, ⟨0, false, none, .st (ws.map uA)⟩), (2, ⟨0, false, none, .st (shaK.map uA)⟩), (3, ⟨0, false, none, sA (vR ws shaK s 64)⟩)] 4 := rfl
  rw [e2]
  generalize vR ws shaK s 64 = v
  refine RK_reg ?_
  refine wpo_r rfl (by first | exact trivial | exact rfl | exact ⟨rfl, rfl⟩ | exact ⟨rfl, by omega, by omega, rfl⟩ | exact ⟨by omega, by omega, rfl⟩ | exact ⟨rfl, rfl, rfl, rfl, rfl, fun h => nomatch h⟩ | omega | decide) rfl ?_
  refine wpo_r rfl (by first | exact trivial | exact rfl | exact ⟨rfl, rfl⟩ | exact ⟨rfl, by omega, by omega, rfl⟩ | exact ⟨by omega, by omega, rfl⟩ | exact ⟨rfl, rfl, rfl, rfl, rfl, fun h => nomatch h⟩ | omega | decide) rfl ?_
  refine wpo_nil ?_
  refine RK_for (s3 s v) 8 (le_st ⟨rfl, rfl, rfl, trivial⟩ ⟨rfl, trivial⟩ (Nat.le_refl _) rfl) (fun i hi => loop3_body s v i hi) ?_ ?_
  · refine RK_reg ?_
    refine wpo_r rfl (by first | exact trivial | exact rfl | exact ⟨rfl, rfl⟩ | exact ⟨rfl, by omega, by omega, rfl⟩ | exact ⟨by omega, by omega, rfl⟩ | exact ⟨rfl, rfl, rfl, rfl, rfl, fun h => nomatch h⟩ | omega | decide) rfl ?_
    refine wpo_nil ?_
    exact RK_out (t := false) rfl rfl ⟨rfl, le_st ⟨rfl, rfl, rfl, trivial⟩ ⟨rfl, trivial⟩ (Nat.le_refl _) rfl⟩
  intro t3 ht3
  exact ⟨.inr rfl, ⟨_, rfl, trivial⟩, ht3.hp 0 _ rfl⟩

end Go.Ab


/- SHA: what is put behind a text. -/
namespace Go.Ab
open Go.Proofs

def big : Nat := 2305843009213693952
theorem i64a {i j : Nat} (hi : i < big) (hj : j < big) : IntKind.i64.wrap ((i : Int) + (j : Int)) = ((i + j : Nat) : Int) := by unfold big at *; rw [wrap_i64 (by omega) (by omega)]; omega
theorem i64s {i j : Nat} (hi : i < big) (hj : j ≤ i) : IntKind.i64.wrap ((i : Int) - (j : Int)) = ((i - j : Nat) : Int) := by unfold big at *; rw [wrap_i64 (by omega) (by omega)]; omega

abbrev z8 (m : Nat) : List A := List.replicate m (bA 0)

theorem rl_z8 (m : Nat) : A.rl (.st (z8 m)) = [] := by
  show A.rlL (z8 m) = []
  induction m with
  | zero => rfl
  | succ n ih => exact ih

theorem max_big {m : Nat} (h : m ≤ maxBytes) : m < big := Nat.lt_of_le_of_lt h (by decide)

theorem grow_con (m : Nat) (h0 : 0 < m) (hm : m ≤ maxBytes) (hp : Hp) (nx : Nat) : CallD PP LL 178 [.nilsl, .int .i64 (m : Int)] hp nx ⟨.own nx 0 0 0, [(nx, ⟨0, false, some 5, .st (z8 m)⟩)], [], 1⟩ := by
  refine callD_new LL_ok Tryz.func178 (by rfl) rfl (by simp [Tryz.f178]) (by rfl) (rl_z8 m) (fin (f := 178) (fn := Tryz.f178) rfl rfl ?_)
  refine RK_reg ?_
  refine wpo_r rfl (by first | exact trivial | exact rfl | exact ⟨rfl, rfl⟩ | exact ⟨rfl, by omega, by omega, rfl⟩ | exact ⟨by omega, by omega, rfl⟩ | exact ⟨rfl, rfl, rfl, rfl, rfl, fun h => nomatch h⟩ | omega | decide) rfl ?_
  refine wpo_nil ?_
  refine RK_seqx ?_
  refine RK_reg ?_
  refine wpo_r rfl (by first | exact trivial | exact rfl | exact ⟨rfl, rfl⟩ | exact ⟨rfl, by omega, by omega, rfl⟩ | exact ⟨by omega, by omega, rfl⟩ | exact ⟨rfl, rfl, rfl, rfl, rfl, fun h => nomatch h⟩ | omega | decide) rfl ?_
  refine wpo_r rfl (by first | exact trivial | exact rfl | exact ⟨rfl, rfl⟩ | exact ⟨rfl, by omega, by omega, rfl⟩ | exact ⟨by omega, by omega, rfl⟩ | exact ⟨rfl, rfl, rfl, rfl, rfl, fun h => nomatch h⟩ | omega | decide) rfl ?_
  refine wpo_nil ?_
  refine RK_cf rfl (decide_eq_false (by omega)) (RK_skip (.inl ⟨rfl, ?_⟩))
  refine RK_seqx ?_
  refine RK_reg ?_
  refine wpo_r rfl (by first | exact trivial | exact rfl | exact ⟨rfl, rfl⟩ | exact ⟨rfl, by omega, by omega, rfl⟩ | exact ⟨by omega, by omega, rfl⟩ | exact ⟨rfl, rfl, rfl, rfl, rfl, fun h => nomatch h⟩ | omega | decide) rfl ?_
  refine wpo_r rfl (by first | exact trivial | exact rfl | exact ⟨rfl, rfl⟩ | exact ⟨rfl, by omega, by omega, rfl⟩ | exact ⟨by omega, by omega, rfl⟩ | exact ⟨rfl, rfl, rfl, rfl, rfl, fun h => nomatch h⟩ | omega | decide) rfl ?_
  refine SW_capnil rfl rfl rfl ?_
  refine wpo_r rfl (by first | exact trivial | exact rfl | exact ⟨rfl, rfl⟩ | exact ⟨rfl, by omega, by omega, rfl⟩ | exact ⟨by omega, by omega, rfl⟩ | exact ⟨rfl, rfl, rfl, rfl, rfl, fun h => nomatch h⟩ | omega | decide) rfl ?_
  refine wpo_r rfl (by first | exact trivial | exact rfl | exact ⟨rfl, rfl⟩ | exact ⟨rfl, by omega, by omega, rfl⟩ | exact ⟨by omega, by omega, rfl⟩ | exact ⟨rfl, rfl, rfl, rfl, rfl, fun h => nomatch h⟩ | omega | decide) rfl ?_
  refine wpo_r rfl (by first | exact trivial | exact rfl | exact ⟨rfl, rfl⟩ | exact ⟨rfl, by omega, by omega, rfl⟩ | exact ⟨by omega, by omega, rfl⟩ | exact ⟨rfl, rfl, rfl, rfl, rfl, fun h => nomatch h⟩ | omega | decide) ((rfl : _ = A.int .i64 ((0 : Nat) : Int))) ?_
  refine wpo_r rfl (by first | exact trivial | exact rfl | exact ⟨rfl, rfl⟩ | exact ⟨rfl, by omega, by omega, rfl⟩ | exact ⟨by omega, by omega, rfl⟩ | exact ⟨rfl, rfl, rfl, rfl, rfl, fun h => nomatch h⟩ | omega | decide) (congrArg (A.int .i64) (i64s (max_big hm) (Nat.zero_le _))) ?_
  refine wpo_r rfl (by first | exact trivial | exact rfl | exact ⟨rfl, rfl⟩ | exact ⟨rfl, by omega, by omega, rfl⟩ | exact ⟨by omega, by omega, rfl⟩ | exact ⟨rfl, rfl, rfl, rfl, rfl, fun h => nomatch h⟩ | omega | decide) rfl ?_
  refine wpo_nil ?_
  refine RK_reg ?_
  refine wpo_r rfl (by first | exact trivial | exact rfl | exact ⟨rfl, rfl⟩ | exact ⟨rfl, by omega, by omega, rfl⟩ | exact ⟨by omega, by omega, rfl⟩ | exact ⟨rfl, rfl, rfl, rfl, rfl, fun h => nomatch h⟩ | omega | decide) rfl ?_
  refine wpo_r rfl (by first | exact trivial | exact rfl | exact ⟨rfl, rfl⟩ | exact ⟨rfl, by omega, by omega, rfl⟩ | exact ⟨by omega, by omega, rfl⟩ | exact ⟨rfl, rfl, rfl, rfl, rfl, fun h => nomatch h⟩ | omega | decide) rfl ?_
  refine wpo_nil ?_
  refine RK_ct rfl (decide_eq_true (by omega)) ?_
  refine RK_region ?_
  refine wpo_r rfl (by first | exact trivial | exact rfl | exact ⟨rfl, rfl⟩ | exact ⟨rfl, by omega, by omega, rfl⟩ | exact ⟨by omega, by omega, rfl⟩ | exact ⟨rfl, rfl, rfl, rfl, rfl, fun h => nomatch h⟩ | omega | decide) rfl ?_
  refine wpo_r rfl (by first | exact trivial | exact rfl | exact ⟨rfl, rfl⟩ | exact ⟨rfl, by omega, by omega, rfl⟩ | exact ⟨by omega, by omega, rfl⟩ | exact ⟨rfl, rfl, rfl, rfl, rfl, fun h => nomatch h⟩ | omega | decide) rfl ?_
  refine SW_capnil rfl rfl rfl ?_
  refine wpo_r rfl (⟨rfl, rfl, rfl, rfl, rfl⟩) (rfl) ?_
  refine wpo_r rfl (by first | exact trivial | exact rfl | exact ⟨rfl, rfl⟩ | exact ⟨rfl, by omega, by omega, rfl⟩ | exact ⟨by omega, by omega, rfl⟩ | exact ⟨rfl, rfl, rfl, rfl, rfl, fun h => nomatch h⟩ | omega | decide) rfl ?_
  refine SW_zeros rfl rfl rfl rfl rfl rfl rfl h0 (show (m - 0) * 1 ≤ maxBytes by omega) (show m - 0 ≤ maxBytes by omega) ?_
  refine wpo_r rfl (by first | exact trivial | exact rfl | exact ⟨rfl, rfl⟩ | exact ⟨rfl, by omega, by omega, rfl⟩ | exact ⟨by omega, by omega, rfl⟩ | exact ⟨rfl, rfl, rfl, rfl, rfl, fun h => nomatch h⟩ | omega | decide) rfl ?_
  refine wpo_r rfl (by first | exact trivial | exact rfl | exact ⟨rfl, rfl⟩ | exact ⟨rfl, by omega, by omega, rfl⟩ | exact ⟨by omega, by omega, rfl⟩ | exact ⟨rfl, rfl, rfl, rfl, rfl, fun h => nomatch h⟩ | omega | decide) rfl ?_
  refine wpo_r rfl (⟨rfl, rfl, by omega, by omega, by omega, rfl, rfl, rfl⟩) ((rfl : _ = A.own 0 0 0 0)) ?_
  refine wpo_r rfl (by first | exact trivial | exact rfl | exact ⟨rfl, rfl⟩ | exact ⟨rfl, by omega, by omega, rfl⟩ | exact ⟨by omega, by omega, rfl⟩ | exact ⟨rfl, rfl, rfl, rfl, rfl, fun h => nomatch h⟩ | omega | decide) rfl ?_
  refine wpo_nil ?_
  refine .inl ⟨rfl, ?_⟩
  refine RK_reg ?_
  refine wpo_r rfl (by first | exact trivial | exact rfl | exact ⟨rfl, rfl⟩ | exact ⟨rfl, by omega, by omega, rfl⟩ | exact ⟨by omega, by omega, rfl⟩ | exact ⟨rfl, rfl, rfl, rfl, rfl, fun h => nomatch h⟩ | omega | decide) rfl ?_
  refine wpo_r rfl (by first | exact trivial | exact rfl | exact ⟨rfl, rfl⟩ | exact ⟨rfl, by omega, by omega, rfl⟩ | exact ⟨by omega, by omega, rfl⟩ | exact ⟨rfl, rfl, rfl, rfl, rfl, fun h => nomatch h⟩ | omega | decide) rfl ?_
  refine wpo_nil ?_
  exact RK_ret ⟨.inl rfl, 0, ⟨_, rfl, trivial, trivial⟩, rfl⟩

abbrev bsA (b : List Nat) : A := .sl 5 (b.map bA)

theorem bsget {bs : List (List Nat)} {i : Nat} (hi : i < bs.length) : (bs.map bsA)[i]? = some (bsA (bs.getD i [])) := by
  rw [List.getElem?_map, List.getD_eq_getElem?_getD, List.getElem?_eq_getElem hi]; rfl

def Ls (bs : List (List Nat)) (i : Nat) : Nat := (bs.take i).flatten.length

theorem take_get {bs : List (List Nat)} {i : Nat} (hi : i < bs.length) : bs.take (i + 1) = bs.take i ++ [bs.getD i []] := by
  rw [List.take_add_one, List.getD_eq_getElem?_getD, List.getElem?_eq_getElem hi]; rfl

theorem Ls_succ {bs : List (List Nat)} {i : Nat} (hi : i < bs.length) : Ls bs (i + 1) = Ls bs i + (bs.getD i []).length := by
  unfold Ls
  rw [take_get hi]; simp

theorem Ls_all (bs : List (List Nat)) : Ls bs bs.length = bs.flatten.length := by unfold Ls; rw [List.take_length]

theorem Ls_le {bs : List (List Nat)} (i : Nat) : Ls bs i ≤ bs.flatten.length := by
  unfold Ls
  have : (bs.take i).flatten.length + (bs.drop i).flatten.length = bs.flatten.length := by rw [← List.length_append, ← List.flatten_append, List.take_append_drop]
  omega

def c1 (bs : List (List Nat)) (i : Nat) : AS := stL [(0, .sl 127 (bs.map bsA)), (9, .sl 127 (bs.map bsA)), (10, .int .i64 (bs.length : Int)), (11, .int .i64 (i : Int)), (3, .int .i64 (Ls bs i : Int))] [] 0
def cOb (bs : List (List Nat)) (i : Nat) : Ob := ⟨0, false, some 5, .st ((bs.take i).flatten.map bA ++ z8 (bs.flatten.length - Ls bs i))⟩
def c2 (bs : List (List Nat)) (i : Nat) : AS := stL [(25, .sl 127 (bs.map bsA)), (26, .int .i64 (bs.length : Int)), (27, .int .i64 (i : Int)), (6, .own 0 0 0 (Ls bs i))] [(0, cOb bs i)] 1

theorem map_len (b : List Nat) : A.int .i64 ((b.map bA).length : Int) = A.int .i64 (b.length : Int) := by rw [List.length_map]

theorem concat1_body (bs : List (List Nat)) (hm : bs.flatten.length ≤ maxBytes) (hn : bs.length < big) (i : Nat) (hi : i < bs.length) :
    RK PP LL none 36 (loopOf Tryz.f127 0) (c1 bs i) (fun e s' => e = .normal ∧ Le s' (c1 bs (i + 1))) := by
  have hb := max_big hm
  have h1 := Ls_le (bs := bs) i
  have h2 := Ls_le (bs := bs) (i + 1)
  have h3 := Ls_succ hi
  refine RK_reg ?_
  refine wpo_r rfl (by first | exact trivial | exact rfl | exact ⟨rfl, rfl⟩ | exact ⟨rfl, by omega, by omega, rfl⟩ | exact ⟨by omega, by omega, rfl⟩ | exact ⟨rfl, rfl, rfl, rfl, rfl, fun h => nomatch h⟩ | omega | decide) rfl ?_
  refine wpo_nil ?_
  refine RK_on rfl (decide_eq_true (by omega)) ?_
  refine RK_seq (RK_blk ?_)
  refine RK_reg ?_
  refine wpo_r (opv_iasl rfl rfl rfl rfl rfl (bsget hi)) ⟨rfl, by omega⟩ rfl ?_
  refine wpo_r rfl (by first | exact trivial | exact rfl | exact ⟨rfl, rfl⟩ | exact ⟨rfl, by omega, by omega, rfl⟩ | exact ⟨by omega, by omega, rfl⟩ | exact ⟨rfl, rfl, rfl, rfl, rfl, fun h => nomatch h⟩ | omega | decide) rfl ?_
  refine wpo_r rfl (by first | exact trivial | exact rfl | exact ⟨rfl, rfl⟩ | exact ⟨rfl, by omega, by omega, rfl⟩ | exact ⟨by omega, by omega, rfl⟩ | exact ⟨rfl, rfl, rfl, rfl, rfl, fun h => nomatch h⟩ | omega | decide) rfl ?_
  refine wpo_nil ?_
  refine RK_reg ?_
  refine wpo_r rfl (by first | exact trivial | exact rfl | exact ⟨rfl, rfl⟩ | exact ⟨rfl, by omega, by omega, rfl⟩ | exact ⟨by omega, by omega, rfl⟩ | exact ⟨rfl, rfl, rfl, rfl, rfl, fun h => nomatch h⟩ | omega | decide) rfl ?_
  refine wpo_r rfl (by first | exact trivial | exact rfl | exact ⟨rfl, rfl⟩ | exact ⟨rfl, by omega, by omega, rfl⟩ | exact ⟨by omega, by omega, rfl⟩ | exact ⟨rfl, rfl, rfl, rfl, rfl, fun h => nomatch h⟩ | omega | decide) rfl ?_
  refine wpo_r rfl (by first | exact trivial | exact rfl | exact ⟨rfl, rfl⟩ | exact ⟨rfl, by omega, by omega, rfl⟩ | exact ⟨by omega, by omega, rfl⟩ | exact ⟨rfl, rfl, rfl, rfl, rfl, fun h => nomatch h⟩ | omega | decide) (map_len _) ?_
  refine wpo_r rfl (by first | exact trivial | exact rfl | exact ⟨rfl, rfl⟩ | exact ⟨rfl, by omega, by omega, rfl⟩ | exact ⟨by omega, by omega, rfl⟩ | exact ⟨rfl, rfl, rfl, rfl, rfl, fun h => nomatch h⟩ | omega | decide) (congrArg (A.int .i64) ((i64a (i := Ls bs i) (j := (bs.getD i []).length) (by omega) (by omega)).trans (congrArg Nat.cast h3.symm))) ?_
  refine wpo_r rfl (by first | exact trivial | exact rfl | exact ⟨rfl, rfl⟩ | exact ⟨rfl, by omega, by omega, rfl⟩ | exact ⟨by omega, by omega, rfl⟩ | exact ⟨rfl, rfl, rfl, rfl, rfl, fun h => nomatch h⟩ | omega | decide) rfl ?_
  refine wpo_nil ?_
  refine RK_reg ?_
  refine wpo_r rfl (by first | exact trivial | exact rfl | exact ⟨rfl, rfl⟩ | exact ⟨rfl, by omega, by omega, rfl⟩ | exact ⟨by omega, by omega, rfl⟩ | exact ⟨rfl, rfl, rfl, rfl, rfl, fun h => nomatch h⟩ | omega | decide) rfl ?_
  refine wpo_r rfl (by first | exact trivial | exact rfl | exact ⟨rfl, rfl⟩ | exact ⟨rfl, by omega, by omega, rfl⟩ | exact ⟨by omega, by omega, rfl⟩ | exact ⟨rfl, rfl, rfl, rfl, rfl, fun h => nomatch h⟩ | omega | decide) rfl ?_
  refine wpo_nil ?_
  refine RK_cf rfl (decide_eq_false (by omega)) (RK_skip ⟨.inr rfl, rfl, RK_region ?_⟩)
  refine wpo_r rfl (by first | exact trivial | exact rfl | exact ⟨rfl, rfl⟩ | exact ⟨rfl, by omega, by omega, rfl⟩ | exact ⟨by omega, by omega, rfl⟩ | exact ⟨rfl, rfl, rfl, rfl, rfl, fun h => nomatch h⟩ | omega | decide) (congrArg (A.int .i64) (i64a (j := 1) (by omega) (by decide))) ?_
  refine wpo_r rfl (by first | exact trivial | exact rfl | exact ⟨rfl, rfl⟩ | exact ⟨rfl, by omega, by omega, rfl⟩ | exact ⟨by omega, by omega, rfl⟩ | exact ⟨rfl, rfl, rfl, rfl, rfl, fun h => nomatch h⟩ | omega | decide) rfl ?_
  refine wpo_nil ?_
  exact ⟨rfl, le_st ⟨rfl, rfl, rfl, rfl, rfl, trivial⟩ trivial (Nat.le_refl _) rfl⟩

theorem elems_cOb (bs : List (List Nat)) (i : Nat) : (elems (cOb bs i)).length = bs.flatten.length := by
  have := Ls_le (bs := bs) i
  show ((bs.take i).flatten.map bA ++ z8 (bs.flatten.length - Ls bs i)).length = _
  rw [List.length_append, List.length_map, List.length_replicate]
  unfold Ls at *; omega

theorem cOb_next {bs : List (List Nat)} {i : Nat} (hi : i < bs.length) : ({ cOb bs i with val := .st ((elems (cOb bs i)).take (0 + Ls bs i) ++ (bs.getD i []).map bA ++ (elems (cOb bs i)).drop (0 + Ls bs i + ((bs.getD i []).map bA).length)) } : Ob) = cOb bs (i + 1) := by
  have h3 := Ls_succ hi
  have hl : ((bs.take i).flatten.map bA).length = Ls bs i := by rw [List.length_map]; rfl
  unfold cOb
  refine congrArg (fun l => Ob.mk 0 false (some 5) (.st l)) ?_
  show ((bs.take i).flatten.map bA ++ z8 (bs.flatten.length - Ls bs i)).take (0 + Ls bs i) ++ _ ++ ((bs.take i).flatten.map bA ++ z8 (bs.flatten.length - Ls bs i)).drop _ = _
  rw [Nat.zero_add, List.take_left' hl, ← List.drop_drop, List.drop_left' hl, List.drop_replicate, take_get hi, List.flatten_append, List.map_append, h3, List.length_map]
  simp only [List.flatten_cons, List.flatten_nil, List.append_nil, Nat.sub_sub]

theorem concat2_body (bs : List (List Nat)) (hm : bs.flatten.length ≤ maxBytes) (hn : bs.length < big) (i : Nat) (hi : i < bs.length) :
    RK PP LL none 36 (loopOf Tryz.f127 1) (c2 bs i) (fun e s' => e = .normal ∧ Le s' (c2 bs (i + 1))) := by
  have hb := max_big hm
  have h2 := Ls_le (bs := bs) (i + 1)
  have h3 := Ls_succ hi
  refine RK_reg ?_
  refine wpo_r rfl (by first | exact trivial | exact rfl | exact ⟨rfl, rfl⟩ | exact ⟨rfl, by omega, by omega, rfl⟩ | exact ⟨by omega, by omega, rfl⟩ | exact ⟨rfl, rfl, rfl, rfl, rfl, fun h => nomatch h⟩ | omega | decide) rfl ?_
  refine wpo_nil ?_
  refine RK_on rfl (decide_eq_true (by omega)) ?_
  refine RK_seq (RK_blk ?_)
  refine RK_reg ?_
  refine wpo_r (opv_iasl rfl rfl rfl rfl rfl (bsget hi)) ⟨rfl, by omega⟩ rfl ?_
  refine wpo_r rfl (by first | exact trivial | exact rfl | exact ⟨rfl, rfl⟩ | exact ⟨rfl, by omega, by omega, rfl⟩ | exact ⟨by omega, by omega, rfl⟩ | exact ⟨rfl, rfl, rfl, rfl, rfl, fun h => nomatch h⟩ | omega | decide) rfl ?_
  refine wpo_r rfl (by first | exact trivial | exact rfl | exact ⟨rfl, rfl⟩ | exact ⟨rfl, by omega, by omega, rfl⟩ | exact ⟨by omega, by omega, rfl⟩ | exact ⟨rfl, rfl, rfl, rfl, rfl, fun h => nomatch h⟩ | omega | decide) rfl ?_
  refine wpo_nil ?_
  refine RK_region ?_
  refine wpo_r rfl (by first | exact trivial | exact rfl | exact ⟨rfl, rfl⟩ | exact ⟨rfl, by omega, by omega, rfl⟩ | exact ⟨by omega, by omega, rfl⟩ | exact ⟨rfl, rfl, rfl, rfl, rfl, fun h => nomatch h⟩ | omega | decide) rfl ?_
  refine wpo_r rfl (by first | exact trivial | exact rfl | exact ⟨rfl, rfl⟩ | exact ⟨rfl, by omega, by omega, rfl⟩ | exact ⟨by omega, by omega, rfl⟩ | exact ⟨rfl, rfl, rfl, rfl, rfl, fun h => nomatch h⟩ | omega | decide) rfl ?_
  refine wpo_ws (opv_app rfl rfl rfl rfl rfl rfl (by rw [elems_cOb, List.length_map]; show 0 + Ls bs i + (bs.getD i []).length ≤ _; omega)) ⟨trivial, rfl, rfl, rfl, fun x hx => by obtain ⟨n, _, rfl⟩ := List.mem_map.1 hx; rfl⟩
    (v' := .own 0 0 0 (Ls bs (i + 1))) (by rw [h3]; exact congrArg (fun n => A.own 0 0 0 (Ls bs i + n)) (List.length_map ..)) (cOb_next hi) ?_
  refine wpo_r rfl (by first | exact trivial | exact rfl | exact ⟨rfl, rfl⟩ | exact ⟨rfl, by omega, by omega, rfl⟩ | exact ⟨by omega, by omega, rfl⟩ | exact ⟨rfl, rfl, rfl, rfl, rfl, fun h => nomatch h⟩ | omega | decide) rfl ?_
  refine wpo_nil ?_
  refine ⟨.inr rfl, rfl, RK_region ?_⟩
  refine wpo_r rfl (by first | exact trivial | exact rfl | exact ⟨rfl, rfl⟩ | exact ⟨rfl, by omega, by omega, rfl⟩ | exact ⟨by omega, by omega, rfl⟩ | exact ⟨rfl, rfl, rfl, rfl, rfl, fun h => nomatch h⟩ | omega | decide) (congrArg (A.int .i64) (i64a (j := 1) (by omega) (by decide))) ?_
  refine wpo_r rfl (by first | exact trivial | exact rfl | exact ⟨rfl, rfl⟩ | exact ⟨rfl, by omega, by omega, rfl⟩ | exact ⟨by omega, by omega, rfl⟩ | exact ⟨rfl, rfl, rfl, rfl, rfl, fun h => nomatch h⟩ | omega | decide) rfl ?_
  refine wpo_nil ?_
  exact ⟨rfl, le_st ⟨rfl, rfl, rfl, rfl, trivial⟩ ⟨rfl, trivial⟩ (Nat.le_refl _) rfl⟩

theorem rl_bA (b : List Nat) : A.rlL (b.map bA) = [] := by
  induction b with
  | nil => rfl
  | cons x l ih => exact ih

theorem rl_bs (bs : List (List Nat)) : A.rlL (bs.map bsA) = [] := by
  induction bs with
  | nil => rfl
  | cons x l ih => show A.rlL (x.map bA) ++ _ = []; rw [rl_bA, ih]; rfl

theorem concat_con (bs : List (List Nat)) (h0 : 0 < bs.flatten.length) (hm : bs.flatten.length ≤ maxBytes) (hn : bs.length < big) (hp : Hp) (nx : Nat) :
    CallD PP LL 127 [.sl 127 (bs.map bsA)] hp nx ⟨.own nx 0 0 bs.flatten.length, [(nx, ⟨0, false, some 5, .st (bs.flatten.map bA)⟩)], [], 1⟩ := by
  refine callD_new LL_ok Tryz.func127 (by rfl) rfl (by simp [Tryz.f127]) (by show A.rlL (bs.map bsA) ++ [] = []; rw [rl_bs]; rfl) (x1 := ⟨0, false, some 5, .st (bs.flatten.map bA)⟩) (rl_bA _) (fin (f := 127) (fn := Tryz.f127) rfl rfl ?_)
  refine RK_reg ?_
  refine wpo_r rfl (by first | exact trivial | exact rfl | exact ⟨rfl, rfl⟩ | exact ⟨rfl, by omega, by omega, rfl⟩ | exact ⟨by omega, by omega, rfl⟩ | exact ⟨rfl, rfl, rfl, rfl, rfl, fun h => nomatch h⟩ | omega | decide) rfl ?_
  refine wpo_nil ?_
  refine RK_reg ?_
  refine wpo_r rfl (by first | exact trivial | exact rfl | exact ⟨rfl, rfl⟩ | exact ⟨rfl, by omega, by omega, rfl⟩ | exact ⟨by omega, by omega, rfl⟩ | exact ⟨rfl, rfl, rfl, rfl, rfl, fun h => nomatch h⟩ | omega | decide) ((rfl : _ = A.int .i64 ((0 : Nat) : Int))) ?_
  refine wpo_nil ?_
  refine RK_seq ?_
  refine RK_reg ?_
  refine wpo_r rfl (by first | exact trivial | exact rfl | exact ⟨rfl, rfl⟩ | exact ⟨rfl, by omega, by omega, rfl⟩ | exact ⟨by omega, by omega, rfl⟩ | exact ⟨rfl, rfl, rfl, rfl, rfl, fun h => nomatch h⟩ | omega | decide) rfl ?_
  refine wpo_r rfl (by first | exact trivial | exact rfl | exact ⟨rfl, rfl⟩ | exact ⟨rfl, by omega, by omega, rfl⟩ | exact ⟨by omega, by omega, rfl⟩ | exact ⟨rfl, rfl, rfl, rfl, rfl, fun h => nomatch h⟩ | omega | decide) (congrArg (fun n : Nat => A.int .i64 (n : Int)) (List.length_map ..)) ?_
  refine wpo_r rfl (by first | exact trivial | exact rfl | exact ⟨rfl, rfl⟩ | exact ⟨rfl, by omega, by omega, rfl⟩ | exact ⟨by omega, by omega, rfl⟩ | exact ⟨rfl, rfl, rfl, rfl, rfl, fun h => nomatch h⟩ | omega | decide) rfl ?_
  refine wpo_nil ?_
  refine RK_for (c1 bs) bs.length (le_st ⟨rfl, rfl, rfl, rfl, rfl, trivial⟩ trivial (Nat.le_refl _) rfl) (concat1_body bs hm hn) ?_ ?_
  · refine RK_reg ?_
    refine wpo_r rfl (by first | exact trivial | exact rfl | exact ⟨rfl, rfl⟩ | exact ⟨rfl, by omega, by omega, rfl⟩ | exact ⟨by omega, by omega, rfl⟩ | exact ⟨rfl, rfl, rfl, rfl, rfl, fun h => nomatch h⟩ | omega | decide) rfl ?_
    refine wpo_nil ?_
    exact RK_out rfl (decide_eq_false (by omega)) ⟨rfl, le_st ⟨rfl, rfl, rfl, rfl, rfl, trivial⟩ trivial (Nat.le_refl _) rfl⟩
  intro t1 ht1
  refine ⟨rfl, RK_weak ?_ ht1⟩
  have e1 : c1 bs bs.length = stL [(0, .sl 127 (bs.map bsA)), (9, .sl 127 (bs.map bsA)), (10, .int .i64 (bs.length : Int)), (11, .int .i64 (bs.length : Int)), (3, .int .i64 (bs.flatten.length : Int))] [] 0 := by unfold c1; rw [Ls_all]
  rw [e1]
  refine RK_reg ?_
  refine wpo_r rfl (by first | exact trivial | exact rfl | exact ⟨rfl, rfl⟩ | exact ⟨rfl, by omega, by omega, rfl⟩ | exact ⟨by omega, by omega, rfl⟩ | exact ⟨rfl, rfl, rfl, rfl, rfl, fun h => nomatch h⟩ | omega | decide) rfl ?_
  refine wpo_cw rfl rfl (by repeat (first | refine List.forall_mem_cons.2 ⟨rfl, ?_⟩ | exact List.forall_mem_nil _)) (grow_con _ h0 hm _ _) ?_
  refine wpo_r rfl (by first | exact trivial | exact rfl | exact ⟨rfl, rfl⟩ | exact ⟨rfl, by omega, by omega, rfl⟩ | exact ⟨by omega, by omega, rfl⟩ | exact ⟨rfl, rfl, rfl, rfl, rfl, fun h => nomatch h⟩ | omega | decide) rfl ?_
  refine wpo_nil ?_
  refine RK_seq ?_
  refine RK_reg ?_
  refine wpo_r rfl (by first | exact trivial | exact rfl | exact ⟨rfl, rfl⟩ | exact ⟨rfl, by omega, by omega, rfl⟩ | exact ⟨by omega, by omega, rfl⟩ | exact ⟨rfl, rfl, rfl, rfl, rfl, fun h => nomatch h⟩ | omega | decide) rfl ?_
  refine wpo_r rfl (by first | exact trivial | exact rfl | exact ⟨rfl, rfl⟩ | exact ⟨rfl, by omega, by omega, rfl⟩ | exact ⟨by omega, by omega, rfl⟩ | exact ⟨rfl, rfl, rfl, rfl, rfl, fun h => nomatch h⟩ | omega | decide) (congrArg (fun n : Nat => A.int .i64 (n : Int)) (List.length_map ..)) ?_
  refine wpo_r rfl (by first | exact trivial | exact rfl | exact ⟨rfl, rfl⟩ | exact ⟨rfl, by omega, by omega, rfl⟩ | exact ⟨by omega, by omega, rfl⟩ | exact ⟨rfl, rfl, rfl, rfl, rfl, fun h => nomatch h⟩ | omega | decide) rfl ?_
  refine wpo_nil ?_
  refine RK_for (c2 bs) bs.length (le_st ⟨rfl, rfl, rfl, rfl, trivial⟩ ⟨rfl, trivial⟩ (Nat.le_refl _) rfl) (concat2_body bs hm hn) ?_ ?_
  · refine RK_reg ?_
    refine wpo_r rfl (by first | exact trivial | exact rfl | exact ⟨rfl, rfl⟩ | exact ⟨rfl, by omega, by omega, rfl⟩ | exact ⟨by omega, by omega, rfl⟩ | exact ⟨rfl, rfl, rfl, rfl, rfl, fun h => nomatch h⟩ | omega | decide) rfl ?_
    refine wpo_nil ?_
    exact RK_out rfl (decide_eq_false (by omega)) ⟨rfl, le_st ⟨rfl, rfl, rfl, rfl, trivial⟩ ⟨rfl, trivial⟩ (Nat.le_refl _) rfl⟩
  intro t2 ht2
  refine ⟨rfl, RK_weak ?_ ht2⟩
  have e2 : c2 bs bs.length = stL [(25, .sl 127 (bs.map bsA)), (26, .int .i64 (bs.length : Int)), (27, .int .i64 (bs.length : Int)), (6, .own 0 0 0 bs.flatten.length)] [(0, ⟨0, false, some 5, .st (bs.flatten.map bA)⟩)] 1 := by
    unfold c2 cOb; rw [Ls_all, List.take_length, Nat.sub_self, show z8 0 = [] from rfl, List.append_nil]
  rw [e2]
  refine RK_reg ?_
  refine wpo_r rfl (by first | exact trivial | exact rfl | exact ⟨rfl, rfl⟩ | exact ⟨rfl, by omega, by omega, rfl⟩ | exact ⟨by omega, by omega, rfl⟩ | exact ⟨rfl, rfl, rfl, rfl, rfl, fun h => nomatch h⟩ | omega | decide) rfl ?_
  refine wpo_r rfl (by first | exact trivial | exact rfl | exact ⟨rfl, rfl⟩ | exact ⟨rfl, by omega, by omega, rfl⟩ | exact ⟨by omega, by omega, rfl⟩ | exact ⟨rfl, rfl, rfl, rfl, rfl, fun h => nomatch h⟩ | omega | decide) rfl ?_
  refine wpo_nil ?_
  exact RK_ret ⟨.inl rfl, 0, ⟨_, rfl, trivial, trivial⟩, rfl⟩

end Go.Ab


/- SHA: a text with what is put behind it. -/
namespace Go.Ab
open Go.Proofs

theorem tmod_nat (m n : Nat) : (m : Int).tmod (n : Int) = ((m % n : Nat) : Int) := rfl
theorem tdiv_nat (m n : Nat) : (m : Int).tdiv (n : Int) = ((m / n : Nat) : Int) := rfl

/-- the last bytes of a number -/
def bT (x : Nat) : Nat → List Nat
  | 0 => []
  | i + 1 => (x >>> (8 * i)) % 256 :: bT x i

theorem bT_len (x : Nat) : ∀ i, (bT x i).length = i
  | 0 => rfl
  | i + 1 => by simp [bT, bT_len x i]

theorem bT_snoc (x : Nat) : ∀ n, bT x (n + 1) = bT (x / 256) n ++ [x % 256]
  | 0 => rfl
  | n + 1 => by
    show (x >>> (8 * (n + 1))) % 256 :: bT x (n + 1) = _
    rw [bT_snoc x n]
    show _ = ((x / 256) >>> (8 * n)) % 256 :: bT (x / 256) n ++ [x % 256]
    rw [show 8 * (n + 1) = 8 + 8 * n by omega, Nat.shiftRight_add, Nat.shiftRight_eq_div_pow x 8]
    rfl

theorem bytesBE_bT : ∀ n x, bytesBE n x = bT x n
  | 0, _ => rfl
  | n + 1, x => by
    show bytesBE n (x / 256) ++ [x % 256] = _
    rw [bytesBE_bT n, bT_snoc]

def pn (b : List Nat) : Nat := (64 - (b.length + 9) % 64) % 64
def pF (b : List Nat) : List Nat := b ++ 128 :: List.replicate (pn b) 0
def pOb (b : List Nat) (i : Nat) : Ob := ⟨0, false, some 5, .st ((pF b).map bA ++ z8 (8 - i) ++ (bT (8 * b.length) i).map bA)⟩
def pT (b : List Nat) : Nat := b.length + 1 + pn b + 8

theorem pF_len (b : List Nat) : (pF b).length = b.length + 1 + pn b := by simp [pF]; omega

def p1 (b : List Nat) (i : Nat) : AS := stL [(0, bsA b), (4, .own 3 0 0 (pT b)), (20, .int .i64 (i : Int))] [(3, pOb b i)] 4

theorem pOb_get (b : List Nat) {i : Nat} (hi : i < 8) : ((pF b).map bA ++ z8 (8 - i) ++ (bT (8 * b.length) i).map bA)[pT b - 1 - i]? = some (bA 0) := by
  have hl : ((pF b).map bA).length = b.length + 1 + pn b := by rw [List.length_map, pF_len]
  rw [List.getElem?_append_left (by simp only [List.length_append, hl, List.length_replicate, pT]; omega), List.getElem?_append_right (by rw [hl]; unfold pT; omega), hl, List.getElem?_replicate]
  unfold pT
  rw [if_pos (by omega)]

theorem pOb_set (b : List Nat) {i : Nat} (hi : i < 8) : ((pF b).map bA ++ z8 (8 - i) ++ (bT (8 * b.length) i).map bA).set (pT b - 1 - i) (bA ((8 * b.length) >>> (8 * i) % 256)) = (pF b).map bA ++ z8 (8 - (i + 1)) ++ (bT (8 * b.length) (i + 1)).map bA := by
  have hl : ((pF b).map bA).length = b.length + 1 + pn b := by rw [List.length_map, pF_len]
  obtain ⟨k, hk⟩ : ∃ k, 8 - i = k + 1 := ⟨7 - i, by omega⟩
  rw [List.append_assoc, List.set_append_right _ _ (by rw [hl]; unfold pT; omega), hl, hk, show z8 (k + 1) = z8 k ++ [bA 0] from List.replicate_succ' .., List.append_assoc, List.set_append_right _ _ (by simp only [List.length_replicate]; unfold pT; omega), List.length_replicate]
  rw [show pT b - 1 - i - (b.length + 1 + pn b) - k = 0 by unfold pT; omega, show 8 - (i + 1) = k by omega]
  simp only [List.singleton_append, List.set_cons_zero, bT, List.map_cons, List.append_assoc]

theorem i64c {i : Nat} (hi : i < big) : IntKind.u64.wrap (i : Int) = (i : Int) := wrap_nat .u64 (by unfold big at hi; simp only [limN]; omega)

theorem pad_body (b : List Nat) (hl : b.length ≤ 1099511627776) (i : Nat) (hi : i < 8) :
    RK PP LL none 40 (loopOf Tryz.f155 0) (p1 b i) (fun e s' => e = .normal ∧ Le s' (p1 b (i + 1))) := by
  have hp : pn b < 64 := Nat.mod_lt _ (by omega)
  have hT : pT b = b.length + 1 + pn b + 8 := rfl
  have hB : big = 2305843009213693952 := rfl
  refine RK_reg ?_
  refine wpo_r rfl (by first | exact trivial | exact rfl | exact ⟨rfl, rfl⟩ | exact ⟨rfl, by omega, by omega, rfl⟩ | exact ⟨by omega, by omega, rfl⟩ | exact ⟨rfl, rfl, rfl, rfl, rfl, fun h => nomatch h⟩ | omega | decide) rfl ?_
  refine wpo_nil ?_
  refine RK_on rfl (decide_eq_true (by omega)) ?_
  refine RK_seq (RK_blk ?_)
  refine RK_reg ?_
  refine wpo_r rfl (by first | exact trivial | exact rfl | exact ⟨rfl, rfl⟩ | exact ⟨rfl, by omega, by omega, rfl⟩ | exact ⟨by omega, by omega, rfl⟩ | exact ⟨rfl, rfl, rfl, rfl, rfl, fun h => nomatch h⟩ | omega | decide) rfl ?_
  refine wpo_r rfl (by first | exact trivial | exact rfl | exact ⟨rfl, rfl⟩ | exact ⟨rfl, by omega, by omega, rfl⟩ | exact ⟨by omega, by omega, rfl⟩ | exact ⟨rfl, rfl, rfl, rfl, rfl, fun h => nomatch h⟩ | omega | decide) rfl ?_
  refine wpo_nil ?_
  refine RK_region ?_
  refine wpo_r rfl (by first | exact trivial | exact rfl | exact ⟨rfl, rfl⟩ | exact ⟨rfl, by omega, by omega, rfl⟩ | exact ⟨by omega, by omega, rfl⟩ | exact ⟨rfl, rfl, rfl, rfl, rfl, fun h => nomatch h⟩ | omega | decide) rfl ?_
  refine wpo_r rfl (by first | exact trivial | exact rfl | exact ⟨rfl, rfl⟩ | exact ⟨rfl, by omega, by omega, rfl⟩ | exact ⟨by omega, by omega, rfl⟩ | exact ⟨rfl, rfl, rfl, rfl, rfl, fun h => nomatch h⟩ | omega | decide) rfl ?_
  refine wpo_r rfl (by first | exact trivial | exact rfl | exact ⟨rfl, rfl⟩ | exact ⟨rfl, by omega, by omega, rfl⟩ | exact ⟨by omega, by omega, rfl⟩ | exact ⟨rfl, rfl, rfl, rfl, rfl, fun h => nomatch h⟩ | omega | decide) rfl ?_
  refine wpo_r rfl (by first | exact trivial | exact rfl | exact ⟨rfl, rfl⟩ | exact ⟨rfl, by omega, by omega, rfl⟩ | exact ⟨by omega, by omega, rfl⟩ | exact ⟨rfl, rfl, rfl, rfl, rfl, fun h => nomatch h⟩ | omega | decide) (congrArg (A.int .i64) (i64s (i := pT b) (j := 1) (by omega) (by omega))) ?_
  refine wpo_r rfl (by first | exact trivial | exact rfl | exact ⟨rfl, rfl⟩ | exact ⟨rfl, by omega, by omega, rfl⟩ | exact ⟨by omega, by omega, rfl⟩ | exact ⟨rfl, rfl, rfl, rfl, rfl, fun h => nomatch h⟩ | omega | decide) rfl ?_
  refine wpo_r rfl (by first | exact trivial | exact rfl | exact ⟨rfl, rfl⟩ | exact ⟨rfl, by omega, by omega, rfl⟩ | exact ⟨by omega, by omega, rfl⟩ | exact ⟨rfl, rfl, rfl, rfl, rfl, fun h => nomatch h⟩ | omega | decide) (congrArg (A.int .i64) (i64s (i := pT b - 1) (j := i) (by omega) (by omega))) ?_
  refine wpo_r rfl (by first | exact trivial | exact rfl | exact ⟨rfl, rfl⟩ | exact ⟨rfl, by omega, by omega, rfl⟩ | exact ⟨by omega, by omega, rfl⟩ | exact ⟨rfl, rfl, rfl, rfl, rfl, fun h => nomatch h⟩ | omega | decide) rfl ?_
  refine wpo_r rfl (by first | exact trivial | exact rfl | exact ⟨rfl, rfl⟩ | exact ⟨rfl, by omega, by omega, rfl⟩ | exact ⟨by omega, by omega, rfl⟩ | exact ⟨rfl, rfl, rfl, rfl, rfl, fun h => nomatch h⟩ | omega | decide) (map_len _) ?_
  refine wpo_r rfl (by first | exact trivial | exact rfl | exact ⟨rfl, rfl⟩ | exact ⟨rfl, by omega, by omega, rfl⟩ | exact ⟨by omega, by omega, rfl⟩ | exact ⟨rfl, rfl, rfl, rfl, rfl, fun h => nomatch h⟩ | omega | decide) (congrArg (A.int .u64) (i64c (by omega))) ?_
  refine wpo_r rfl (by first | exact trivial | exact rfl | exact ⟨rfl, rfl⟩ | exact ⟨rfl, by omega, by omega, rfl⟩ | exact ⟨by omega, by omega, rfl⟩ | exact ⟨rfl, rfl, rfl, rfl, rfl, fun h => nomatch h⟩ | omega | decide) (congrArg (A.int .u64) ((mul_u64 8 b.length).trans (congrArg Nat.cast (Nat.mod_eq_of_lt (by omega))))) ?_
  refine wpo_r rfl (by first | exact trivial | exact rfl | exact ⟨rfl, rfl⟩ | exact ⟨rfl, by omega, by omega, rfl⟩ | exact ⟨by omega, by omega, rfl⟩ | exact ⟨rfl, rfl, rfl, rfl, rfl, fun h => nomatch h⟩ | omega | decide) rfl ?_
  refine wpo_r rfl (by first | exact trivial | exact rfl | exact ⟨rfl, rfl⟩ | exact ⟨rfl, by omega, by omega, rfl⟩ | exact ⟨by omega, by omega, rfl⟩ | exact ⟨rfl, rfl, rfl, rfl, rfl, fun h => nomatch h⟩ | omega | decide) (congrArg (A.int .i64) (show IntKind.i64.wrap ((8 : Int) * (i : Int)) = ((8 * i : Nat) : Int) from by rw [wrap_i64 (by omega) (by omega)]; omega)) ?_
  refine wpo_r rfl (by first | exact trivial | exact rfl | exact ⟨rfl, rfl⟩ | exact ⟨rfl, by omega, by omega, rfl⟩ | exact ⟨by omega, by omega, rfl⟩ | exact ⟨rfl, rfl, rfl, rfl, rfl, fun h => nomatch h⟩ | omega | decide) (congrArg (A.int .u64) ((shr_u64 (8 * b.length) (8 * i)).trans (congrArg (fun k => (((8 * b.length) >>> k : Nat) : Int)) (Nat.min_eq_left (by omega))))) ?_
  refine wpo_r rfl (by first | exact trivial | exact rfl | exact ⟨rfl, rfl⟩ | exact ⟨rfl, by omega, by omega, rfl⟩ | exact ⟨by omega, by omega, rfl⟩ | exact ⟨rfl, rfl, rfl, rfl, rfl, fun h => nomatch h⟩ | omega | decide) (congrArg (A.int .u8) (wrap_u8 _)) ?_
  refine wpo_r rfl (⟨rfl, rfl, by omega, by omega⟩) (congrArg (fun k => A.ptr 3 0 [k] .leaf) (Nat.zero_add (pT b - 1 - i))) ?_
  refine wpo_s (opv_sto rfl rfl rfl rfl (sub_one (pOb_get b hi)) (upd_one (pOb_get b hi))) ⟨rfl, rfl, rfl, rfl, rfl, fun _ => by simp⟩ (congrArg (fun l => Ob.mk 0 false (some 5) (.st l)) (pOb_set b hi)) ?_
  refine wpo_nil ?_
  refine ⟨.inr rfl, rfl, RK_region ?_⟩
  refine wpo_r rfl (by first | exact trivial | exact rfl | exact ⟨rfl, rfl⟩ | exact ⟨rfl, by omega, by omega, rfl⟩ | exact ⟨by omega, by omega, rfl⟩ | exact ⟨rfl, rfl, rfl, rfl, rfl, fun h => nomatch h⟩ | omega | decide) (congrArg (A.int .i64) (i64a (j := 1) (by omega) (by decide))) ?_
  refine wpo_r rfl (by first | exact trivial | exact rfl | exact ⟨rfl, rfl⟩ | exact ⟨rfl, by omega, by omega, rfl⟩ | exact ⟨by omega, by omega, rfl⟩ | exact ⟨rfl, rfl, rfl, rfl, rfl, fun h => nomatch h⟩ | omega | decide) rfl ?_
  refine wpo_nil ?_
  exact ⟨rfl, le_st ⟨rfl, rfl, rfl, trivial⟩ ⟨rfl, trivial⟩ (Nat.le_refl _) rfl⟩

theorem pad_eq (b : List Nat) : pF b ++ bT (8 * b.length) 8 = shaPad b := by
  unfold shaPad pF pn
  rw [bytesBE_bT]; simp

theorem pad_flat (b : List Nat) : [b, [128], List.replicate (pn b + 8) 0].flatten = pF b ++ List.replicate 8 0 := by
  unfold pF
  rw [← List.replicate_append_replicate]
  simp only [List.flatten_cons, List.flatten_nil, List.append_nil, List.append_assoc, List.cons_append, List.nil_append]

theorem z8_map (m : Nat) : z8 m = (List.replicate m 0).map bA := by rw [List.map_replicate]

theorem pad_con (b : List Nat) (hl : b.length ≤ 1099511627776) (hp : Hp) (nx : Nat) : CallD PP LL 155 [bsA b] hp nx ⟨.own nx 0 0 (pT b), [(nx, ⟨0, false, some 5, .st ((shaPad b).map bA)⟩)], [], 1⟩ := by
  have hp' : pn b < 64 := Nat.mod_lt _ (by omega)
  have hT : pT b = b.length + 1 + pn b + 8 := rfl
  have hB : big = 2305843009213693952 := rfl
  have hM : maxBytes = 140737488355328 := rfl
  refine callD_new LL_ok Tryz.func155 (by rfl) rfl (by simp [Tryz.f155]) (by show A.rlL (b.map bA) ++ [] = []; rw [rl_bA]; rfl) (x1 := ⟨0, false, some 5, .st ((shaPad b).map bA)⟩) (rl_bA _) (fin (f := 155) (fn := Tryz.f155) rfl rfl ?_)
  refine RK_reg ?_
  refine wpo_r rfl (by first | exact trivial | exact rfl | exact ⟨rfl, rfl⟩ | exact ⟨rfl, by omega, by omega, rfl⟩ | exact ⟨by omega, by omega, rfl⟩ | exact ⟨rfl, rfl, rfl, rfl, rfl, fun h => nomatch h⟩ | omega | decide) rfl ?_
  refine wpo_nil ?_
  refine RK_reg ?_
  refine wpo_r rfl (by first | exact trivial | exact rfl | exact ⟨rfl, rfl⟩ | exact ⟨rfl, by omega, by omega, rfl⟩ | exact ⟨by omega, by omega, rfl⟩ | exact ⟨rfl, rfl, rfl, rfl, rfl, fun h => nomatch h⟩ | omega | decide) rfl ?_
  refine wpo_r rfl (by first | exact trivial | exact rfl | exact ⟨rfl, rfl⟩ | exact ⟨rfl, by omega, by omega, rfl⟩ | exact ⟨by omega, by omega, rfl⟩ | exact ⟨rfl, rfl, rfl, rfl, rfl, fun h => nomatch h⟩ | omega | decide) (map_len _) ?_
  refine wpo_r rfl (by first | exact trivial | exact rfl | exact ⟨rfl, rfl⟩ | exact ⟨rfl, by omega, by omega, rfl⟩ | exact ⟨by omega, by omega, rfl⟩ | exact ⟨rfl, rfl, rfl, rfl, rfl, fun h => nomatch h⟩ | omega | decide) (congrArg (A.int .i64) (i64a (i := b.length) (j := 1) (by omega) (by omega))) ?_
  refine wpo_r rfl (by first | exact trivial | exact rfl | exact ⟨rfl, rfl⟩ | exact ⟨rfl, by omega, by omega, rfl⟩ | exact ⟨by omega, by omega, rfl⟩ | exact ⟨rfl, rfl, rfl, rfl, rfl, fun h => nomatch h⟩ | omega | decide) (congrArg (A.int .i64) (i64a (i := b.length + 1) (j := 8) (by omega) (by omega))) ?_
  refine wpo_r rfl (⟨rfl, by decide⟩) (congrArg (A.int .i64) (tmod_nat (b.length + 1 + 8) 64)) ?_
  refine wpo_r rfl (by first | exact trivial | exact rfl | exact ⟨rfl, rfl⟩ | exact ⟨rfl, by omega, by omega, rfl⟩ | exact ⟨by omega, by omega, rfl⟩ | exact ⟨rfl, rfl, rfl, rfl, rfl, fun h => nomatch h⟩ | omega | decide) (congrArg (A.int .i64) (i64s (i := 64) (j := (b.length + 1 + 8) % 64) (by omega) (by omega))) ?_
  refine wpo_r rfl (⟨rfl, by decide⟩) (congrArg (A.int .i64) (tmod_nat (64 - (b.length + 1 + 8) % 64) 64)) ?_
  refine wpo_r rfl (by first | exact trivial | exact rfl | exact ⟨rfl, rfl⟩ | exact ⟨rfl, by omega, by omega, rfl⟩ | exact ⟨by omega, by omega, rfl⟩ | exact ⟨rfl, rfl, rfl, rfl, rfl, fun h => nomatch h⟩ | omega | decide) ((rfl : _ = A.int .i64 ((pn b : Nat) : Int))) ?_
  refine wpo_nil ?_
  refine RK_reg ?_
  refine wpo_r rfl (by first | exact trivial | exact rfl | exact ⟨rfl, rfl⟩ | exact ⟨rfl, by omega, by omega, rfl⟩ | exact ⟨by omega, by omega, rfl⟩ | exact ⟨rfl, rfl, rfl, rfl, rfl, fun h => nomatch h⟩ | omega | decide) rfl ?_
  refine wpo_w rfl ⟨⟨trivial, rfl, rfl⟩, by decide, by decide, by decide⟩ ?_
  refine wpo_r rfl (by first | exact trivial | exact rfl | exact ⟨rfl, rfl⟩ | exact ⟨rfl, by omega, by omega, rfl⟩ | exact ⟨by omega, by omega, rfl⟩ | exact ⟨rfl, rfl, rfl, rfl, rfl, fun h => nomatch h⟩ | omega | decide) rfl ?_
  refine wpo_r rfl (by first | exact trivial | exact rfl | exact ⟨rfl, rfl⟩ | exact ⟨rfl, by omega, by omega, rfl⟩ | exact ⟨by omega, by omega, rfl⟩ | exact ⟨rfl, rfl, rfl, rfl, rfl, fun h => nomatch h⟩ | omega | decide) (congrArg (A.int .i64) (i64a (i := pn b) (j := 8) (by omega) (by omega))) ?_
  refine wpo_w rfl (⟨by omega, rfl, by decide, by show ((pn b + 8 : Nat) : Int) * ((1 : Nat) : Int) ≤ _; omega⟩) ?_
  refine SW_own (t := 14) (ob := 0) (xs := [128].map bA) rfl rfl rfl rfl (Nat.le_refl _) rfl ?_
  refine SW_own (t := 17) (ob := 1) (len := pn b + 8) (xs := (List.replicate (pn b + 8) 0).map bA) rfl rfl rfl rfl (by show 0 + (pn b + 8) ≤ (z8 (pn b + 8)).length; rw [List.length_replicate]; omega) (by show ((z8 (pn b + 8)).drop 0).take (pn b + 8) = _; rw [List.drop_zero, List.take_of_length_le (by simp), z8_map]) ?_
  refine wpo_w rfl ⟨⟨⟨⟨trivial, rfl, rfl⟩, rfl, rfl⟩, rfl, rfl⟩, by decide, by decide, by decide⟩ ?_
  refine SW_own (t := 18) (ob := 2) (xs := [b, [128], List.replicate (pn b + 8) 0].map bsA) rfl rfl rfl rfl (Nat.le_refl _) rfl ?_
  refine wpo_cw rfl rfl (by repeat (first | refine List.forall_mem_cons.2 ⟨rfl, ?_⟩ | exact List.forall_mem_nil _)) (concat_con [b, [128], List.replicate (pn b + 8) 0] (by simp; omega) (by simp; omega) (show 3 < big by decide) _ _) ?_
  refine wpo_r rfl (by first | exact trivial | exact rfl | exact ⟨rfl, rfl⟩ | exact ⟨rfl, by omega, by omega, rfl⟩ | exact ⟨by omega, by omega, rfl⟩ | exact ⟨rfl, rfl, rfl, rfl, rfl, fun h => nomatch h⟩ | omega | decide) rfl ?_
  refine wpo_nil ?_
  refine RK_seq ?_
  refine RK_reg ?_
  refine wpo_r rfl (by first | exact trivial | exact rfl | exact ⟨rfl, rfl⟩ | exact ⟨rfl, by omega, by omega, rfl⟩ | exact ⟨by omega, by omega, rfl⟩ | exact ⟨rfl, rfl, rfl, rfl, rfl, fun h => nomatch h⟩ | omega | decide) rfl ?_
  refine wpo_nil ?_
  have hfl : [b, [128], List.replicate (pn b + 8) 0].flatten.length = pT b := by rw [pad_flat, List.length_append, pF_len, List.length_replicate, hT]
  have hp0 : pOb b 0 = ⟨0, false, some 5, .st ([b, [128], List.replicate (pn b + 8) 0].flatten.map bA)⟩ := by
    unfold pOb
    rw [pad_flat, List.map_append, z8_map, show bT (8 * b.length) 0 = [] from rfl, List.map_nil, List.append_nil]
  refine RK_for (p1 b) 8 (le_st ⟨rfl, congrArg (fun n => some (A.own 3 0 0 n)) hfl, rfl, trivial⟩ ⟨congrArg some hp0.symm, trivial⟩ (Nat.le_refl _) rfl) (pad_body b hl) ?_ ?_
  · refine RK_reg ?_
    refine wpo_r rfl (by first | exact trivial | exact rfl | exact ⟨rfl, rfl⟩ | exact ⟨rfl, by omega, by omega, rfl⟩ | exact ⟨by omega, by omega, rfl⟩ | exact ⟨rfl, rfl, rfl, rfl, rfl, fun h => nomatch h⟩ | omega | decide) rfl ?_
    refine wpo_nil ?_
    exact RK_out rfl (decide_eq_false (by omega)) ⟨rfl, le_st ⟨rfl, rfl, rfl, trivial⟩ ⟨rfl, trivial⟩ (Nat.le_refl _) rfl⟩
  intro t1 ht1
  refine ⟨rfl, RK_weak ?_ ht1⟩
  have e1 : p1 b 8 = stL [(0, bsA b), (4, .own 3 0 0 (pT b)), (20, .int .i64 (8 : Int))] [(3, ⟨0, false, some 5, .st ((shaPad b).map bA)⟩)] 4 := by
    unfold p1 pOb
    rw [← pad_eq, List.map_append, show z8 (8 - 8) = [] from rfl, List.append_nil]; rfl
  rw [e1]
  refine RK_reg ?_
  refine wpo_r rfl (by first | exact trivial | exact rfl | exact ⟨rfl, rfl⟩ | exact ⟨rfl, by omega, by omega, rfl⟩ | exact ⟨by omega, by omega, rfl⟩ | exact ⟨rfl, rfl, rfl, rfl, rfl, fun h => nomatch h⟩ | omega | decide) rfl ?_
  refine wpo_r rfl (by first | exact trivial | exact rfl | exact ⟨rfl, rfl⟩ | exact ⟨rfl, by omega, by omega, rfl⟩ | exact ⟨by omega, by omega, rfl⟩ | exact ⟨rfl, rfl, rfl, rfl, rfl, fun h => nomatch h⟩ | omega | decide) rfl ?_
  refine wpo_nil ?_
  exact RK_ret ⟨.inl rfl, 3, ⟨_, rfl, trivial, trivial⟩, rfl⟩

end Go.Ab


/- SHA: the sum of a text. -/
namespace Go.Ab
open Go.Proofs

def blk (p : List Nat) (i : Nat) : List Nat := (p.drop (64 * i)).take 64
def stI (p : List Nat) : Nat → ShaV
  | 0 => shaInit
  | i + 1 => addR (stI p i) (blk p i)

theorem addR_ok (s : ShaV) (b : List Nat) : (addR s b).ok := by
  intro x hx
  simp only [addR, addV, ShaV.l, List.mem_cons, List.not_mem_nil, or_false] at hx
  rcases hx with rfl | rfl | rfl | rfl | rfl | rfl | rfl | rfl <;> exact Nat.mod_lt _ (by omega)

theorem stI_ok (p : List Nat) : ∀ i, (stI p i).ok
  | 0 => by
    intro x hx
    simp only [stI, shaInit, ShaV.l, List.mem_cons, List.not_mem_nil, or_false] at hx
    rcases hx with rfl | rfl | rfl | rfl | rfl | rfl | rfl | rfl <;> decide
  | i + 1 => addR_ok _ _

abbrev N32 : Sh := .node (List.replicate 32 .leaf)
def TS : List (Nat × A) := [(2, .ptr 0 0 [] N32), (3, .ptr 2 0 [] .leaf), (11, .fn (.func 196) [] [.ptr 4 0 [] .leaf, .ptr 5 0 [] .leaf])]
noncomputable def y0 : YR := ⟨#[12], 35, look TS, asgOf Tryz.f97 0, bodyOf Tryz.f97 0, .ready, none⟩
def YS (y : YR) : Nat → Option XO := upy (upy (fun _ => none) 6 (some .dfr)) 7 (some (.loop y))
def HS (p : List Nat) (v : ShaV) : List (Nat × Ob) := [(0, ⟨0, false, none, .st (z8 32)⟩), (1, ⟨0, false, none, sA v⟩), (2, ⟨0, false, none, .ptr 1 0 [] K8⟩), (4, ⟨0, false, none, bsA p⟩), (5, ⟨0, false, none, .int .i64 64⟩)]
noncomputable def sC (p : List Nat) (i : Nat) : AS := stY [(0, .xo .yl 7), (1, .ptr 4 0 [] .leaf), (2, .ptr 5 0 [] .leaf), (4, .int .i64 ((64 * i : Nat) : Int))] (HS p (stI p i)) 8 (YS y0) []

theorem ca_ok : codeOk 35 (asgOf Tryz.f97 0) = true := by kernel_rfl
theorem cb_ok : codeOk 35 (bodyOf Tryz.f97 0) = true := by kernel_rfl

theorem blk_len {p : List Nat} {n i : Nat} (hp : p.length = 64 * n) (hi : i < n) : (blk p i).length = 64 := by
  unfold blk
  rw [List.length_take, List.length_drop]; omega

theorem blk_lt {p : List Nat} (hb : ∀ x ∈ p, x < 256) (i : Nat) : ∀ x ∈ blk p i, x < 256 := fun x hx => hb x (List.mem_of_mem_drop (List.mem_of_mem_take hx))

theorem cut_blk (p : List Nat) (i : Nat) : ((p.map bA).take (64 * i + 64)).drop (64 * i) = (blk p i).map bA := by
  rw [← List.map_take, ← List.map_drop, List.drop_take, show 64 * i + 64 - 64 * i = 64 by omega]; rfl

theorem sum_asg (p : List Nat) (v : ShaV) (i : Nat) (l : Nat) :
    RK PP LL (some l) 35 (asgOf Tryz.f97 0) ⟨bindPs [12] [bsA (blk p i)] (look TS), look (HS p v), 8, YS y0, []⟩ (fun e s' => e = .normal ∧ Le s' (stY [(3, .ptr 2 0 [] .leaf), (4, bsA (blk p i))] (HS p v) 8 (YS y0) [])) := by
  refine RK_region ?_
  refine wpo_r rfl (by first | exact trivial | exact rfl | exact ⟨rfl, rfl⟩ | exact ⟨rfl, by omega, by omega, rfl⟩ | exact ⟨by omega, by omega, rfl⟩ | exact ⟨rfl, rfl, rfl, rfl, rfl, fun h => nomatch h⟩ | omega | decide) rfl ?_
  refine wpo_nil ?_
  exact ⟨rfl, le_stY ⟨rfl, rfl, trivial⟩ ⟨rfl, rfl, rfl, rfl, rfl, trivial⟩ (Nat.le_refl _) (fun _ _ h => h) rfl (fun _ h => nomatch h)⟩

theorem sum_body (p : List Nat) (hb : ∀ x ∈ p, x < 256) (v : ShaV) (hv : v.ok) (i : Nat) (hl : (blk p i).length = 64) (l : Nat) :
    RK PP LL (some l) 35 (bodyOf Tryz.f97 0) ⟨look [(3, .ptr 2 0 [] .leaf), (4, bsA (blk p i))], look (HS p v), 8, YS { y0 with st := .busy }, []⟩
      (fun e s' => e = .normal ∧ Le s' (stY [] (HS p (addR v (blk p i))) 8 (YS { y0 with st := .busy }) [])) := by
  refine RK_blk (RK_region ?_)
  refine wpo_r rfl (by first | exact trivial | exact rfl | exact ⟨rfl, rfl⟩ | exact ⟨rfl, by omega, by omega, rfl⟩ | exact ⟨by omega, by omega, rfl⟩ | exact ⟨rfl, rfl, rfl, rfl, rfl, fun h => nomatch h⟩ | omega | decide) rfl ?_
  refine wpo_r rfl (by first | exact trivial | exact rfl | exact ⟨rfl, rfl⟩ | exact ⟨rfl, by omega, by omega, rfl⟩ | exact ⟨by omega, by omega, rfl⟩ | exact ⟨rfl, rfl, rfl, rfl, rfl, fun h => nomatch h⟩ | omega | decide) rfl ?_
  refine wpo_cw rfl rfl (by repeat (first | refine List.forall_mem_cons.2 ⟨rfl, ?_⟩ | exact List.forall_mem_nil _)) (add_con v hv (blk p i) (blk_lt hb i) hl rfl) ?_
  refine wpo_nil ?_
  exact ⟨.inr rfl, rfl, le_stY trivial ⟨rfl, rfl, rfl, rfl, rfl, trivial⟩ (Nat.le_refl _) (fun _ _ h => h) rfl (fun _ h => nomatch h)⟩

theorem YS_set (a b : YR) : upy (YS a) 7 (some (.loop b)) = YS b := upy_upy _ _ _ _

theorem chunk_body (p : List Nat) (hb : ∀ x ∈ p, x < 256) (n : Nat) (hp : p.length = 64 * n) (hn : n ≤ 1099511627776) (i : Nat) (hi : i < n) :
    RK PP LL none 31 (loopOf Tryz.f196 0) (sC p i) (fun e s' => e = .normal ∧ Le s' (sC p (i + 1))) := by
  have hB : big = 2305843009213693952 := rfl
  have hpl : (p.map bA).length = 64 * n := by rw [List.length_map, hp]
  have hcut : ((p.map bA).take ((p.map bA).length : Int).toNat).drop (64 * i) = (p.drop (64 * i)).map bA := by
    rw [Int.toNat_natCast, List.take_length, List.map_drop]
  refine RK_seqx ?_
  refine RK_reg ?_
  refine wpo_r rfl (by first | exact trivial | exact rfl | exact ⟨rfl, rfl⟩ | exact ⟨rfl, by omega, by omega, rfl⟩ | exact ⟨by omega, by omega, rfl⟩ | exact ⟨rfl, rfl, rfl, rfl, rfl, fun h => nomatch h⟩ | omega | decide) rfl ?_
  refine wpo_r rfl (by first | exact trivial | exact rfl | exact ⟨rfl, rfl⟩ | exact ⟨rfl, by omega, by omega, rfl⟩ | exact ⟨by omega, by omega, rfl⟩ | exact ⟨rfl, rfl, rfl, rfl, rfl, fun h => nomatch h⟩ | omega | decide) rfl ?_
  refine wpo_r rfl (by first | exact trivial | exact rfl | exact ⟨rfl, rfl⟩ | exact ⟨rfl, by omega, by omega, rfl⟩ | exact ⟨by omega, by omega, rfl⟩ | exact ⟨rfl, rfl, rfl, rfl, rfl, fun h => nomatch h⟩ | omega | decide) (congrArg (fun n : Nat => A.int .i64 (n : Int)) hpl) ?_
  refine wpo_r rfl (by first | exact trivial | exact rfl | exact ⟨rfl, rfl⟩ | exact ⟨rfl, by omega, by omega, rfl⟩ | exact ⟨by omega, by omega, rfl⟩ | exact ⟨rfl, rfl, rfl, rfl, rfl, fun h => nomatch h⟩ | omega | decide) rfl ?_
  refine wpo_nil ?_
  refine RK_ct rfl (decide_eq_true (by omega)) (RK_skip (.inl ⟨rfl, ?_⟩))
  refine RK_seq (RK_blk ?_)
  refine RK_drw ?_
  refine wpd_r rfl (by first | exact trivial | exact rfl | exact ⟨rfl, rfl⟩ | exact ⟨rfl, by omega, by omega, rfl⟩ | exact ⟨by omega, by omega, rfl⟩ | exact ⟨rfl, rfl, rfl, rfl, rfl, fun h => nomatch h⟩ | omega | decide) rfl ?_
  refine wpd_r rfl (by first | exact trivial | exact rfl | exact ⟨rfl, rfl⟩ | exact ⟨rfl, by omega, by omega, rfl⟩ | exact ⟨by omega, by omega, rfl⟩ | exact ⟨rfl, rfl, rfl, rfl, rfl, fun h => nomatch h⟩ | omega | decide) rfl ?_
  refine wpd_r rfl (by first | exact trivial | exact rfl | exact ⟨rfl, rfl⟩ | exact ⟨rfl, by omega, by omega, rfl⟩ | exact ⟨by omega, by omega, rfl⟩ | exact ⟨rfl, rfl, rfl, rfl, rfl, fun h => nomatch h⟩ | omega | decide) rfl ?_
  refine wpd_r rfl ⟨rfl, by omega, by rw [hpl]; omega, Int.le_refl _, Int.le_refl _, rfl, rfl, rfl, fun h => nomatch h⟩ (congrArg (A.sl 5) hcut) ?_
  refine wpd_r rfl (by first | exact trivial | exact rfl | exact ⟨rfl, rfl⟩ | exact ⟨rfl, by omega, by omega, rfl⟩ | exact ⟨by omega, by omega, rfl⟩ | exact ⟨rfl, rfl, rfl, rfl, rfl, fun h => nomatch h⟩ | omega | decide) (congrArg (fun n : Nat => A.int .i64 (n : Int)) (show ((p.drop (64 * i)).map bA).length = 64 * n - 64 * i by rw [List.length_map, List.length_drop, hp])) ?_
  refine wpd_r rfl (by first | exact trivial | exact rfl | exact ⟨rfl, rfl⟩ | exact ⟨rfl, by omega, by omega, rfl⟩ | exact ⟨by omega, by omega, rfl⟩ | exact ⟨rfl, rfl, rfl, rfl, rfl, fun h => nomatch h⟩ | omega | decide) (congrArg (A.int .i64) (if_neg (show ¬ (((64 * n - 64 * i : Nat) : Int) < 64) by omega))) ?_
  refine wpd_r rfl (by first | exact trivial | exact rfl | exact ⟨rfl, rfl⟩ | exact ⟨rfl, by omega, by omega, rfl⟩ | exact ⟨by omega, by omega, rfl⟩ | exact ⟨rfl, rfl, rfl, rfl, rfl, fun h => nomatch h⟩ | omega | decide) rfl ?_
  refine ⟨rfl, ?_⟩
  refine RK_reg ?_
  refine wpo_r rfl (by first | exact trivial | exact rfl | exact ⟨rfl, rfl⟩ | exact ⟨rfl, by omega, by omega, rfl⟩ | exact ⟨by omega, by omega, rfl⟩ | exact ⟨rfl, rfl, rfl, rfl, rfl, fun h => nomatch h⟩ | omega | decide) rfl ?_
  refine wpo_r rfl (by first | exact trivial | exact rfl | exact ⟨rfl, rfl⟩ | exact ⟨rfl, by omega, by omega, rfl⟩ | exact ⟨by omega, by omega, rfl⟩ | exact ⟨rfl, rfl, rfl, rfl, rfl, fun h => nomatch h⟩ | omega | decide) rfl ?_
  refine wpo_r rfl (by first | exact trivial | exact rfl | exact ⟨rfl, rfl⟩ | exact ⟨rfl, by omega, by omega, rfl⟩ | exact ⟨by omega, by omega, rfl⟩ | exact ⟨rfl, rfl, rfl, rfl, rfl, fun h => nomatch h⟩ | omega | decide) rfl ?_
  refine wpo_r rfl (by first | exact trivial | exact rfl | exact ⟨rfl, rfl⟩ | exact ⟨rfl, by omega, by omega, rfl⟩ | exact ⟨by omega, by omega, rfl⟩ | exact ⟨rfl, rfl, rfl, rfl, rfl, fun h => nomatch h⟩ | omega | decide) rfl ?_
  refine wpo_r rfl (by first | exact trivial | exact rfl | exact ⟨rfl, rfl⟩ | exact ⟨rfl, by omega, by omega, rfl⟩ | exact ⟨by omega, by omega, rfl⟩ | exact ⟨rfl, rfl, rfl, rfl, rfl, fun h => nomatch h⟩ | omega | decide) rfl ?_
  refine wpo_r rfl (by first | exact trivial | exact rfl | exact ⟨rfl, rfl⟩ | exact ⟨rfl, by omega, by omega, rfl⟩ | exact ⟨by omega, by omega, rfl⟩ | exact ⟨rfl, rfl, rfl, rfl, rfl, fun h => nomatch h⟩ | omega | decide) (congrArg (A.int .i64) (i64a (i := 64 * i) (j := 64) (by omega) (by omega))) ?_
  refine wpo_r rfl (by first | exact trivial | exact rfl | exact ⟨rfl, rfl⟩ | exact ⟨rfl, by omega, by omega, rfl⟩ | exact ⟨by omega, by omega, rfl⟩ | exact ⟨rfl, rfl, rfl, rfl, rfl, fun h => nomatch h⟩ | omega | decide) rfl ?_
  refine wpo_r rfl (by first | exact trivial | exact rfl | exact ⟨rfl, rfl⟩ | exact ⟨rfl, by omega, by omega, rfl⟩ | exact ⟨by omega, by omega, rfl⟩ | exact ⟨rfl, rfl, rfl, rfl, rfl, fun h => nomatch h⟩ | omega | decide) rfl ?_
  refine wpo_r rfl (by first | exact trivial | exact rfl | exact ⟨rfl, rfl⟩ | exact ⟨rfl, by omega, by omega, rfl⟩ | exact ⟨by omega, by omega, rfl⟩ | exact ⟨rfl, rfl, rfl, rfl, rfl, fun h => nomatch h⟩ | omega | decide) (congrArg (A.int .i64) (i64a (i := 64 * i) (j := 64) (by omega) (by omega))) ?_
  refine wpo_r rfl ⟨rfl, by omega, by omega, Int.le_refl _, by rw [hpl]; omega, rfl, rfl, rfl, fun _ => rfl⟩ (congrArg (A.sl 5) (cut_blk p i)) ?_
  refine SW_yield (y := y0) (e := .normal) (jump := none) (s1 := stY [(3, .ptr 2 0 [] .leaf), (4, bsA (blk p i))] (HS p (stI p i)) 8 (YS y0) []) (s2 := stY [] (HS p (addR (stI p i) (blk p i))) 8 (YS { y0 with st := .busy }) []) mixed_ok rfl rfl
    (by repeat (first | refine List.forall_mem_cons.2 ⟨rfl, ?_⟩ | exact List.forall_mem_nil _)) rfl rfl rfl (by decide) ca_ok cb_ok (fun l => sum_asg p (stI p i) i l) rfl rfl (fun l => ?_) rfl rfl rfl (fun _ h => nomatch h) ?_
  · have key : ∀ ys, ys = YS { y0 with st := .busy } → RK PP LL (some l) 35 (bodyOf Tryz.f97 0) ⟨look [(3, .ptr 2 0 [] .leaf), (4, bsA (blk p i))], look (HS p (stI p i)), 8, ys, []⟩
        (fun e s' => e = .normal ∧ Le s' (stY [] (HS p (addR (stI p i) (blk p i))) 8 (YS { y0 with st := .busy }) [])) := by
      rintro _ rfl; exact sum_body p hb (stI p i) (stI_ok p i) i (blk_len hp hi) l
    exact key _ (YS_set _ _)
  refine wpo_r rfl (by first | exact trivial | exact rfl | exact ⟨rfl, rfl⟩ | exact ⟨rfl, by omega, by omega, rfl⟩ | exact ⟨by omega, by omega, rfl⟩ | exact ⟨rfl, rfl, rfl, rfl, rfl, fun h => nomatch h⟩ | omega | decide) rfl ?_
  refine wpo_nil ?_
  refine RK_cf rfl rfl (RK_skip ⟨.inr rfl, rfl, RK_region ?_⟩)
  refine wpo_r rfl (by first | exact trivial | exact rfl | exact ⟨rfl, rfl⟩ | exact ⟨rfl, by omega, by omega, rfl⟩ | exact ⟨by omega, by omega, rfl⟩ | exact ⟨rfl, rfl, rfl, rfl, rfl, fun h => nomatch h⟩ | omega | decide) rfl ?_
  refine wpo_r rfl (by first | exact trivial | exact rfl | exact ⟨rfl, rfl⟩ | exact ⟨rfl, by omega, by omega, rfl⟩ | exact ⟨by omega, by omega, rfl⟩ | exact ⟨rfl, rfl, rfl, rfl, rfl, fun h => nomatch h⟩ | omega | decide) rfl ?_
  refine wpo_r rfl (by first | exact trivial | exact rfl | exact ⟨rfl, rfl⟩ | exact ⟨rfl, by omega, by omega, rfl⟩ | exact ⟨by omega, by omega, rfl⟩ | exact ⟨rfl, rfl, rfl, rfl, rfl, fun h => nomatch h⟩ | omega | decide) (congrArg (A.int .i64) ((i64a (i := 64 * i) (j := 64) (by omega) (by omega)).trans (congrArg Nat.cast (show 64 * i + 64 = 64 * (i + 1) by omega)))) ?_
  refine wpo_r rfl (by first | exact trivial | exact rfl | exact ⟨rfl, rfl⟩ | exact ⟨rfl, by omega, by omega, rfl⟩ | exact ⟨by omega, by omega, rfl⟩ | exact ⟨rfl, rfl, rfl, rfl, rfl, fun h => nomatch h⟩ | omega | decide) rfl ?_
  refine wpo_nil ?_
  exact ⟨rfl, le_stY ⟨rfl, rfl, rfl, rfl, trivial⟩ ⟨rfl, rfl, rfl, rfl, rfl, trivial⟩ (Nat.le_refl _) (fun o x h => by
    show upy (YS { y0 with st := .busy }) 7 (some (.loop y0)) o = some x
    rw [YS_set]; exact h) rfl (fun _ h => nomatch h)⟩

def byteO (v : ShaV) (i : Nat) : Nat := (v.l.getD (i / 4) 0 >>> (24 - 8 * (i % 4))) % 256
def YD : Nat → Option XO := upy (fun _ => none) 6 (some .dfr)
def oOb (v : ShaV) (i : Nat) : Ob := ⟨0, false, none, .st (((List.range i).map (byteO v)).map bA ++ z8 (32 - i))⟩
def sO (v : ShaV) (i : Nat) : AS := stY [(2, .ptr 0 0 [] N32), (3, .ptr 2 0 [] .leaf), (5, .ptr 8 0 [] N32), (16, .int .i64 (i : Int))]
  [(0, ⟨0, false, none, .st (z8 32)⟩), (1, ⟨0, false, none, sA v⟩), (2, ⟨0, false, none, .ptr 1 0 [] K8⟩), (8, oOb v i)] 9 YD [6]

theorem oOb_get (v : ShaV) {i : Nat} (hi : i < 32) : (((List.range i).map (byteO v)).map bA ++ z8 (32 - i))[i]? = some (bA 0) := by
  rw [List.getElem?_append_right (by simp), List.getElem?_replicate, if_pos (by simp; omega)]

theorem oOb_set (v : ShaV) {i : Nat} (hi : i < 32) : (((List.range i).map (byteO v)).map bA ++ z8 (32 - i)).set i (bA (byteO v i)) = ((List.range (i + 1)).map (byteO v)).map bA ++ z8 (32 - (i + 1)) := by
  obtain ⟨k, hk⟩ : ∃ k, 32 - i = k + 1 := ⟨31 - i, by omega⟩
  rw [List.set_append_right _ _ (by simp), hk, show z8 (k + 1) = bA 0 :: z8 k from rfl, show 32 - (i + 1) = k by omega]
  simp [List.range_succ]

theorem out_body (v : ShaV) (i : Nat) (hi : i < 32) :
    RK PP LL none 35 (loopOf Tryz.f97 0) (sO v i) (fun e s' => e = .normal ∧ Le s' (sO v (i + 1))) := by
  have hB : big = 2305843009213693952 := rfl
  have hm : i % 4 < 4 := Nat.mod_lt _ (by omega)
  have hd : i / 4 < 8 := by omega
  refine RK_reg ?_
  refine wpo_r rfl (by first | exact trivial | exact rfl | exact ⟨rfl, rfl⟩ | exact ⟨rfl, by omega, by omega, rfl⟩ | exact ⟨by omega, by omega, rfl⟩ | exact ⟨rfl, rfl, rfl, rfl, rfl, fun h => nomatch h⟩ | omega | decide) rfl ?_
  refine wpo_nil ?_
  refine RK_on rfl (decide_eq_true (by omega)) ?_
  refine RK_seq (RK_blk ?_)
  refine RK_reg ?_
  refine wpo_r rfl (by first | exact trivial | exact rfl | exact ⟨rfl, rfl⟩ | exact ⟨rfl, by omega, by omega, rfl⟩ | exact ⟨by omega, by omega, rfl⟩ | exact ⟨rfl, rfl, rfl, rfl, rfl, fun h => nomatch h⟩ | omega | decide) rfl ?_
  refine wpo_r rfl (by first | exact trivial | exact rfl | exact ⟨rfl, rfl⟩ | exact ⟨rfl, by omega, by omega, rfl⟩ | exact ⟨by omega, by omega, rfl⟩ | exact ⟨rfl, rfl, rfl, rfl, rfl, fun h => nomatch h⟩ | omega | decide) rfl ?_
  refine wpo_nil ?_
  refine RK_region ?_
  refine wpo_r rfl (by first | exact trivial | exact rfl | exact ⟨rfl, rfl⟩ | exact ⟨rfl, by omega, by omega, rfl⟩ | exact ⟨by omega, by omega, rfl⟩ | exact ⟨rfl, rfl, rfl, rfl, rfl, fun h => nomatch h⟩ | omega | decide) rfl ?_
  refine wpo_r rfl (by first | exact trivial | exact rfl | exact ⟨rfl, rfl⟩ | exact ⟨rfl, by omega, by omega, rfl⟩ | exact ⟨by omega, by omega, rfl⟩ | exact ⟨rfl, rfl, rfl, rfl, rfl, fun h => nomatch h⟩ | omega | decide) rfl ?_
  refine wpo_r rfl (by first | exact trivial | exact rfl | exact ⟨rfl, rfl⟩ | exact ⟨rfl, by omega, by omega, rfl⟩ | exact ⟨by omega, by omega, rfl⟩ | exact ⟨rfl, rfl, rfl, rfl, rfl, fun h => nomatch h⟩ | omega | decide) rfl ?_
  refine wpo_r rfl (⟨rfl, by decide⟩) (congrArg (A.int .i64) ((congrArg IntKind.i64.wrap (tdiv_nat i 4)).trans (wrap_i64 (by omega) (by omega)))) ?_
  refine wpo_r rfl (by first | exact trivial | exact rfl | exact ⟨rfl, rfl⟩ | exact ⟨rfl, by omega, by omega, rfl⟩ | exact ⟨by omega, by omega, rfl⟩ | exact ⟨rfl, rfl, rfl, rfl, rfl, fun h => nomatch h⟩ | omega | decide) rfl ?_
  refine wpo_r rfl (by first | exact trivial | exact rfl | exact ⟨rfl, rfl⟩ | exact ⟨rfl, by omega, by omega, rfl⟩ | exact ⟨by omega, by omega, rfl⟩ | exact ⟨rfl, rfl, rfl, rfl, rfl, fun h => nomatch h⟩ | omega | decide) rfl ?_
  refine wpo_r (opv_ld rfl rfl rfl (sub_one (uget (b := v.l) (i := i / 4) hd))) ⟨rfl, rfl⟩ rfl ?_
  refine wpo_r rfl (by first | exact trivial | exact rfl | exact ⟨rfl, rfl⟩ | exact ⟨rfl, by omega, by omega, rfl⟩ | exact ⟨by omega, by omega, rfl⟩ | exact ⟨rfl, rfl, rfl, rfl, rfl, fun h => nomatch h⟩ | omega | decide) rfl ?_
  refine wpo_r rfl (⟨rfl, by decide⟩) (congrArg (A.int .i64) (tmod_nat i 4)) ?_
  refine wpo_r rfl (by first | exact trivial | exact rfl | exact ⟨rfl, rfl⟩ | exact ⟨rfl, by omega, by omega, rfl⟩ | exact ⟨by omega, by omega, rfl⟩ | exact ⟨rfl, rfl, rfl, rfl, rfl, fun h => nomatch h⟩ | omega | decide) (congrArg (A.int .i64) (show IntKind.i64.wrap ((8 : Int) * ((i % 4 : Nat) : Int)) = ((8 * (i % 4) : Nat) : Int) from by rw [wrap_i64 (by omega) (by omega)]; omega)) ?_
  refine wpo_r rfl (by first | exact trivial | exact rfl | exact ⟨rfl, rfl⟩ | exact ⟨rfl, by omega, by omega, rfl⟩ | exact ⟨by omega, by omega, rfl⟩ | exact ⟨rfl, rfl, rfl, rfl, rfl, fun h => nomatch h⟩ | omega | decide) (congrArg (A.int .i64) (i64s (i := 24) (j := 8 * (i % 4)) (by omega) (by omega))) ?_
  refine wpo_r rfl (by first | exact trivial | exact rfl | exact ⟨rfl, rfl⟩ | exact ⟨rfl, by omega, by omega, rfl⟩ | exact ⟨by omega, by omega, rfl⟩ | exact ⟨rfl, rfl, rfl, rfl, rfl, fun h => nomatch h⟩ | omega | decide) (congrArg (A.int .u32) ((shr_u32 (v.l.getD (i / 4) 0) (24 - 8 * (i % 4))).trans (congrArg (fun k => (((v.l.getD (i / 4) 0) >>> k : Nat) : Int)) (Nat.min_eq_left (by omega))))) ?_
  refine wpo_r rfl (by first | exact trivial | exact rfl | exact ⟨rfl, rfl⟩ | exact ⟨rfl, by omega, by omega, rfl⟩ | exact ⟨by omega, by omega, rfl⟩ | exact ⟨rfl, rfl, rfl, rfl, rfl, fun h => nomatch h⟩ | omega | decide) (congrArg (A.int .u8) (wrap_u8 _)) ?_
  refine wpo_r rfl (by first | exact trivial | exact rfl | exact ⟨rfl, rfl⟩ | exact ⟨rfl, by omega, by omega, rfl⟩ | exact ⟨by omega, by omega, rfl⟩ | exact ⟨rfl, rfl, rfl, rfl, rfl, fun h => nomatch h⟩ | omega | decide) rfl ?_
  refine wpo_s (opv_sto rfl rfl rfl rfl (sub_one (oOb_get v hi)) (upd_one (oOb_get v hi))) ⟨rfl, rfl, rfl, rfl, rfl, fun h => nomatch h⟩ (congrArg (fun l => Ob.mk 0 false none (.st l)) (oOb_set v hi)) ?_
  refine wpo_nil ?_
  refine ⟨.inr rfl, rfl, RK_region ?_⟩
  refine wpo_r rfl (by first | exact trivial | exact rfl | exact ⟨rfl, rfl⟩ | exact ⟨rfl, by omega, by omega, rfl⟩ | exact ⟨by omega, by omega, rfl⟩ | exact ⟨rfl, rfl, rfl, rfl, rfl, fun h => nomatch h⟩ | omega | decide) (congrArg (A.int .i64) (i64a (j := 1) (by omega) (by decide))) ?_
  refine wpo_r rfl (by first | exact trivial | exact rfl | exact ⟨rfl, rfl⟩ | exact ⟨rfl, by omega, by omega, rfl⟩ | exact ⟨by omega, by omega, rfl⟩ | exact ⟨rfl, rfl, rfl, rfl, rfl, fun h => nomatch h⟩ | omega | decide) rfl ?_
  refine wpo_nil ?_
  exact ⟨rfl, le_stY ⟨rfl, rfl, rfl, rfl, trivial⟩ ⟨rfl, rfl, rfl, rfl, trivial⟩ (Nat.le_refl _) (fun _ _ h => h) rfl (fun o h => by
    rw [List.mem_singleton] at h; subst h; rfl)⟩

theorem parts_eq {p : List Nat} (hb : ∀ x ∈ p, x < 256) : ∀ n s, (∀ i, i < n → True) → shaParts n s p = (List.range n).foldl (fun s i => addR s (blk p i)) s := by
  intro n
  induction n generalizing p with
  | zero => intro s _; rfl
  | succ n ih =>
    intro s _
    show shaParts n (shaAdd s (p.take 64)) (p.drop 64) = _
    rw [← addR_eq s (fun x hx => hb x (List.mem_of_mem_take hx)), ih (fun x hx => hb x (List.mem_of_mem_drop hx)) _ (fun _ _ => trivial), List.range_succ_eq_map, List.foldl_cons, List.foldl_map]
    have e : ∀ i, blk (p.drop 64) i = blk p (i + 1) := fun i => by unfold blk; rw [List.drop_drop, show 64 + 64 * i = 64 * (i + 1) by omega]
    simp only [e]
    rfl

theorem stI_fold (p : List Nat) : ∀ n, stI p n = (List.range n).foldl (fun s i => addR s (blk p i)) shaInit
  | 0 => rfl
  | n + 1 => by rw [List.range_succ, List.foldl_append, ← stI_fold p n]; rfl

theorem pad_len (b : List Nat) : (shaPad b).length = pT b := by rw [← pad_eq, List.length_append, pF_len, bT_len]; rfl
theorem pT_64 (b : List Nat) : pT b = 64 * (pT b / 64) := by unfold pT pn; omega
theorem bT_lt (x : Nat) : ∀ i, ∀ y ∈ bT x i, y < 256
  | 0, _, h => nomatch h
  | i + 1, y, h => by
    rcases List.mem_cons.1 h with rfl | h
    · exact Nat.mod_lt _ (by omega)
    · exact bT_lt x i y h
theorem pad_lt {b : List Nat} (hb : ∀ x ∈ b, x < 256) : ∀ x ∈ shaPad b, x < 256 := by
  intro x hx
  rw [← pad_eq] at hx
  rcases List.mem_append.1 hx with hx | hx
  · unfold pF at hx
    rcases List.mem_append.1 hx with hx | hx
    · exact hb x hx
    · rcases List.mem_cons.1 hx with rfl | hx
      · omega
      · rw [(List.mem_replicate.1 hx).2]; omega
  · exact bT_lt _ _ x hx

theorem sum_eq {b : List Nat} (hb : ∀ x ∈ b, x < 256) : (List.range 32).map (byteO (stI (shaPad b) (pT b / 64))) = shaSum b := by
  have e : shaParts ((shaPad b).length / 64) shaInit (shaPad b) = stI (shaPad b) (pT b / 64) := by rw [parts_eq (pad_lt hb) _ _ (fun _ _ => trivial), pad_len, stI_fold]
  unfold shaSum
  simp only [e, bytesBE_bT]
  rfl

theorem sum_con (b : List Nat) (hb : ∀ x ∈ b, x < 256) (hl : b.length ≤ 1099511627776) : Pure PP LL 97 [bsA b] (.st ((shaSum b).map bA)) := by
  intro hp nx
  have hB : big = 2305843009213693952 := rfl
  have hpl : (shaPad b).length = 64 * (pT b / 64) := by rw [pad_len]; exact pT_64 b
  have hpt : pT b ≤ 1099511627776 + 100 := by have : pn b < 64 := Nat.mod_lt _ (by omega); unfold pT; omega
  have hn : pT b / 64 ≤ 1099511627776 := by omega
  have hpb := pad_lt hb
  have hse := sum_eq hb
  have hpad := fun (hp : Hp) (nx : Nat) => pad_con b hl hp nx
  have hlen' : pT b = 64 * (pT b / 64) := pT_64 b
  rw [← hse]
  have hr : A.rl (.st (((List.range 32).map (byteO (stI (shaPad b) (pT b / 64)))).map bA)) = [] := rl_bA _
  generalize shaPad b = p at *
  generalize hN : pT b / 64 = n at *
  refine callD_pure LL_ok Tryz.func97 (by rfl) rfl (by simp [Tryz.f97]) (by show A.rlL (b.map bA) ++ [] = []; rw [rl_bA]; rfl) (rs := [_]) (fin (f := 97) (fn := Tryz.f97) rfl rfl ?_) (by show A.rl _ ++ [] = []; rw [hr]; rfl) (by simp [A.isTup])
  refine RK_reg ?_
  refine wpo_w rfl (by first | exact trivial | exact rfl | exact ⟨rfl, rfl⟩ | exact ⟨rfl, by omega, by omega, rfl⟩ | exact ⟨by omega, by omega, rfl⟩ | exact ⟨rfl, rfl, rfl, rfl, rfl, fun h => nomatch h⟩ | omega | decide) ?_
  refine wpo_nil ?_
  refine RK_reg ?_
  refine wpo_r rfl ⟨⟨⟨⟨⟨⟨⟨⟨trivial, rfl, rfl⟩, rfl, rfl⟩, rfl, rfl⟩, rfl, rfl⟩, rfl, rfl⟩, rfl, rfl⟩, rfl, rfl⟩, rfl, rfl⟩ rfl ?_
  refine wpo_w rfl (by first | exact trivial | exact rfl | exact ⟨rfl, rfl⟩ | exact ⟨rfl, by omega, by omega, rfl⟩ | exact ⟨by omega, by omega, rfl⟩ | exact ⟨rfl, rfl, rfl, rfl, rfl, fun h => nomatch h⟩ | omega | decide) ?_
  refine wpo_w rfl (by first | exact trivial | exact rfl | exact ⟨rfl, rfl⟩ | exact ⟨rfl, by omega, by omega, rfl⟩ | exact ⟨by omega, by omega, rfl⟩ | exact ⟨rfl, rfl, rfl, rfl, rfl, fun h => nomatch h⟩ | omega | decide) ?_
  refine wpo_s rfl (by first | exact trivial | exact rfl | exact ⟨rfl, rfl⟩ | exact ⟨rfl, by omega, by omega, rfl⟩ | exact ⟨by omega, by omega, rfl⟩ | exact ⟨rfl, rfl, rfl, rfl, rfl, fun h => nomatch h⟩ | omega | decide) rfl ?_
  refine wpo_nil ?_
  refine RK_seqx ?_
  refine RK_reg ?_
  refine wpo_r rfl (by first | exact trivial | exact rfl | exact ⟨rfl, rfl⟩ | exact ⟨rfl, by omega, by omega, rfl⟩ | exact ⟨by omega, by omega, rfl⟩ | exact ⟨rfl, rfl, rfl, rfl, rfl, fun h => nomatch h⟩ | omega | decide) rfl ?_
  refine wpo_cw rfl rfl (by repeat (first | refine List.forall_mem_cons.2 ⟨rfl, ?_⟩ | exact List.forall_mem_nil _)) (hpad _ _) ?_
  refine SW_own (t := 10) (ob := 3) (xs := p.map bA) rfl rfl rfl rfl (by show 0 + pT b ≤ (p.map bA).length; rw [List.length_map, hpl]; omega) (by show ((p.map bA).drop 0).take (pT b) = _; rw [List.drop_zero, List.take_of_length_le (by rw [List.length_map, hpl]; omega)]) ?_
  refine SW_inline (f := 154) (fn := Tryz.f154) mixed_ok rfl rfl (by repeat (first | refine List.forall_mem_cons.2 ⟨rfl, ?_⟩ | exact List.forall_mem_nil _)) Tryz.func154 (by rfl) rfl (cok (f := 154) (fn := Tryz.f154) rfl rfl) (by show 2 ≤ 9; omega) ?_
  refine RK_reg ?_
  refine wpo_w rfl (by first | exact trivial | exact rfl | exact ⟨rfl, rfl⟩ | exact ⟨rfl, by omega, by omega, rfl⟩ | exact ⟨by omega, by omega, rfl⟩ | exact ⟨rfl, rfl, rfl, rfl, rfl, fun h => nomatch h⟩ | omega | decide) ?_
  refine wpo_w rfl (by first | exact trivial | exact rfl | exact ⟨rfl, rfl⟩ | exact ⟨rfl, by omega, by omega, rfl⟩ | exact ⟨by omega, by omega, rfl⟩ | exact ⟨rfl, rfl, rfl, rfl, rfl, fun h => nomatch h⟩ | omega | decide) ?_
  refine wpo_r rfl (by first | exact trivial | exact rfl | exact ⟨rfl, rfl⟩ | exact ⟨rfl, by omega, by omega, rfl⟩ | exact ⟨by omega, by omega, rfl⟩ | exact ⟨rfl, rfl, rfl, rfl, rfl, fun h => nomatch h⟩ | omega | decide) rfl ?_
  refine wpo_nil ?_
  refine RK_seqx ?_
  refine RK_reg ?_
  refine wpo_r rfl (by first | exact trivial | exact rfl | exact ⟨rfl, rfl⟩ | exact ⟨rfl, by omega, by omega, rfl⟩ | exact ⟨by omega, by omega, rfl⟩ | exact ⟨rfl, rfl, rfl, rfl, rfl, fun h => nomatch h⟩ | omega | decide) rfl ?_
  refine wpo_r rfl (by first | exact trivial | exact rfl | exact ⟨rfl, rfl⟩ | exact ⟨rfl, by omega, by omega, rfl⟩ | exact ⟨by omega, by omega, rfl⟩ | exact ⟨rfl, rfl, rfl, rfl, rfl, fun h => nomatch h⟩ | omega | decide) rfl ?_
  refine wpo_nil ?_
  refine RK_cf rfl rfl (RK_skip (.inl ⟨rfl, ?_⟩))
  refine RK_reg ?_
  refine wpo_r rfl ⟨(by repeat (first | refine List.forall_mem_cons.2 ⟨rfl, ?_⟩ | exact List.forall_mem_nil _)), (by repeat (first | refine List.forall_mem_cons.2 ⟨rfl, ?_⟩ | exact List.forall_mem_nil _))⟩ rfl ?_
  refine wpo_r rfl (by first | exact trivial | exact rfl | exact ⟨rfl, rfl⟩ | exact ⟨rfl, by omega, by omega, rfl⟩ | exact ⟨by omega, by omega, rfl⟩ | exact ⟨rfl, rfl, rfl, rfl, rfl, fun h => nomatch h⟩ | omega | decide) rfl ?_
  refine wpo_nil ?_
  refine RK_ret ⟨.inl rfl, fun _ h => (nomatch h), _, [_], rfl, ⟨trivial, trivial⟩, (by repeat (first | refine List.forall_mem_cons.2 ⟨rfl, ?_⟩ | exact List.forall_mem_nil _)), ?_⟩
  refine wpo_nil ?_
  refine RK_weak (t := stL TS (HS p shaInit) 6) ?_ (le_st ⟨rfl, rfl, rfl, trivial⟩ ⟨rfl, rfl, rfl, rfl, rfl, trivial⟩ (Nat.le_refl _) rfl)
  refine RK_blk (RK_rangeFunc (f := 196) (fn := Tryz.f196) rfl Tryz.func196 (by rfl) rfl (cok (f := 196) (fn := Tryz.f196) rfl rfl) (by show 3 ≤ 31; omega) ?_)
  refine RK_reg ?_
  refine wpo_r rfl (by first | exact trivial | exact rfl | exact ⟨rfl, rfl⟩ | exact ⟨rfl, by omega, by omega, rfl⟩ | exact ⟨by omega, by omega, rfl⟩ | exact ⟨rfl, rfl, rfl, rfl, rfl, fun h => nomatch h⟩ | omega | decide) ((rfl : _ = A.int .i64 ((64 * 0 : Nat) : Int))) ?_
  refine wpo_nil ?_
  refine RK_for (sC p) n (le_stY ⟨rfl, rfl, rfl, rfl, trivial⟩ ⟨rfl, rfl, rfl, rfl, rfl, trivial⟩ (Nat.le_refl _) (fun _ _ h => h) rfl (fun _ h => nomatch h)) (chunk_body p hpb n hpl hn) ?_ ?_
  · refine RK_seqx ?_
    refine RK_reg ?_
    refine wpo_r rfl (by first | exact trivial | exact rfl | exact ⟨rfl, rfl⟩ | exact ⟨rfl, by omega, by omega, rfl⟩ | exact ⟨by omega, by omega, rfl⟩ | exact ⟨rfl, rfl, rfl, rfl, rfl, fun h => nomatch h⟩ | omega | decide) rfl ?_
    refine wpo_r rfl (by first | exact trivial | exact rfl | exact ⟨rfl, rfl⟩ | exact ⟨rfl, by omega, by omega, rfl⟩ | exact ⟨by omega, by omega, rfl⟩ | exact ⟨rfl, rfl, rfl, rfl, rfl, fun h => nomatch h⟩ | omega | decide) rfl ?_
    refine wpo_r rfl (by first | exact trivial | exact rfl | exact ⟨rfl, rfl⟩ | exact ⟨rfl, by omega, by omega, rfl⟩ | exact ⟨by omega, by omega, rfl⟩ | exact ⟨rfl, rfl, rfl, rfl, rfl, fun h => nomatch h⟩ | omega | decide) (congrArg (fun n : Nat => A.int .i64 (n : Int)) (show (p.map bA).length = 64 * n by rw [List.length_map, hpl])) ?_
    refine wpo_r rfl (by first | exact trivial | exact rfl | exact ⟨rfl, rfl⟩ | exact ⟨rfl, by omega, by omega, rfl⟩ | exact ⟨by omega, by omega, rfl⟩ | exact ⟨rfl, rfl, rfl, rfl, rfl, fun h => nomatch h⟩ | omega | decide) rfl ?_
    refine wpo_nil ?_
    exact RK_cf rfl (decide_eq_false (by omega)) (RK_exit (.inr ⟨by simp, rfl, le_stY ⟨rfl, rfl, rfl, rfl, trivial⟩ ⟨rfl, rfl, rfl, rfl, rfl, trivial⟩ (Nat.le_refl _) (fun _ _ h => h) rfl (fun _ h => nomatch h)⟩))
  intro t ht
  have hmk : t.mks = [] := ht.mks.symm
  have hd6 : t.ys 6 = some .dfr := ht.ys 6 _ rfl
  refine ⟨.inr rfl, ⟨_, [], rfl, trivial, fun _ h => (nomatch h)⟩, y0, .normal, ht.ys 7 _ rfl, (fun h => nomatch h), by rw [hmk]; exact fun h => (nomatch h), ?mk, rfl, .inr rfl, .inl ⟨rfl, ?_⟩⟩
  case mk =>
    intro o ho
    rw [List.mem_singleton] at ho; subst ho; exact ⟨hd6, by rw [hmk]; exact fun h => nomatch h⟩
  refine RK_weak (t := stY TS [(0, ⟨0, false, none, .st (z8 32)⟩), (1, ⟨0, false, none, sA (stI p n)⟩), (2, ⟨0, false, none, .ptr 1 0 [] K8⟩)] 8 YD [6]) ?_ (le_stY ⟨rfl, rfl, rfl, trivial⟩ ⟨ht.hp 0 _ rfl, ht.hp 1 _ rfl, ht.hp 2 _ rfl, trivial⟩ ht.nx ?ys rfl (fun o h => by
    rw [List.mem_singleton] at h; subst h; rfl))
  case ys =>
    intro o x h
    by_cases ho : o = 6
    · subst ho
      cases h
      show (if 6 ∈ 7 :: t.mks then none else t.ys 6) = some .dfr
      rw [hmk, hd6]; rfl
    · unfold YD upy at h
      rw [if_neg ho] at h; cases h
  generalize stI p n = v
  have hd6' : ∀ o ∈ [6], YD o = some .dfr := fun o h => by
    rw [List.mem_singleton] at h; subst h; rfl
  refine RK_reg ?_
  refine wpo_w rfl (by first | exact trivial | exact rfl | exact ⟨rfl, rfl⟩ | exact ⟨rfl, by omega, by omega, rfl⟩ | exact ⟨by omega, by omega, rfl⟩ | exact ⟨rfl, rfl, rfl, rfl, rfl, fun h => nomatch h⟩ | omega | decide) ?_
  refine wpo_nil ?_
  refine RK_seq ?_
  refine RK_reg ?_
  refine wpo_r rfl (by first | exact trivial | exact rfl | exact ⟨rfl, rfl⟩ | exact ⟨rfl, by omega, by omega, rfl⟩ | exact ⟨by omega, by omega, rfl⟩ | exact ⟨rfl, rfl, rfl, rfl, rfl, fun h => nomatch h⟩ | omega | decide) rfl ?_
  refine wpo_nil ?_
  refine RK_for (sO v) 32 (le_stY ⟨rfl, rfl, rfl, rfl, trivial⟩ ⟨rfl, rfl, rfl, rfl, trivial⟩ (Nat.le_refl _) (fun _ _ h => h) rfl hd6') (out_body v) ?_ ?_
  · refine RK_reg ?_
    refine wpo_r rfl (by first | exact trivial | exact rfl | exact ⟨rfl, rfl⟩ | exact ⟨rfl, by omega, by omega, rfl⟩ | exact ⟨by omega, by omega, rfl⟩ | exact ⟨rfl, rfl, rfl, rfl, rfl, fun h => nomatch h⟩ | omega | decide) rfl ?_
    refine wpo_nil ?_
    exact RK_out rfl (decide_eq_false (by omega)) ⟨rfl, le_stY ⟨rfl, rfl, rfl, rfl, trivial⟩ ⟨rfl, rfl, rfl, rfl, trivial⟩ (Nat.le_refl _) (fun _ _ h => h) rfl hd6'⟩
  intro t1 ht1
  refine ⟨rfl, RK_weak ?_ ht1⟩
  have e1 : sO v 32 = stY [(2, .ptr 0 0 [] N32), (3, .ptr 2 0 [] .leaf), (5, .ptr 8 0 [] N32), (16, .int .i64 (32 : Int))]
    [(0, ⟨0, false, none, .st (z8 32)⟩), (1, ⟨0, false, none, sA v⟩), (2, ⟨0, false, none, .ptr 1 0 [] K8⟩), (8, ⟨0, false, none, .st (((List.range 32).map (byteO v)).map bA)⟩)] 9 YD [6] := by
    unfold sO oOb
    rw [Nat.sub_self, show z8 0 = [] from rfl, List.append_nil]; rfl
  rw [e1]
  refine RK_reg ?_
  refine wpo_r rfl (by first | exact trivial | exact rfl | exact ⟨rfl, rfl⟩ | exact ⟨rfl, by omega, by omega, rfl⟩ | exact ⟨by omega, by omega, rfl⟩ | exact ⟨rfl, rfl, rfl, rfl, rfl, fun h => nomatch h⟩ | omega | decide) rfl ?_
  refine wpo_s rfl (by first | exact trivial | exact rfl | exact ⟨rfl, rfl⟩ | exact ⟨rfl, by omega, by omega, rfl⟩ | exact ⟨by omega, by omega, rfl⟩ | exact ⟨rfl, rfl, rfl, rfl, rfl, fun h => nomatch h⟩ | omega | decide) rfl ?_
  refine wpo_nil ?_
  exact RK_ret ⟨.inl rfl, _, rfl, ⟨rfl, rfl⟩, trivial⟩

end Go.Ab


/- CONTRACTS that the kernel may use. -/
namespace Go.Ab
open Go.Proofs

noncomputable def sumE : List A → Option Dl
  | [.sl 5 xs] => match bytesOf xs with
    | some b => match Nat.ble b.length 1099511627776 with
      | true => some ⟨.st ((shaSum b).map bA), [], [], 0⟩
      | false => none
    | none => none
  | _ => none

noncomputable def baseE : ET := fun f vs _ _ => match Nat.beq f 97 with
  | true => sumE vs
  | false => match Nat.beq f 200 with
    | true => addE vs
    | false => match Nat.beq f 259 with
      | true => subE vs
      | false => none

theorem baseE_ok : EOk baseE := by
  intro f vs hp nx δ h
  unfold baseE at h
  split at h
  · rename_i hf
    rw [Nat.eq_of_beq_eq_true hf]
    unfold sumE at h
    split at h
    · rename_i xs
      split at h
      · rename_i b hb
        split at h
        · rename_i hl
          cases h
          obtain ⟨rfl, h2⟩ := bytesOf_spec hb
          exact sum_con b h2 (Nat.le_of_ble_eq_true hl) hp nx
        · cases h
      · cases h
    · cases h
  · split at h
    · rename_i hf
      rw [Nat.eq_of_beq_eq_true hf]
      exact addE_sound (fn := Tryz.f200) Tryz.func200 (by rfl) (by rfl) (by kernel_rfl) (by kernel_rfl) h
    · split at h
      · rename_i hf
        rw [Nat.eq_of_beq_eq_true hf]
        exact subE_sound (fn := Tryz.f259) Tryz.func259 (by rfl) (by rfl) (by kernel_rfl) (by kernel_rfl) h
      · cases h

end Go.Ab

