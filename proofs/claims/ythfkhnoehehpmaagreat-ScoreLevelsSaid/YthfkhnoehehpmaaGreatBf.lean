import Derived.Test.YthfkhnoehehpmaaGreatBc
import Derived.Test.YthfkhnoehehpmaaGreatBe
set_option linter.unusedVariables false
set_option linter.unusedSimpArgs false
/- SCORE: what levels are worth. -/
namespace Go.Ab
open Go.Proofs

def iA (x : Int) : A := .int .i64 x
def cnt (xs : List Int) (k : Nat) : Nat := (xs.filter (fun x => decide ((k : Int) ≤ x))).length
def cA (f : Nat → Nat) : List A := (List.range 32).map (fun k => iA (f k))
abbrev N32' : Sh := .node (List.replicate 32 .leaf)

theorem cA_get (f : Nat → Nat) {j : Nat} (hj : j < 32) : (cA f)[j]? = some (iA (f j)) := by
  unfold cA
  rw [List.getElem?_map, List.getElem?_range hj]; rfl

theorem cA_set (f : Nat → Nat) (j v : Nat) : (cA f).set j (iA v) = cA (fun k => if k = j then v else f k) := by
  unfold cA
  refine List.ext_getElem? fun i => ?_
  rw [List.getElem?_set]
  by_cases h : i < 32
  · rw [List.getElem?_map, List.getElem?_map, List.getElem?_range h]
    simp only [List.length_map, List.length_range, Option.map_some]
    by_cases e : j = i
    · subst e; simp [h]
    · rw [if_neg e, if_neg (Ne.symm e)]
  · rw [List.getElem?_eq_none (l := (List.range 32).map _) (by simp; omega), List.getElem?_eq_none (l := (List.range 32).map _) (by simp; omega)]
    simp only [List.length_map, List.length_range]
    split
    · rw [if_neg (by omega)]
    · rfl

theorem cA_congr {f g : Nat → Nat} (h : ∀ k, k < 32 → f k = g k) : cA f = cA g := by
  unfold cA
  refine List.map_congr_left fun k hk => ?_
  rw [h k (List.mem_range.1 hk)]

theorem cnt_le (xs : List Int) (k : Nat) : cnt xs k ≤ xs.length := List.length_filter_le _ _

theorem cnt_snoc (xs : List Int) (x : Int) (k : Nat) : cnt (xs ++ [x]) k = cnt xs k + if (k : Int) ≤ x then 1 else 0 := by
  unfold cnt
  rw [List.filter_append, List.length_append]
  by_cases h : (k : Int) ≤ x <;> simp [h]

/-- so many counted up -/
def fj (ys : List Int) (j k : Nat) : Nat := cnt ys k + if k < j then 1 else 0

def top (x : Int) : Int := (if (31 : Int) < x then 31 else x) + 1

theorem i64r {n : Int} (h1 : -9223372036854775808 ≤ n) (h2 : n < 9223372036854775808) : IntKind.i64.wrap n = n := wrap_i64 h1 h2

def inT (xs : List Int) (m : Int) (i : Nat) (J : Int) (j : Nat) : List (Nat × A) :=
  [(0, .sl 3 (xs.map iA)), (1, iA m), (5, .ptr 0 0 [] N32'), (15, .sl 3 (xs.map iA)), (16, .int .i64 (xs.length : Int)), (17, .int .i64 (i : Int)), (23, .int .i64 J), (24, .int .i64 (j : Int))]
def inS (xs : List Int) (m : Int) (i : Nat) (J : Int) (j : Nat) : AS := stL (inT xs m i J j) [(0, ⟨0, false, none, .st (cA (fj (xs.take i) j))⟩)] 1
def outS (xs : List Int) (m : Int) (i : Nat) : AS :=
  stL [(0, .sl 3 (xs.map iA)), (1, iA m), (5, .ptr 0 0 [] N32'), (15, .sl 3 (xs.map iA)), (16, .int .i64 (xs.length : Int)), (17, .int .i64 (i : Int))] [(0, ⟨0, false, none, .st (cA (cnt (xs.take i)))⟩)] 1

theorem inner_body (xs : List Int) (m : Int) (i : Nat) (hx : xs.length ≤ 100) (x : Int) (j : Nat) (hj : j < (top x).toNat) :
    RK PP LL none 51 (loopOf Tryz.f22 1) (inS xs m i (top x) j) (fun e s' => e = .normal ∧ Le s' (inS xs m i (top x) (j + 1))) := by
  have hB : big = 2305843009213693952 := rfl
  have h32 : j < 32 := by unfold top at hj; split at hj <;> omega
  have hc : fj (xs.take i) j j ≤ 100 := by
    have := cnt_le (xs.take i) j
    have h2 : (xs.take i).length ≤ xs.length := List.length_take_le' ..
    unfold fj; rw [if_neg (by omega)]; omega
  refine RK_reg ?_
  refine wpo_r rfl (by first | exact trivial | exact rfl | exact ⟨rfl, rfl⟩ | exact ⟨rfl, by omega, by omega, rfl⟩ | exact ⟨by omega, by omega, rfl⟩ | exact ⟨rfl, rfl, rfl, rfl, rfl, fun h => nomatch h⟩ | omega | decide) rfl ?_
  refine wpo_nil ?_
  refine RK_on rfl (decide_eq_true (by omega)) ?_
  refine RK_seq (RK_blk ?_)
  refine RK_reg ?_
  refine wpo_r rfl (by first | exact trivial | exact rfl | exact ⟨rfl, rfl⟩ | exact ⟨rfl, by omega, by omega, rfl⟩ | exact ⟨by omega, by omega, rfl⟩ | exact ⟨rfl, rfl, rfl, rfl, rfl, fun h => nomatch h⟩ | omega | decide) rfl ?_
  refine wpo_r rfl (by first | exact trivial | exact rfl | exact ⟨rfl, rfl⟩ | exact ⟨rfl, by omega, by omega, rfl⟩ | exact ⟨by omega, by omega, rfl⟩ | exact ⟨rfl, rfl, rfl, rfl, rfl, fun h => nomatch h⟩ | omega | decide) rfl ?_
  refine wpo_nil ?_
  refine RK_region ?_
  refine wpo_r rfl (by first | exact trivial | exact rfl | exact ⟨rfl, rfl⟩ | exact ⟨rfl, by omega, by omega, rfl⟩ | exact ⟨by omega, by omega, rfl⟩ | exact ⟨rfl, rfl, rfl, rfl, rfl, fun h => nomatch h⟩ | omega | decide) rfl ?_
  refine wpo_r rfl (by first | exact trivial | exact rfl | exact ⟨rfl, rfl⟩ | exact ⟨rfl, by omega, by omega, rfl⟩ | exact ⟨by omega, by omega, rfl⟩ | exact ⟨rfl, rfl, rfl, rfl, rfl, fun h => nomatch h⟩ | omega | decide) rfl ?_
  refine wpo_r (opv_ld rfl rfl rfl (sub_one (cA_get _ h32))) ⟨rfl, rfl⟩ rfl ?_
  refine wpo_r rfl (by first | exact trivial | exact rfl | exact ⟨rfl, rfl⟩ | exact ⟨rfl, by omega, by omega, rfl⟩ | exact ⟨by omega, by omega, rfl⟩ | exact ⟨rfl, rfl, rfl, rfl, rfl, fun h => nomatch h⟩ | omega | decide) (congrArg (A.int .i64) (i64a (i := fj (xs.take i) j j) (j := 1) (by omega) (by omega))) ?_
  refine wpo_r rfl (by first | exact trivial | exact rfl | exact ⟨rfl, rfl⟩ | exact ⟨rfl, by omega, by omega, rfl⟩ | exact ⟨by omega, by omega, rfl⟩ | exact ⟨rfl, rfl, rfl, rfl, rfl, fun h => nomatch h⟩ | omega | decide) rfl ?_
  refine wpo_s (opv_sto rfl rfl rfl rfl (sub_one (cA_get _ h32)) (upd_one (cA_get _ h32))) ⟨rfl, rfl, rfl, rfl, rfl, fun h => nomatch h⟩ (congrArg (fun l => Ob.mk 0 false none (.st l)) ((cA_set (fj (xs.take i) j) j (fj (xs.take i) j j + 1)).trans (cA_congr (g := fj (xs.take i) (j + 1)) fun k _ => by
    unfold fj
    by_cases e : k = j
    · subst e; rw [if_pos rfl, if_neg (by omega), if_pos (by omega)]
    · rw [if_neg e]
      by_cases h : k < j
      · rw [if_pos h, if_pos (by omega)]
      · rw [if_neg h, if_neg (by omega)]))) ?_
  refine wpo_nil ?_
  refine ⟨.inr rfl, rfl, RK_region ?_⟩
  refine wpo_r rfl (by first | exact trivial | exact rfl | exact ⟨rfl, rfl⟩ | exact ⟨rfl, by omega, by omega, rfl⟩ | exact ⟨by omega, by omega, rfl⟩ | exact ⟨rfl, rfl, rfl, rfl, rfl, fun h => nomatch h⟩ | omega | decide) (congrArg (A.int .i64) (i64a (i := j) (j := 1) (by omega) (by omega))) ?_
  refine wpo_r rfl (by first | exact trivial | exact rfl | exact ⟨rfl, rfl⟩ | exact ⟨rfl, by omega, by omega, rfl⟩ | exact ⟨by omega, by omega, rfl⟩ | exact ⟨rfl, rfl, rfl, rfl, rfl, fun h => nomatch h⟩ | omega | decide) rfl ?_
  refine wpo_nil ?_
  exact ⟨rfl, le_st ⟨rfl, rfl, rfl, rfl, rfl, rfl, rfl, rfl, trivial⟩ ⟨rfl, trivial⟩ (Nat.le_refl _) rfl⟩

theorem xget {xs : List Int} {i : Nat} (hi : i < xs.length) : (xs.map iA)[i]? = some (iA (xs.getD i 0)) := by
  rw [List.getElem?_map, List.getD_eq_getElem?_getD, List.getElem?_eq_getElem hi]; rfl

theorem take_snoc {xs : List Int} {i : Nat} (hi : i < xs.length) : xs.take (i + 1) = xs.take i ++ [xs.getD i 0] := by
  rw [List.take_add_one, List.getD_eq_getElem?_getD, List.getElem?_eq_getElem hi]; rfl

theorem outer_body (xs : List Int) (hx : xs.length ≤ 100) (hr : ∀ x ∈ xs, -9223372036854775808 ≤ x) (m : Int) (i : Nat) (hi : i < xs.length) :
    RK PP LL none 51 (loopOf Tryz.f22 0) (outS xs m i) (fun e s' => e = .normal ∧ Le s' (outS xs m (i + 1))) := by
  have hB : big = 2305843009213693952 := rfl
  have hm : xs.getD i 0 ∈ xs := by rw [List.getD_eq_getElem?_getD, List.getElem?_eq_getElem hi]; exact List.getElem_mem hi
  have hrx := hr _ hm
  have hs := take_snoc hi
  have htop : ∀ x : Int, -9223372036854775808 ≤ x → IntKind.i64.wrap ((if (31 : Int) < x then 31 else x) + 1) = top x := fun x h => by
    refine i64r ?_ ?_ <;> split <;> omega
  have hg := xget hi
  generalize xs.getD i 0 = x at hm hrx hs hg
  refine RK_reg ?_
  refine wpo_r rfl (by first | exact trivial | exact rfl | exact ⟨rfl, rfl⟩ | exact ⟨rfl, by omega, by omega, rfl⟩ | exact ⟨by omega, by omega, rfl⟩ | exact ⟨rfl, rfl, rfl, rfl, rfl, fun h => nomatch h⟩ | omega | decide) rfl ?_
  refine wpo_nil ?_
  refine RK_on rfl (decide_eq_true (by omega)) ?_
  refine RK_seq (RK_blk ?_)
  refine RK_reg ?_
  refine wpo_r (opv_iasl rfl rfl rfl rfl rfl (hg)) ⟨rfl, by omega⟩ rfl ?_
  refine wpo_r rfl (by first | exact trivial | exact rfl | exact ⟨rfl, rfl⟩ | exact ⟨rfl, by omega, by omega, rfl⟩ | exact ⟨by omega, by omega, rfl⟩ | exact ⟨rfl, rfl, rfl, rfl, rfl, fun h => nomatch h⟩ | omega | decide) rfl ?_
  refine wpo_r rfl (by first | exact trivial | exact rfl | exact ⟨rfl, rfl⟩ | exact ⟨rfl, by omega, by omega, rfl⟩ | exact ⟨by omega, by omega, rfl⟩ | exact ⟨rfl, rfl, rfl, rfl, rfl, fun h => nomatch h⟩ | omega | decide) rfl ?_
  refine wpo_nil ?_
  refine RK_reg ?_
  refine wpo_r rfl (by first | exact trivial | exact rfl | exact ⟨rfl, rfl⟩ | exact ⟨rfl, by omega, by omega, rfl⟩ | exact ⟨by omega, by omega, rfl⟩ | exact ⟨rfl, rfl, rfl, rfl, rfl, fun h => nomatch h⟩ | omega | decide) rfl ?_
  refine wpo_r rfl (by first | exact trivial | exact rfl | exact ⟨rfl, rfl⟩ | exact ⟨rfl, by omega, by omega, rfl⟩ | exact ⟨by omega, by omega, rfl⟩ | exact ⟨rfl, rfl, rfl, rfl, rfl, fun h => nomatch h⟩ | omega | decide) rfl ?_
  refine wpo_r rfl (by first | exact trivial | exact rfl | exact ⟨rfl, rfl⟩ | exact ⟨rfl, by omega, by omega, rfl⟩ | exact ⟨by omega, by omega, rfl⟩ | exact ⟨rfl, rfl, rfl, rfl, rfl, fun h => nomatch h⟩ | omega | decide) (congrArg (A.int .i64) (htop x hrx)) ?_
  refine wpo_r rfl (by first | exact trivial | exact rfl | exact ⟨rfl, rfl⟩ | exact ⟨rfl, by omega, by omega, rfl⟩ | exact ⟨by omega, by omega, rfl⟩ | exact ⟨rfl, rfl, rfl, rfl, rfl, fun h => nomatch h⟩ | omega | decide) rfl ?_
  refine wpo_nil ?_
  refine RK_for (inS xs m i (top x)) (top x).toNat (le_st ⟨rfl, rfl, rfl, rfl, rfl, rfl, rfl, rfl, trivial⟩ ⟨congrArg (fun l => some (Ob.mk 0 false none (.st l))) (cA_congr fun k _ => by unfold fj; rw [if_neg (by omega)]; rfl), trivial⟩ (Nat.le_refl _) rfl) (inner_body xs m i hx x) ?_ ?_
  · refine RK_reg ?_
    refine wpo_r rfl (by first | exact trivial | exact rfl | exact ⟨rfl, rfl⟩ | exact ⟨rfl, by omega, by omega, rfl⟩ | exact ⟨by omega, by omega, rfl⟩ | exact ⟨rfl, rfl, rfl, rfl, rfl, fun h => nomatch h⟩ | omega | decide) rfl ?_
    refine wpo_nil ?_
    exact RK_out rfl (decide_eq_false (by omega)) ⟨rfl, le_st ⟨rfl, rfl, rfl, rfl, rfl, rfl, rfl, rfl, trivial⟩ ⟨rfl, trivial⟩ (Nat.le_refl _) rfl⟩
  intro t1 ht1
  refine ⟨.inr rfl, rfl, RK_weak ?_ ht1⟩
  have e1 : inS xs m i (top x) (top x).toNat = stL (inT xs m i (top x) (top x).toNat) [(0, ⟨0, false, none, .st (cA (cnt (xs.take (i + 1))))⟩)] 1 := by
    unfold inS
    rw [cA_congr (g := cnt (xs.take (i + 1))) fun k hk => ?_]
    rw [hs, cnt_snoc]
    unfold fj
    by_cases h : (k : Int) ≤ x
    · rw [if_pos h, if_pos (by unfold top; split <;> omega)]
    · rw [if_neg h, if_neg (by unfold top; split <;> omega)]
  rw [e1]
  refine RK_region ?_
  refine wpo_r rfl (by first | exact trivial | exact rfl | exact ⟨rfl, rfl⟩ | exact ⟨rfl, by omega, by omega, rfl⟩ | exact ⟨by omega, by omega, rfl⟩ | exact ⟨rfl, rfl, rfl, rfl, rfl, fun h => nomatch h⟩ | omega | decide) (congrArg (A.int .i64) (i64a (i := i) (j := 1) (by omega) (by omega))) ?_
  refine wpo_r rfl (by first | exact trivial | exact rfl | exact ⟨rfl, rfl⟩ | exact ⟨rfl, by omega, by omega, rfl⟩ | exact ⟨by omega, by omega, rfl⟩ | exact ⟨rfl, rfl, rfl, rfl, rfl, fun h => nomatch h⟩ | omega | decide) rfl ?_
  refine wpo_nil ?_
  exact ⟨rfl, le_st ⟨rfl, rfl, rfl, rfl, rfl, rfl, trivial⟩ ⟨rfl, trivial⟩ (Nat.le_refl _) rfl⟩

/-- the score of what was counted -/
def acc (f : Nat → Nat) (m : Int) : Nat → Nat
  | 0 => f 0
  | k + 1 => if m ≤ (f k : Int) then (if acc f m k < f k * 2 ^ k then f k * 2 ^ k else acc f m k) else acc f m k
def scoreN (xs : List Int) (m : Int) : Nat := acc (cnt xs) m 32

def lastS (f : Nat → Nat) (m : Int) (k : Nat) : AS := stL [(1, iA m), (36, .st (cA f)), (37, .int .i64 (k : Int)), (9, iA (acc f m k))] [] 1

theorem acc_le {f : Nat → Nat} {m : Int} (hf : ∀ k, f k ≤ 100) : ∀ k, k ≤ 32 → acc f m k ≤ 214748364800
  | 0, _ => by have := hf 0; show f 0 ≤ _; omega
  | k + 1, hk => by
    have h1 := acc_le (m := m) hf k (by omega)
    have h2 : f k * 2 ^ k ≤ 100 * 2 ^ 31 := Nat.mul_le_mul (hf k) (Nat.pow_le_pow_right (by omega) (by omega))
    have h3 : (100 : Nat) * 2 ^ 31 = 214748364800 := by decide
    unfold acc
    split
    · split <;> omega
    · omega

theorem shl_i64 {c k : Nat} (hc : c ≤ 100) (hk : k < 32) : IntKind.i64.wrap ((c : Int) * 2 ^ (min ((k : Int).toNat) IntKind.i64.bits)) = ((c * 2 ^ k : Nat) : Int) := by
  have h2 : c * 2 ^ k ≤ 100 * 2 ^ 31 := Nat.mul_le_mul hc (Nat.pow_le_pow_right (by omega) (by omega))
  have h3 : (100 : Nat) * 2 ^ 31 = 214748364800 := by decide
  have hm : min ((k : Int).toNat) IntKind.i64.bits = k := by rw [Int.toNat_natCast]; exact Nat.min_eq_left (by show k ≤ 64; omega)
  rw [hm]
  have e : ((c : Int) * 2 ^ k) = ((c * 2 ^ k : Nat) : Int) := by push_cast; rfl
  rw [e, i64r (by omega) (by omega)]

theorem max_nat (a b : Nat) : (if (a : Int) < (b : Int) then (b : Int) else (a : Int)) = ((if a < b then b else a : Nat) : Int) := by
  by_cases h : a < b
  · rw [if_pos h, if_pos (by omega)]
  · rw [if_neg h, if_neg (by omega)]

theorem last_body (f : Nat → Nat) (hf : ∀ k, f k ≤ 100) (m : Int) (k : Nat) (hk : k < 32) :
    RK PP LL none 51 (loopOf Tryz.f22 2) (lastS f m k) (fun e s' => e = .normal ∧ Le s' (lastS f m (k + 1))) := by
  have hB : big = 2305843009213693952 := rfl
  have h2 : f k * 2 ^ k ≤ 100 * 2 ^ 31 := Nat.mul_le_mul (hf k) (Nat.pow_le_pow_right (by omega) (by omega))
  have h3 : (100 : Nat) * 2 ^ 31 = 214748364800 := by decide
  have hac : acc f m (k + 1) = if m ≤ (f k : Int) then (if acc f m k < f k * 2 ^ k then f k * 2 ^ k else acc f m k) else acc f m k := rfl
  refine RK_reg ?_
  refine wpo_r rfl (by first | exact trivial | exact rfl | exact ⟨rfl, rfl⟩ | exact ⟨rfl, by omega, by omega, rfl⟩ | exact ⟨by omega, by omega, rfl⟩ | exact ⟨rfl, rfl, rfl, rfl, rfl, fun h => nomatch h⟩ | omega | decide) rfl ?_
  refine wpo_nil ?_
  refine RK_on rfl (decide_eq_true (by omega)) ?_
  refine RK_seq (RK_blk ?_)
  refine RK_reg ?_
  refine wpo_r rfl (by first | exact trivial | exact rfl | exact ⟨rfl, rfl⟩ | exact ⟨rfl, by omega, by omega, rfl⟩ | exact ⟨by omega, by omega, rfl⟩ | exact ⟨rfl, rfl, rfl, rfl, rfl, fun h => nomatch h⟩ | omega | decide) rfl ?_
  refine wpo_r (opv_idx rfl rfl rfl rfl (sub_one (cA_get f hk))) ⟨by omega, by omega, rfl⟩ rfl ?_
  refine wpo_r rfl (by first | exact trivial | exact rfl | exact ⟨rfl, rfl⟩ | exact ⟨rfl, by omega, by omega, rfl⟩ | exact ⟨by omega, by omega, rfl⟩ | exact ⟨rfl, rfl, rfl, rfl, rfl, fun h => nomatch h⟩ | omega | decide) rfl ?_
  refine wpo_r rfl (by first | exact trivial | exact rfl | exact ⟨rfl, rfl⟩ | exact ⟨rfl, by omega, by omega, rfl⟩ | exact ⟨by omega, by omega, rfl⟩ | exact ⟨rfl, rfl, rfl, rfl, rfl, fun h => nomatch h⟩ | omega | decide) rfl ?_
  refine wpo_nil ?_
  refine RK_reg ?_
  refine wpo_r rfl (by first | exact trivial | exact rfl | exact ⟨rfl, rfl⟩ | exact ⟨rfl, by omega, by omega, rfl⟩ | exact ⟨by omega, by omega, rfl⟩ | exact ⟨rfl, rfl, rfl, rfl, rfl, fun h => nomatch h⟩ | omega | decide) rfl ?_
  refine wpo_r rfl (by first | exact trivial | exact rfl | exact ⟨rfl, rfl⟩ | exact ⟨rfl, by omega, by omega, rfl⟩ | exact ⟨by omega, by omega, rfl⟩ | exact ⟨rfl, rfl, rfl, rfl, rfl, fun h => nomatch h⟩ | omega | decide) rfl ?_
  refine wpo_r rfl (by first | exact trivial | exact rfl | exact ⟨rfl, rfl⟩ | exact ⟨rfl, by omega, by omega, rfl⟩ | exact ⟨by omega, by omega, rfl⟩ | exact ⟨rfl, rfl, rfl, rfl, rfl, fun h => nomatch h⟩ | omega | decide) rfl ?_
  refine wpo_nil ?_
  by_cases hm : m ≤ (f k : Int)
  · refine RK_ct rfl (decide_eq_true hm) (RK_region ?_)
    refine wpo_r rfl (by first | exact trivial | exact rfl | exact ⟨rfl, rfl⟩ | exact ⟨rfl, by omega, by omega, rfl⟩ | exact ⟨by omega, by omega, rfl⟩ | exact ⟨rfl, rfl, rfl, rfl, rfl, fun h => nomatch h⟩ | omega | decide) rfl ?_
    refine wpo_r rfl (by first | exact trivial | exact rfl | exact ⟨rfl, rfl⟩ | exact ⟨rfl, by omega, by omega, rfl⟩ | exact ⟨by omega, by omega, rfl⟩ | exact ⟨rfl, rfl, rfl, rfl, rfl, fun h => nomatch h⟩ | omega | decide) rfl ?_
    refine wpo_r rfl (by first | exact trivial | exact rfl | exact ⟨rfl, rfl⟩ | exact ⟨rfl, by omega, by omega, rfl⟩ | exact ⟨by omega, by omega, rfl⟩ | exact ⟨rfl, rfl, rfl, rfl, rfl, fun h => nomatch h⟩ | omega | decide) rfl ?_
    refine wpo_r rfl (by first | exact trivial | exact rfl | exact ⟨rfl, rfl⟩ | exact ⟨rfl, by omega, by omega, rfl⟩ | exact ⟨by omega, by omega, rfl⟩ | exact ⟨rfl, rfl, rfl, rfl, rfl, fun h => nomatch h⟩ | omega | decide) (congrArg (A.int .i64) (shl_i64 (hf k) hk)) ?_
    refine wpo_r rfl (by first | exact trivial | exact rfl | exact ⟨rfl, rfl⟩ | exact ⟨rfl, by omega, by omega, rfl⟩ | exact ⟨by omega, by omega, rfl⟩ | exact ⟨rfl, rfl, rfl, rfl, rfl, fun h => nomatch h⟩ | omega | decide) (congrArg (A.int .i64) ((max_nat (acc f m k) (f k * 2 ^ k)).trans (congrArg Nat.cast ((if_pos hm).symm.trans hac.symm)))) ?_
    refine wpo_r rfl (by first | exact trivial | exact rfl | exact ⟨rfl, rfl⟩ | exact ⟨rfl, by omega, by omega, rfl⟩ | exact ⟨by omega, by omega, rfl⟩ | exact ⟨rfl, rfl, rfl, rfl, rfl, fun h => nomatch h⟩ | omega | decide) rfl ?_
    refine wpo_nil ?_
    refine ⟨.inr rfl, rfl, RK_region ?_⟩
    refine wpo_r rfl (by first | exact trivial | exact rfl | exact ⟨rfl, rfl⟩ | exact ⟨rfl, by omega, by omega, rfl⟩ | exact ⟨by omega, by omega, rfl⟩ | exact ⟨rfl, rfl, rfl, rfl, rfl, fun h => nomatch h⟩ | omega | decide) (congrArg (A.int .i64) (i64a (i := k) (j := 1) (by omega) (by omega))) ?_
    refine wpo_r rfl (by first | exact trivial | exact rfl | exact ⟨rfl, rfl⟩ | exact ⟨rfl, by omega, by omega, rfl⟩ | exact ⟨by omega, by omega, rfl⟩ | exact ⟨rfl, rfl, rfl, rfl, rfl, fun h => nomatch h⟩ | omega | decide) rfl ?_
    refine wpo_nil ?_
    exact ⟨rfl, le_st ⟨rfl, rfl, rfl, rfl, trivial⟩ trivial (Nat.le_refl _) rfl⟩
  · refine RK_cf rfl (decide_eq_false hm) (RK_skip ⟨.inr rfl, rfl, RK_region ?_⟩)
    refine wpo_r rfl (by first | exact trivial | exact rfl | exact ⟨rfl, rfl⟩ | exact ⟨rfl, by omega, by omega, rfl⟩ | exact ⟨by omega, by omega, rfl⟩ | exact ⟨rfl, rfl, rfl, rfl, rfl, fun h => nomatch h⟩ | omega | decide) (congrArg (A.int .i64) (i64a (i := k) (j := 1) (by omega) (by omega))) ?_
    refine wpo_r rfl (by first | exact trivial | exact rfl | exact ⟨rfl, rfl⟩ | exact ⟨rfl, by omega, by omega, rfl⟩ | exact ⟨by omega, by omega, rfl⟩ | exact ⟨rfl, rfl, rfl, rfl, rfl, fun h => nomatch h⟩ | omega | decide) rfl ?_
    refine wpo_nil ?_
    refine ⟨rfl, le_st ⟨rfl, rfl, rfl, ?_, trivial⟩ trivial (Nat.le_refl _) rfl⟩
    rw [hac, if_neg hm]; rfl

theorem score_con (xs : List Int) (m : Int) (hx : xs.length ≤ 100) (hr : ∀ x ∈ xs, -9223372036854775808 ≤ x) : Pure PP LL 22 [.sl 3 (xs.map iA), iA m] (iA (scoreN xs m)) := by
  intro hp nx
  have hrl : A.rlL (xs.map iA) = [] := by
    clear hx hr
    induction xs with
    | nil => rfl
    | cons x l ih => exact ih
  refine callD_pure LL_ok Tryz.func22 (by rfl) rfl (by simp [Tryz.f22]) (by show A.rlL (xs.map iA) ++ [] = []; rw [hrl]; rfl) (rs := [_]) (fin (f := 22) (fn := Tryz.f22) rfl rfl ?_) (by rfl) (by simp [A.isTup, iA])
  refine RK_reg ?_
  refine wpo_r rfl (by first | exact trivial | exact rfl | exact ⟨rfl, rfl⟩ | exact ⟨rfl, by omega, by omega, rfl⟩ | exact ⟨by omega, by omega, rfl⟩ | exact ⟨rfl, rfl, rfl, rfl, rfl, fun h => nomatch h⟩ | omega | decide) rfl ?_
  refine wpo_nil ?_
  refine RK_seqx ?_
  refine RK_reg ?_
  refine wpo_r rfl (by first | exact trivial | exact rfl | exact ⟨rfl, rfl⟩ | exact ⟨rfl, by omega, by omega, rfl⟩ | exact ⟨by omega, by omega, rfl⟩ | exact ⟨rfl, rfl, rfl, rfl, rfl, fun h => nomatch h⟩ | omega | decide) rfl ?_
  refine wpo_r rfl (by first | exact trivial | exact rfl | exact ⟨rfl, rfl⟩ | exact ⟨rfl, by omega, by omega, rfl⟩ | exact ⟨by omega, by omega, rfl⟩ | exact ⟨rfl, rfl, rfl, rfl, rfl, fun h => nomatch h⟩ | omega | decide) (congrArg (fun n : Nat => A.int .i64 (n : Int)) (List.length_map ..)) ?_
  refine wpo_r rfl (by first | exact trivial | exact rfl | exact ⟨rfl, rfl⟩ | exact ⟨rfl, by omega, by omega, rfl⟩ | exact ⟨by omega, by omega, rfl⟩ | exact ⟨rfl, rfl, rfl, rfl, rfl, fun h => nomatch h⟩ | omega | decide) rfl ?_
  refine wpo_nil ?_
  refine RK_cf rfl (decide_eq_false (by omega)) (RK_skip (.inl ⟨rfl, ?_⟩))
  refine RK_reg ?_
  refine wpo_w rfl (by first | exact trivial | exact rfl | exact ⟨rfl, rfl⟩ | exact ⟨rfl, by omega, by omega, rfl⟩ | exact ⟨by omega, by omega, rfl⟩ | exact ⟨rfl, rfl, rfl, rfl, rfl, fun h => nomatch h⟩ | omega | decide) ?_
  refine wpo_nil ?_
  refine RK_seq ?_
  refine RK_reg ?_
  refine wpo_r rfl (by first | exact trivial | exact rfl | exact ⟨rfl, rfl⟩ | exact ⟨rfl, by omega, by omega, rfl⟩ | exact ⟨by omega, by omega, rfl⟩ | exact ⟨rfl, rfl, rfl, rfl, rfl, fun h => nomatch h⟩ | omega | decide) rfl ?_
  refine wpo_r rfl (by first | exact trivial | exact rfl | exact ⟨rfl, rfl⟩ | exact ⟨rfl, by omega, by omega, rfl⟩ | exact ⟨by omega, by omega, rfl⟩ | exact ⟨rfl, rfl, rfl, rfl, rfl, fun h => nomatch h⟩ | omega | decide) (congrArg (fun n : Nat => A.int .i64 (n : Int)) (List.length_map ..)) ?_
  refine wpo_r rfl (by first | exact trivial | exact rfl | exact ⟨rfl, rfl⟩ | exact ⟨rfl, by omega, by omega, rfl⟩ | exact ⟨by omega, by omega, rfl⟩ | exact ⟨rfl, rfl, rfl, rfl, rfl, fun h => nomatch h⟩ | omega | decide) rfl ?_
  refine wpo_nil ?_
  refine RK_for (outS xs m) xs.length (le_st ⟨rfl, rfl, rfl, rfl, rfl, rfl, trivial⟩ ⟨rfl, trivial⟩ (Nat.le_refl _) rfl) (outer_body xs hx hr m) ?_ ?_
  · refine RK_reg ?_
    refine wpo_r rfl (by first | exact trivial | exact rfl | exact ⟨rfl, rfl⟩ | exact ⟨rfl, by omega, by omega, rfl⟩ | exact ⟨by omega, by omega, rfl⟩ | exact ⟨rfl, rfl, rfl, rfl, rfl, fun h => nomatch h⟩ | omega | decide) rfl ?_
    refine wpo_nil ?_
    exact RK_out rfl (decide_eq_false (by omega)) ⟨rfl, le_st ⟨rfl, rfl, rfl, rfl, rfl, rfl, trivial⟩ ⟨rfl, trivial⟩ (Nat.le_refl _) rfl⟩
  intro t1 ht1
  refine ⟨rfl, RK_weak ?_ ht1⟩
  have e1 : outS xs m xs.length = stL [(0, .sl 3 (xs.map iA)), (1, iA m), (5, .ptr 0 0 [] N32'), (15, .sl 3 (xs.map iA)), (16, .int .i64 (xs.length : Int)), (17, .int .i64 (xs.length : Int))] [(0, ⟨0, false, none, .st (cA (cnt xs))⟩)] 1 := by
    unfold outS; rw [List.take_length]
  rw [e1]
  have hf : ∀ k, cnt xs k ≤ 100 := fun k => Nat.le_trans (cnt_le xs k) hx
  unfold scoreN
  generalize cnt xs = f at hf
  refine RK_reg ?_
  refine wpo_r rfl (by first | exact trivial | exact rfl | exact ⟨rfl, rfl⟩ | exact ⟨rfl, by omega, by omega, rfl⟩ | exact ⟨by omega, by omega, rfl⟩ | exact ⟨rfl, rfl, rfl, rfl, rfl, fun h => nomatch h⟩ | omega | decide) rfl ?_
  refine wpo_r (opv_ld rfl rfl rfl (sub_one (cA_get f (j := 0) (by omega)))) ⟨rfl, rfl⟩ rfl ?_
  refine wpo_r rfl (by first | exact trivial | exact rfl | exact ⟨rfl, rfl⟩ | exact ⟨rfl, by omega, by omega, rfl⟩ | exact ⟨by omega, by omega, rfl⟩ | exact ⟨rfl, rfl, rfl, rfl, rfl, fun h => nomatch h⟩ | omega | decide) rfl ?_
  refine wpo_nil ?_
  refine RK_seq ?_
  refine RK_reg ?_
  refine wpo_r rfl (by first | exact trivial | exact rfl | exact ⟨rfl, rfl⟩ | exact ⟨rfl, by omega, by omega, rfl⟩ | exact ⟨by omega, by omega, rfl⟩ | exact ⟨rfl, rfl, rfl, rfl, rfl, fun h => nomatch h⟩ | omega | decide) rfl ?_
  refine wpo_r rfl (by first | exact trivial | exact rfl | exact ⟨rfl, rfl⟩ | exact ⟨rfl, by omega, by omega, rfl⟩ | exact ⟨by omega, by omega, rfl⟩ | exact ⟨rfl, rfl, rfl, rfl, rfl, fun h => nomatch h⟩ | omega | decide) rfl ?_
  refine wpo_nil ?_
  refine RK_for (lastS f m) 32 (le_st ⟨rfl, rfl, rfl, rfl, trivial⟩ trivial (Nat.le_refl _) rfl) (last_body f hf m) ?_ ?_
  · refine RK_reg ?_
    refine wpo_r rfl (by first | exact trivial | exact rfl | exact ⟨rfl, rfl⟩ | exact ⟨rfl, by omega, by omega, rfl⟩ | exact ⟨by omega, by omega, rfl⟩ | exact ⟨rfl, rfl, rfl, rfl, rfl, fun h => nomatch h⟩ | omega | decide) rfl ?_
    refine wpo_nil ?_
    exact RK_out rfl (decide_eq_false (by omega)) ⟨rfl, le_st ⟨rfl, rfl, rfl, rfl, trivial⟩ trivial (Nat.le_refl _) rfl⟩
  intro t2 ht2
  refine ⟨rfl, RK_weak ?_ ht2⟩
  unfold lastS
  refine RK_reg ?_
  refine wpo_r rfl (by first | exact trivial | exact rfl | exact ⟨rfl, rfl⟩ | exact ⟨rfl, by omega, by omega, rfl⟩ | exact ⟨by omega, by omega, rfl⟩ | exact ⟨rfl, rfl, rfl, rfl, rfl, fun h => nomatch h⟩ | omega | decide) rfl ?_
  refine wpo_r rfl (by first | exact trivial | exact rfl | exact ⟨rfl, rfl⟩ | exact ⟨rfl, by omega, by omega, rfl⟩ | exact ⟨by omega, by omega, rfl⟩ | exact ⟨rfl, rfl, rfl, rfl, rfl, fun h => nomatch h⟩ | omega | decide) rfl ?_
  refine wpo_nil ?_
  exact RK_ret ⟨.inl rfl, _, rfl, trivial, trivial⟩

end Go.Ab


/- THE LAW ON FLAT LEVELS. -/
namespace Go.Ab
open Go.Proofs

theorem flat_out0 (n many m : Int) (hc : n < 0) : Pure PP LL 8 [iA n, iA many, iA m] (.bool true) := by
  intro hp nx
  refine callD_pure LL_ok Tryz.func8 (by rfl) rfl (by simp [Tryz.f8]) (by rfl) (rs := [.bool true]) (fin (f := 8) (fn := Tryz.f8) rfl rfl ?_) (by rfl) (by simp [A.isTup])
  refine RK_reg ?_
  refine wpo_r rfl (by first | exact trivial | exact rfl | exact ⟨rfl, rfl⟩ | exact ⟨rfl, by omega, by omega, rfl⟩ | exact ⟨by omega, by omega, rfl⟩ | exact ⟨rfl, rfl, rfl, rfl, rfl, fun h => nomatch h⟩ | omega | decide) rfl ?_
  refine wpo_nil ?_
  refine RK_reg ?_
  refine wpo_c rfl rfl (by repeat (first | refine List.forall_mem_cons.2 ⟨rfl, ?_⟩ | exact List.forall_mem_nil _)) (awake_con _ _) rfl ?_
  refine wpo_r rfl (by first | exact trivial | exact rfl | exact ⟨rfl, rfl⟩ | exact ⟨rfl, by omega, by omega, rfl⟩ | exact ⟨by omega, by omega, rfl⟩ | exact ⟨rfl, rfl, rfl, rfl, rfl, fun h => nomatch h⟩ | omega | decide) rfl ?_
  refine wpo_nil ?_
  refine RK_seqx ?_
  refine RK_reg ?_
  refine wpo_r rfl (by first | exact trivial | exact rfl | exact ⟨rfl, rfl⟩ | exact ⟨rfl, by omega, by omega, rfl⟩ | exact ⟨by omega, by omega, rfl⟩ | exact ⟨rfl, rfl, rfl, rfl, rfl, fun h => nomatch h⟩ | omega | decide) rfl ?_
  refine wpo_r rfl (by first | exact trivial | exact rfl | exact ⟨rfl, rfl⟩ | exact ⟨rfl, by omega, by omega, rfl⟩ | exact ⟨by omega, by omega, rfl⟩ | exact ⟨rfl, rfl, rfl, rfl, rfl, fun h => nomatch h⟩ | omega | decide) rfl ?_
  refine wpo_r rfl (by first | exact trivial | exact rfl | exact ⟨rfl, rfl⟩ | exact ⟨rfl, by omega, by omega, rfl⟩ | exact ⟨by omega, by omega, rfl⟩ | exact ⟨rfl, rfl, rfl, rfl, rfl, fun h => nomatch h⟩ | omega | decide) rfl ?_
  refine wpo_gr rfl rfl (by first | exact trivial | exact rfl | exact ⟨rfl, rfl⟩ | exact ⟨rfl, by omega, by omega, rfl⟩ | exact ⟨by omega, by omega, rfl⟩ | exact ⟨rfl, rfl, rfl, rfl, rfl, fun h => nomatch h⟩ | omega | decide) rfl ?_
  refine wpo_gr rfl rfl (by first | exact trivial | exact rfl | exact ⟨rfl, rfl⟩ | exact ⟨rfl, by omega, by omega, rfl⟩ | exact ⟨by omega, by omega, rfl⟩ | exact ⟨rfl, rfl, rfl, rfl, rfl, fun h => nomatch h⟩ | omega | decide) (congrArg A.bool (decide_eq_true (by omega))) ?_
  refine wpo_r rfl (by first | exact trivial | exact rfl | exact ⟨rfl, rfl⟩ | exact ⟨rfl, by omega, by omega, rfl⟩ | exact ⟨by omega, by omega, rfl⟩ | exact ⟨rfl, rfl, rfl, rfl, rfl, fun h => nomatch h⟩ | omega | decide) rfl ?_
  refine wpo_r rfl (by first | exact trivial | exact rfl | exact ⟨rfl, rfl⟩ | exact ⟨rfl, by omega, by omega, rfl⟩ | exact ⟨by omega, by omega, rfl⟩ | exact ⟨rfl, rfl, rfl, rfl, rfl, fun h => nomatch h⟩ | omega | decide) rfl ?_
  refine wpo_sk rfl ?_
  refine wpo_sk rfl ?_
  refine wpo_r rfl (by first | exact trivial | exact rfl | exact ⟨rfl, rfl⟩ | exact ⟨rfl, by omega, by omega, rfl⟩ | exact ⟨by omega, by omega, rfl⟩ | exact ⟨rfl, rfl, rfl, rfl, rfl, fun h => nomatch h⟩ | omega | decide) rfl ?_
  refine wpo_r rfl (by first | exact trivial | exact rfl | exact ⟨rfl, rfl⟩ | exact ⟨rfl, by omega, by omega, rfl⟩ | exact ⟨by omega, by omega, rfl⟩ | exact ⟨rfl, rfl, rfl, rfl, rfl, fun h => nomatch h⟩ | omega | decide) rfl ?_
  refine wpo_sk rfl ?_
  refine wpo_sk rfl ?_
  refine wpo_r rfl (by first | exact trivial | exact rfl | exact ⟨rfl, rfl⟩ | exact ⟨rfl, by omega, by omega, rfl⟩ | exact ⟨by omega, by omega, rfl⟩ | exact ⟨rfl, rfl, rfl, rfl, rfl, fun h => nomatch h⟩ | omega | decide) rfl ?_
  refine wpo_r rfl (by first | exact trivial | exact rfl | exact ⟨rfl, rfl⟩ | exact ⟨rfl, by omega, by omega, rfl⟩ | exact ⟨by omega, by omega, rfl⟩ | exact ⟨rfl, rfl, rfl, rfl, rfl, fun h => nomatch h⟩ | omega | decide) rfl ?_
  refine wpo_sk rfl ?_
  refine wpo_sk rfl ?_
  refine wpo_r rfl (by first | exact trivial | exact rfl | exact ⟨rfl, rfl⟩ | exact ⟨rfl, by omega, by omega, rfl⟩ | exact ⟨by omega, by omega, rfl⟩ | exact ⟨rfl, rfl, rfl, rfl, rfl, fun h => nomatch h⟩ | omega | decide) rfl ?_
  refine wpo_nil ?_
  refine RK_ct rfl rfl ?_
  refine RK_reg ?_
  refine wpo_r rfl (by first | exact trivial | exact rfl | exact ⟨rfl, rfl⟩ | exact ⟨rfl, by omega, by omega, rfl⟩ | exact ⟨by omega, by omega, rfl⟩ | exact ⟨rfl, rfl, rfl, rfl, rfl, fun h => nomatch h⟩ | omega | decide) rfl ?_
  refine wpo_r rfl (by first | exact trivial | exact rfl | exact ⟨rfl, rfl⟩ | exact ⟨rfl, by omega, by omega, rfl⟩ | exact ⟨by omega, by omega, rfl⟩ | exact ⟨rfl, rfl, rfl, rfl, rfl, fun h => nomatch h⟩ | omega | decide) rfl ?_
  refine wpo_nil ?_
  exact RK_ret (.inr ⟨by simp, .inl rfl, _, rfl, trivial, trivial⟩)

theorem flat_out1 (n many m : Int) (hc : 0 ≤ n ∧ 31 < n) : Pure PP LL 8 [iA n, iA many, iA m] (.bool true) := by
  intro hp nx
  refine callD_pure LL_ok Tryz.func8 (by rfl) rfl (by simp [Tryz.f8]) (by rfl) (rs := [.bool true]) (fin (f := 8) (fn := Tryz.f8) rfl rfl ?_) (by rfl) (by simp [A.isTup])
  refine RK_reg ?_
  refine wpo_r rfl (by first | exact trivial | exact rfl | exact ⟨rfl, rfl⟩ | exact ⟨rfl, by omega, by omega, rfl⟩ | exact ⟨by omega, by omega, rfl⟩ | exact ⟨rfl, rfl, rfl, rfl, rfl, fun h => nomatch h⟩ | omega | decide) rfl ?_
  refine wpo_nil ?_
  refine RK_reg ?_
  refine wpo_c rfl rfl (by repeat (first | refine List.forall_mem_cons.2 ⟨rfl, ?_⟩ | exact List.forall_mem_nil _)) (awake_con _ _) rfl ?_
  refine wpo_r rfl (by first | exact trivial | exact rfl | exact ⟨rfl, rfl⟩ | exact ⟨rfl, by omega, by omega, rfl⟩ | exact ⟨by omega, by omega, rfl⟩ | exact ⟨rfl, rfl, rfl, rfl, rfl, fun h => nomatch h⟩ | omega | decide) rfl ?_
  refine wpo_nil ?_
  refine RK_seqx ?_
  refine RK_reg ?_
  refine wpo_r rfl (by first | exact trivial | exact rfl | exact ⟨rfl, rfl⟩ | exact ⟨rfl, by omega, by omega, rfl⟩ | exact ⟨by omega, by omega, rfl⟩ | exact ⟨rfl, rfl, rfl, rfl, rfl, fun h => nomatch h⟩ | omega | decide) rfl ?_
  refine wpo_r rfl (by first | exact trivial | exact rfl | exact ⟨rfl, rfl⟩ | exact ⟨rfl, by omega, by omega, rfl⟩ | exact ⟨by omega, by omega, rfl⟩ | exact ⟨rfl, rfl, rfl, rfl, rfl, fun h => nomatch h⟩ | omega | decide) rfl ?_
  refine wpo_r rfl (by first | exact trivial | exact rfl | exact ⟨rfl, rfl⟩ | exact ⟨rfl, by omega, by omega, rfl⟩ | exact ⟨by omega, by omega, rfl⟩ | exact ⟨rfl, rfl, rfl, rfl, rfl, fun h => nomatch h⟩ | omega | decide) rfl ?_
  refine wpo_gr rfl rfl (by first | exact trivial | exact rfl | exact ⟨rfl, rfl⟩ | exact ⟨rfl, by omega, by omega, rfl⟩ | exact ⟨by omega, by omega, rfl⟩ | exact ⟨rfl, rfl, rfl, rfl, rfl, fun h => nomatch h⟩ | omega | decide) rfl ?_
  refine wpo_gr rfl rfl (by first | exact trivial | exact rfl | exact ⟨rfl, rfl⟩ | exact ⟨rfl, by omega, by omega, rfl⟩ | exact ⟨by omega, by omega, rfl⟩ | exact ⟨rfl, rfl, rfl, rfl, rfl, fun h => nomatch h⟩ | omega | decide) (congrArg A.bool (decide_eq_false (by omega))) ?_
  refine wpo_r rfl (by first | exact trivial | exact rfl | exact ⟨rfl, rfl⟩ | exact ⟨rfl, by omega, by omega, rfl⟩ | exact ⟨by omega, by omega, rfl⟩ | exact ⟨rfl, rfl, rfl, rfl, rfl, fun h => nomatch h⟩ | omega | decide) rfl ?_
  refine wpo_r rfl (by first | exact trivial | exact rfl | exact ⟨rfl, rfl⟩ | exact ⟨rfl, by omega, by omega, rfl⟩ | exact ⟨by omega, by omega, rfl⟩ | exact ⟨rfl, rfl, rfl, rfl, rfl, fun h => nomatch h⟩ | omega | decide) rfl ?_
  refine wpo_gr rfl rfl (by first | exact trivial | exact rfl | exact ⟨rfl, rfl⟩ | exact ⟨rfl, by omega, by omega, rfl⟩ | exact ⟨by omega, by omega, rfl⟩ | exact ⟨rfl, rfl, rfl, rfl, rfl, fun h => nomatch h⟩ | omega | decide) rfl ?_
  refine wpo_gr rfl rfl (by first | exact trivial | exact rfl | exact ⟨rfl, rfl⟩ | exact ⟨rfl, by omega, by omega, rfl⟩ | exact ⟨by omega, by omega, rfl⟩ | exact ⟨rfl, rfl, rfl, rfl, rfl, fun h => nomatch h⟩ | omega | decide) (congrArg A.bool (decide_eq_true (by omega))) ?_
  refine wpo_r rfl (by first | exact trivial | exact rfl | exact ⟨rfl, rfl⟩ | exact ⟨rfl, by omega, by omega, rfl⟩ | exact ⟨by omega, by omega, rfl⟩ | exact ⟨rfl, rfl, rfl, rfl, rfl, fun h => nomatch h⟩ | omega | decide) rfl ?_
  refine wpo_r rfl (by first | exact trivial | exact rfl | exact ⟨rfl, rfl⟩ | exact ⟨rfl, by omega, by omega, rfl⟩ | exact ⟨by omega, by omega, rfl⟩ | exact ⟨rfl, rfl, rfl, rfl, rfl, fun h => nomatch h⟩ | omega | decide) rfl ?_
  refine wpo_sk rfl ?_
  refine wpo_sk rfl ?_
  refine wpo_r rfl (by first | exact trivial | exact rfl | exact ⟨rfl, rfl⟩ | exact ⟨rfl, by omega, by omega, rfl⟩ | exact ⟨by omega, by omega, rfl⟩ | exact ⟨rfl, rfl, rfl, rfl, rfl, fun h => nomatch h⟩ | omega | decide) rfl ?_
  refine wpo_r rfl (by first | exact trivial | exact rfl | exact ⟨rfl, rfl⟩ | exact ⟨rfl, by omega, by omega, rfl⟩ | exact ⟨by omega, by omega, rfl⟩ | exact ⟨rfl, rfl, rfl, rfl, rfl, fun h => nomatch h⟩ | omega | decide) rfl ?_
  refine wpo_sk rfl ?_
  refine wpo_sk rfl ?_
  refine wpo_r rfl (by first | exact trivial | exact rfl | exact ⟨rfl, rfl⟩ | exact ⟨rfl, by omega, by omega, rfl⟩ | exact ⟨by omega, by omega, rfl⟩ | exact ⟨rfl, rfl, rfl, rfl, rfl, fun h => nomatch h⟩ | omega | decide) rfl ?_
  refine wpo_nil ?_
  refine RK_ct rfl rfl ?_
  refine RK_reg ?_
  refine wpo_r rfl (by first | exact trivial | exact rfl | exact ⟨rfl, rfl⟩ | exact ⟨rfl, by omega, by omega, rfl⟩ | exact ⟨by omega, by omega, rfl⟩ | exact ⟨rfl, rfl, rfl, rfl, rfl, fun h => nomatch h⟩ | omega | decide) rfl ?_
  refine wpo_r rfl (by first | exact trivial | exact rfl | exact ⟨rfl, rfl⟩ | exact ⟨rfl, by omega, by omega, rfl⟩ | exact ⟨by omega, by omega, rfl⟩ | exact ⟨rfl, rfl, rfl, rfl, rfl, fun h => nomatch h⟩ | omega | decide) rfl ?_
  refine wpo_nil ?_
  exact RK_ret (.inr ⟨by simp, .inl rfl, _, rfl, trivial, trivial⟩)

theorem flat_out2 (n many m : Int) (hc : (0 ≤ n ∧ n ≤ 31) ∧ many < 0) : Pure PP LL 8 [iA n, iA many, iA m] (.bool true) := by
  intro hp nx
  refine callD_pure LL_ok Tryz.func8 (by rfl) rfl (by simp [Tryz.f8]) (by rfl) (rs := [.bool true]) (fin (f := 8) (fn := Tryz.f8) rfl rfl ?_) (by rfl) (by simp [A.isTup])
  refine RK_reg ?_
  refine wpo_r rfl (by first | exact trivial | exact rfl | exact ⟨rfl, rfl⟩ | exact ⟨rfl, by omega, by omega, rfl⟩ | exact ⟨by omega, by omega, rfl⟩ | exact ⟨rfl, rfl, rfl, rfl, rfl, fun h => nomatch h⟩ | omega | decide) rfl ?_
  refine wpo_nil ?_
  refine RK_reg ?_
  refine wpo_c rfl rfl (by repeat (first | refine List.forall_mem_cons.2 ⟨rfl, ?_⟩ | exact List.forall_mem_nil _)) (awake_con _ _) rfl ?_
  refine wpo_r rfl (by first | exact trivial | exact rfl | exact ⟨rfl, rfl⟩ | exact ⟨rfl, by omega, by omega, rfl⟩ | exact ⟨by omega, by omega, rfl⟩ | exact ⟨rfl, rfl, rfl, rfl, rfl, fun h => nomatch h⟩ | omega | decide) rfl ?_
  refine wpo_nil ?_
  refine RK_seqx ?_
  refine RK_reg ?_
  refine wpo_r rfl (by first | exact trivial | exact rfl | exact ⟨rfl, rfl⟩ | exact ⟨rfl, by omega, by omega, rfl⟩ | exact ⟨by omega, by omega, rfl⟩ | exact ⟨rfl, rfl, rfl, rfl, rfl, fun h => nomatch h⟩ | omega | decide) rfl ?_
  refine wpo_r rfl (by first | exact trivial | exact rfl | exact ⟨rfl, rfl⟩ | exact ⟨rfl, by omega, by omega, rfl⟩ | exact ⟨by omega, by omega, rfl⟩ | exact ⟨rfl, rfl, rfl, rfl, rfl, fun h => nomatch h⟩ | omega | decide) rfl ?_
  refine wpo_r rfl (by first | exact trivial | exact rfl | exact ⟨rfl, rfl⟩ | exact ⟨rfl, by omega, by omega, rfl⟩ | exact ⟨by omega, by omega, rfl⟩ | exact ⟨rfl, rfl, rfl, rfl, rfl, fun h => nomatch h⟩ | omega | decide) rfl ?_
  refine wpo_gr rfl rfl (by first | exact trivial | exact rfl | exact ⟨rfl, rfl⟩ | exact ⟨rfl, by omega, by omega, rfl⟩ | exact ⟨by omega, by omega, rfl⟩ | exact ⟨rfl, rfl, rfl, rfl, rfl, fun h => nomatch h⟩ | omega | decide) rfl ?_
  refine wpo_gr rfl rfl (by first | exact trivial | exact rfl | exact ⟨rfl, rfl⟩ | exact ⟨rfl, by omega, by omega, rfl⟩ | exact ⟨by omega, by omega, rfl⟩ | exact ⟨rfl, rfl, rfl, rfl, rfl, fun h => nomatch h⟩ | omega | decide) (congrArg A.bool (decide_eq_false (by omega))) ?_
  refine wpo_r rfl (by first | exact trivial | exact rfl | exact ⟨rfl, rfl⟩ | exact ⟨rfl, by omega, by omega, rfl⟩ | exact ⟨by omega, by omega, rfl⟩ | exact ⟨rfl, rfl, rfl, rfl, rfl, fun h => nomatch h⟩ | omega | decide) rfl ?_
  refine wpo_r rfl (by first | exact trivial | exact rfl | exact ⟨rfl, rfl⟩ | exact ⟨rfl, by omega, by omega, rfl⟩ | exact ⟨by omega, by omega, rfl⟩ | exact ⟨rfl, rfl, rfl, rfl, rfl, fun h => nomatch h⟩ | omega | decide) rfl ?_
  refine wpo_gr rfl rfl (by first | exact trivial | exact rfl | exact ⟨rfl, rfl⟩ | exact ⟨rfl, by omega, by omega, rfl⟩ | exact ⟨by omega, by omega, rfl⟩ | exact ⟨rfl, rfl, rfl, rfl, rfl, fun h => nomatch h⟩ | omega | decide) rfl ?_
  refine wpo_gr rfl rfl (by first | exact trivial | exact rfl | exact ⟨rfl, rfl⟩ | exact ⟨rfl, by omega, by omega, rfl⟩ | exact ⟨by omega, by omega, rfl⟩ | exact ⟨rfl, rfl, rfl, rfl, rfl, fun h => nomatch h⟩ | omega | decide) (congrArg A.bool (decide_eq_false (by omega))) ?_
  refine wpo_r rfl (by first | exact trivial | exact rfl | exact ⟨rfl, rfl⟩ | exact ⟨rfl, by omega, by omega, rfl⟩ | exact ⟨by omega, by omega, rfl⟩ | exact ⟨rfl, rfl, rfl, rfl, rfl, fun h => nomatch h⟩ | omega | decide) rfl ?_
  refine wpo_r rfl (by first | exact trivial | exact rfl | exact ⟨rfl, rfl⟩ | exact ⟨rfl, by omega, by omega, rfl⟩ | exact ⟨by omega, by omega, rfl⟩ | exact ⟨rfl, rfl, rfl, rfl, rfl, fun h => nomatch h⟩ | omega | decide) rfl ?_
  refine wpo_gr rfl rfl (by first | exact trivial | exact rfl | exact ⟨rfl, rfl⟩ | exact ⟨rfl, by omega, by omega, rfl⟩ | exact ⟨by omega, by omega, rfl⟩ | exact ⟨rfl, rfl, rfl, rfl, rfl, fun h => nomatch h⟩ | omega | decide) rfl ?_
  refine wpo_gr rfl rfl (by first | exact trivial | exact rfl | exact ⟨rfl, rfl⟩ | exact ⟨rfl, by omega, by omega, rfl⟩ | exact ⟨by omega, by omega, rfl⟩ | exact ⟨rfl, rfl, rfl, rfl, rfl, fun h => nomatch h⟩ | omega | decide) (congrArg A.bool (decide_eq_true (by omega))) ?_
  refine wpo_r rfl (by first | exact trivial | exact rfl | exact ⟨rfl, rfl⟩ | exact ⟨rfl, by omega, by omega, rfl⟩ | exact ⟨by omega, by omega, rfl⟩ | exact ⟨rfl, rfl, rfl, rfl, rfl, fun h => nomatch h⟩ | omega | decide) rfl ?_
  refine wpo_r rfl (by first | exact trivial | exact rfl | exact ⟨rfl, rfl⟩ | exact ⟨rfl, by omega, by omega, rfl⟩ | exact ⟨by omega, by omega, rfl⟩ | exact ⟨rfl, rfl, rfl, rfl, rfl, fun h => nomatch h⟩ | omega | decide) rfl ?_
  refine wpo_sk rfl ?_
  refine wpo_sk rfl ?_
  refine wpo_r rfl (by first | exact trivial | exact rfl | exact ⟨rfl, rfl⟩ | exact ⟨rfl, by omega, by omega, rfl⟩ | exact ⟨by omega, by omega, rfl⟩ | exact ⟨rfl, rfl, rfl, rfl, rfl, fun h => nomatch h⟩ | omega | decide) rfl ?_
  refine wpo_nil ?_
  refine RK_ct rfl rfl ?_
  refine RK_reg ?_
  refine wpo_r rfl (by first | exact trivial | exact rfl | exact ⟨rfl, rfl⟩ | exact ⟨rfl, by omega, by omega, rfl⟩ | exact ⟨by omega, by omega, rfl⟩ | exact ⟨rfl, rfl, rfl, rfl, rfl, fun h => nomatch h⟩ | omega | decide) rfl ?_
  refine wpo_r rfl (by first | exact trivial | exact rfl | exact ⟨rfl, rfl⟩ | exact ⟨rfl, by omega, by omega, rfl⟩ | exact ⟨by omega, by omega, rfl⟩ | exact ⟨rfl, rfl, rfl, rfl, rfl, fun h => nomatch h⟩ | omega | decide) rfl ?_
  refine wpo_nil ?_
  exact RK_ret (.inr ⟨by simp, .inl rfl, _, rfl, trivial, trivial⟩)

theorem flat_out3 (n many m : Int) (hc : (0 ≤ n ∧ n ≤ 31) ∧ 0 ≤ many ∧ 100 < many) : Pure PP LL 8 [iA n, iA many, iA m] (.bool true) := by
  intro hp nx
  refine callD_pure LL_ok Tryz.func8 (by rfl) rfl (by simp [Tryz.f8]) (by rfl) (rs := [.bool true]) (fin (f := 8) (fn := Tryz.f8) rfl rfl ?_) (by rfl) (by simp [A.isTup])
  refine RK_reg ?_
  refine wpo_r rfl (by first | exact trivial | exact rfl | exact ⟨rfl, rfl⟩ | exact ⟨rfl, by omega, by omega, rfl⟩ | exact ⟨by omega, by omega, rfl⟩ | exact ⟨rfl, rfl, rfl, rfl, rfl, fun h => nomatch h⟩ | omega | decide) rfl ?_
  refine wpo_nil ?_
  refine RK_reg ?_
  refine wpo_c rfl rfl (by repeat (first | refine List.forall_mem_cons.2 ⟨rfl, ?_⟩ | exact List.forall_mem_nil _)) (awake_con _ _) rfl ?_
  refine wpo_r rfl (by first | exact trivial | exact rfl | exact ⟨rfl, rfl⟩ | exact ⟨rfl, by omega, by omega, rfl⟩ | exact ⟨by omega, by omega, rfl⟩ | exact ⟨rfl, rfl, rfl, rfl, rfl, fun h => nomatch h⟩ | omega | decide) rfl ?_
  refine wpo_nil ?_
  refine RK_seqx ?_
  refine RK_reg ?_
  refine wpo_r rfl (by first | exact trivial | exact rfl | exact ⟨rfl, rfl⟩ | exact ⟨rfl, by omega, by omega, rfl⟩ | exact ⟨by omega, by omega, rfl⟩ | exact ⟨rfl, rfl, rfl, rfl, rfl, fun h => nomatch h⟩ | omega | decide) rfl ?_
  refine wpo_r rfl (by first | exact trivial | exact rfl | exact ⟨rfl, rfl⟩ | exact ⟨rfl, by omega, by omega, rfl⟩ | exact ⟨by omega, by omega, rfl⟩ | exact ⟨rfl, rfl, rfl, rfl, rfl, fun h => nomatch h⟩ | omega | decide) rfl ?_
  refine wpo_r rfl (by first | exact trivial | exact rfl | exact ⟨rfl, rfl⟩ | exact ⟨rfl, by omega, by omega, rfl⟩ | exact ⟨by omega, by omega, rfl⟩ | exact ⟨rfl, rfl, rfl, rfl, rfl, fun h => nomatch h⟩ | omega | decide) rfl ?_
  refine wpo_gr rfl rfl (by first | exact trivial | exact rfl | exact ⟨rfl, rfl⟩ | exact ⟨rfl, by omega, by omega, rfl⟩ | exact ⟨by omega, by omega, rfl⟩ | exact ⟨rfl, rfl, rfl, rfl, rfl, fun h => nomatch h⟩ | omega | decide) rfl ?_
  refine wpo_gr rfl rfl (by first | exact trivial | exact rfl | exact ⟨rfl, rfl⟩ | exact ⟨rfl, by omega, by omega, rfl⟩ | exact ⟨by omega, by omega, rfl⟩ | exact ⟨rfl, rfl, rfl, rfl, rfl, fun h => nomatch h⟩ | omega | decide) (congrArg A.bool (decide_eq_false (by omega))) ?_
  refine wpo_r rfl (by first | exact trivial | exact rfl | exact ⟨rfl, rfl⟩ | exact ⟨rfl, by omega, by omega, rfl⟩ | exact ⟨by omega, by omega, rfl⟩ | exact ⟨rfl, rfl, rfl, rfl, rfl, fun h => nomatch h⟩ | omega | decide) rfl ?_
  refine wpo_r rfl (by first | exact trivial | exact rfl | exact ⟨rfl, rfl⟩ | exact ⟨rfl, by omega, by omega, rfl⟩ | exact ⟨by omega, by omega, rfl⟩ | exact ⟨rfl, rfl, rfl, rfl, rfl, fun h => nomatch h⟩ | omega | decide) rfl ?_
  refine wpo_gr rfl rfl (by first | exact trivial | exact rfl | exact ⟨rfl, rfl⟩ | exact ⟨rfl, by omega, by omega, rfl⟩ | exact ⟨by omega, by omega, rfl⟩ | exact ⟨rfl, rfl, rfl, rfl, rfl, fun h => nomatch h⟩ | omega | decide) rfl ?_
  refine wpo_gr rfl rfl (by first | exact trivial | exact rfl | exact ⟨rfl, rfl⟩ | exact ⟨rfl, by omega, by omega, rfl⟩ | exact ⟨by omega, by omega, rfl⟩ | exact ⟨rfl, rfl, rfl, rfl, rfl, fun h => nomatch h⟩ | omega | decide) (congrArg A.bool (decide_eq_false (by omega))) ?_
  refine wpo_r rfl (by first | exact trivial | exact rfl | exact ⟨rfl, rfl⟩ | exact ⟨rfl, by omega, by omega, rfl⟩ | exact ⟨by omega, by omega, rfl⟩ | exact ⟨rfl, rfl, rfl, rfl, rfl, fun h => nomatch h⟩ | omega | decide) rfl ?_
  refine wpo_r rfl (by first | exact trivial | exact rfl | exact ⟨rfl, rfl⟩ | exact ⟨rfl, by omega, by omega, rfl⟩ | exact ⟨by omega, by omega, rfl⟩ | exact ⟨rfl, rfl, rfl, rfl, rfl, fun h => nomatch h⟩ | omega | decide) rfl ?_
  refine wpo_gr rfl rfl (by first | exact trivial | exact rfl | exact ⟨rfl, rfl⟩ | exact ⟨rfl, by omega, by omega, rfl⟩ | exact ⟨by omega, by omega, rfl⟩ | exact ⟨rfl, rfl, rfl, rfl, rfl, fun h => nomatch h⟩ | omega | decide) rfl ?_
  refine wpo_gr rfl rfl (by first | exact trivial | exact rfl | exact ⟨rfl, rfl⟩ | exact ⟨rfl, by omega, by omega, rfl⟩ | exact ⟨by omega, by omega, rfl⟩ | exact ⟨rfl, rfl, rfl, rfl, rfl, fun h => nomatch h⟩ | omega | decide) (congrArg A.bool (decide_eq_false (by omega))) ?_
  refine wpo_r rfl (by first | exact trivial | exact rfl | exact ⟨rfl, rfl⟩ | exact ⟨rfl, by omega, by omega, rfl⟩ | exact ⟨by omega, by omega, rfl⟩ | exact ⟨rfl, rfl, rfl, rfl, rfl, fun h => nomatch h⟩ | omega | decide) rfl ?_
  refine wpo_r rfl (by first | exact trivial | exact rfl | exact ⟨rfl, rfl⟩ | exact ⟨rfl, by omega, by omega, rfl⟩ | exact ⟨by omega, by omega, rfl⟩ | exact ⟨rfl, rfl, rfl, rfl, rfl, fun h => nomatch h⟩ | omega | decide) rfl ?_
  refine wpo_gr rfl rfl (by first | exact trivial | exact rfl | exact ⟨rfl, rfl⟩ | exact ⟨rfl, by omega, by omega, rfl⟩ | exact ⟨by omega, by omega, rfl⟩ | exact ⟨rfl, rfl, rfl, rfl, rfl, fun h => nomatch h⟩ | omega | decide) rfl ?_
  refine wpo_gr rfl rfl (by first | exact trivial | exact rfl | exact ⟨rfl, rfl⟩ | exact ⟨rfl, by omega, by omega, rfl⟩ | exact ⟨by omega, by omega, rfl⟩ | exact ⟨rfl, rfl, rfl, rfl, rfl, fun h => nomatch h⟩ | omega | decide) (congrArg A.bool (decide_eq_true (by omega))) ?_
  refine wpo_r rfl (by first | exact trivial | exact rfl | exact ⟨rfl, rfl⟩ | exact ⟨rfl, by omega, by omega, rfl⟩ | exact ⟨by omega, by omega, rfl⟩ | exact ⟨rfl, rfl, rfl, rfl, rfl, fun h => nomatch h⟩ | omega | decide) rfl ?_
  refine wpo_nil ?_
  refine RK_ct rfl rfl ?_
  refine RK_reg ?_
  refine wpo_r rfl (by first | exact trivial | exact rfl | exact ⟨rfl, rfl⟩ | exact ⟨rfl, by omega, by omega, rfl⟩ | exact ⟨by omega, by omega, rfl⟩ | exact ⟨rfl, rfl, rfl, rfl, rfl, fun h => nomatch h⟩ | omega | decide) rfl ?_
  refine wpo_r rfl (by first | exact trivial | exact rfl | exact ⟨rfl, rfl⟩ | exact ⟨rfl, by omega, by omega, rfl⟩ | exact ⟨by omega, by omega, rfl⟩ | exact ⟨rfl, rfl, rfl, rfl, rfl, fun h => nomatch h⟩ | omega | decide) rfl ?_
  refine wpo_nil ?_
  exact RK_ret (.inr ⟨by simp, .inl rfl, _, rfl, trivial, trivial⟩)

end Go.Ab


/- SCORE: nothing; levels of one number. -/
namespace Go.Ab
open Go.Proofs

theorem score_nil (m : Int) : Pure PP LL 22 [.nilsl, iA m] (iA (scoreN [] m)) := by
  intro hp nx
  refine callD_pure LL_ok Tryz.func22 (by rfl) rfl (by simp [Tryz.f22]) (by rfl) (rs := [_]) (fin (f := 22) (fn := Tryz.f22) rfl rfl ?_) (by rfl) (by simp [A.isTup, iA])
  refine RK_reg ?_
  refine wpo_r rfl (by first | exact trivial | exact rfl | exact ⟨rfl, rfl⟩ | exact ⟨rfl, by omega, by omega, rfl⟩ | exact ⟨by omega, by omega, rfl⟩ | exact ⟨rfl, rfl, rfl, rfl, rfl, fun h => nomatch h⟩ | omega | decide) rfl ?_
  refine wpo_nil ?_
  refine RK_seqx ?_
  refine RK_reg ?_
  refine wpo_r rfl (by first | exact trivial | exact rfl | exact ⟨rfl, rfl⟩ | exact ⟨rfl, by omega, by omega, rfl⟩ | exact ⟨by omega, by omega, rfl⟩ | exact ⟨rfl, rfl, rfl, rfl, rfl, fun h => nomatch h⟩ | omega | decide) rfl ?_
  refine wpo_r rfl (by first | exact trivial | exact rfl | exact ⟨rfl, rfl⟩ | exact ⟨rfl, by omega, by omega, rfl⟩ | exact ⟨by omega, by omega, rfl⟩ | exact ⟨rfl, rfl, rfl, rfl, rfl, fun h => nomatch h⟩ | omega | decide) rfl ?_
  refine wpo_r rfl (by first | exact trivial | exact rfl | exact ⟨rfl, rfl⟩ | exact ⟨rfl, by omega, by omega, rfl⟩ | exact ⟨by omega, by omega, rfl⟩ | exact ⟨rfl, rfl, rfl, rfl, rfl, fun h => nomatch h⟩ | omega | decide) rfl ?_
  refine wpo_nil ?_
  refine RK_cf rfl rfl (RK_skip (.inl ⟨rfl, ?_⟩))
  refine RK_reg ?_
  refine wpo_w rfl (by first | exact trivial | exact rfl | exact ⟨rfl, rfl⟩ | exact ⟨rfl, by omega, by omega, rfl⟩ | exact ⟨by omega, by omega, rfl⟩ | exact ⟨rfl, rfl, rfl, rfl, rfl, fun h => nomatch h⟩ | omega | decide) ?_
  refine wpo_nil ?_
  refine RK_seq ?_
  refine RK_reg ?_
  refine wpo_r rfl (by first | exact trivial | exact rfl | exact ⟨rfl, rfl⟩ | exact ⟨rfl, by omega, by omega, rfl⟩ | exact ⟨by omega, by omega, rfl⟩ | exact ⟨rfl, rfl, rfl, rfl, rfl, fun h => nomatch h⟩ | omega | decide) rfl ?_
  refine wpo_r rfl (by first | exact trivial | exact rfl | exact ⟨rfl, rfl⟩ | exact ⟨rfl, by omega, by omega, rfl⟩ | exact ⟨by omega, by omega, rfl⟩ | exact ⟨rfl, rfl, rfl, rfl, rfl, fun h => nomatch h⟩ | omega | decide) rfl ?_
  refine wpo_r rfl (by first | exact trivial | exact rfl | exact ⟨rfl, rfl⟩ | exact ⟨rfl, by omega, by omega, rfl⟩ | exact ⟨by omega, by omega, rfl⟩ | exact ⟨rfl, rfl, rfl, rfl, rfl, fun h => nomatch h⟩ | omega | decide) rfl ?_
  refine wpo_nil ?_
  have hS : ∀ i, i < 0 → RK PP LL none 51 (loopOf Tryz.f22 0) (stL [(1, iA m), (5, .ptr 0 0 [] N32'), (16, .int .i64 0), (17, .int .i64 0)] [(0, ⟨0, false, none, .st (cA (cnt []))⟩)] 1) (fun e s' => e = .normal ∧ Le s' (stL [(1, iA m), (5, .ptr 0 0 [] N32'), (16, .int .i64 0), (17, .int .i64 0)] [(0, ⟨0, false, none, .st (cA (cnt []))⟩)] 1)) := fun i h => absurd h (Nat.not_lt_zero i)
  refine RK_for (fun _ => stL [(1, iA m), (5, .ptr 0 0 [] N32'), (16, .int .i64 0), (17, .int .i64 0)] [(0, ⟨0, false, none, .st (cA (cnt []))⟩)] 1) 0 (le_st ⟨rfl, rfl, rfl, rfl, trivial⟩ ⟨rfl, trivial⟩ (Nat.le_refl _) rfl) hS ?_ ?_
  · refine RK_reg ?_
    refine wpo_r rfl (by first | exact trivial | exact rfl | exact ⟨rfl, rfl⟩ | exact ⟨rfl, by omega, by omega, rfl⟩ | exact ⟨by omega, by omega, rfl⟩ | exact ⟨rfl, rfl, rfl, rfl, rfl, fun h => nomatch h⟩ | omega | decide) rfl ?_
    refine wpo_nil ?_
    exact RK_out rfl rfl ⟨rfl, le_st ⟨rfl, rfl, rfl, rfl, trivial⟩ ⟨rfl, trivial⟩ (Nat.le_refl _) rfl⟩
  intro t1 ht1
  refine ⟨rfl, RK_weak ?_ ht1⟩
  have hf : ∀ k, cnt [] k ≤ 100 := fun k => Nat.zero_le _
  unfold scoreN
  generalize cnt [] = f at hf
  refine RK_reg ?_
  refine wpo_r rfl (by first | exact trivial | exact rfl | exact ⟨rfl, rfl⟩ | exact ⟨rfl, by omega, by omega, rfl⟩ | exact ⟨by omega, by omega, rfl⟩ | exact ⟨rfl, rfl, rfl, rfl, rfl, fun h => nomatch h⟩ | omega | decide) rfl ?_
  refine wpo_r (opv_ld rfl rfl rfl (sub_one (cA_get f (j := 0) (by omega)))) ⟨rfl, rfl⟩ rfl ?_
  refine wpo_r rfl (by first | exact trivial | exact rfl | exact ⟨rfl, rfl⟩ | exact ⟨rfl, by omega, by omega, rfl⟩ | exact ⟨by omega, by omega, rfl⟩ | exact ⟨rfl, rfl, rfl, rfl, rfl, fun h => nomatch h⟩ | omega | decide) rfl ?_
  refine wpo_nil ?_
  refine RK_seq ?_
  refine RK_reg ?_
  refine wpo_r rfl (by first | exact trivial | exact rfl | exact ⟨rfl, rfl⟩ | exact ⟨rfl, by omega, by omega, rfl⟩ | exact ⟨by omega, by omega, rfl⟩ | exact ⟨rfl, rfl, rfl, rfl, rfl, fun h => nomatch h⟩ | omega | decide) rfl ?_
  refine wpo_r rfl (by first | exact trivial | exact rfl | exact ⟨rfl, rfl⟩ | exact ⟨rfl, by omega, by omega, rfl⟩ | exact ⟨by omega, by omega, rfl⟩ | exact ⟨rfl, rfl, rfl, rfl, rfl, fun h => nomatch h⟩ | omega | decide) rfl ?_
  refine wpo_nil ?_
  refine RK_for (lastS f m) 32 (le_st ⟨rfl, rfl, rfl, rfl, trivial⟩ trivial (Nat.le_refl _) rfl) (last_body f hf m) ?_ ?_
  · refine RK_reg ?_
    refine wpo_r rfl (by first | exact trivial | exact rfl | exact ⟨rfl, rfl⟩ | exact ⟨rfl, by omega, by omega, rfl⟩ | exact ⟨by omega, by omega, rfl⟩ | exact ⟨rfl, rfl, rfl, rfl, rfl, fun h => nomatch h⟩ | omega | decide) rfl ?_
    refine wpo_nil ?_
    exact RK_out rfl (decide_eq_false (by omega)) ⟨rfl, le_st ⟨rfl, rfl, rfl, rfl, trivial⟩ trivial (Nat.le_refl _) rfl⟩
  intro t2 ht2
  refine ⟨rfl, RK_weak ?_ ht2⟩
  unfold lastS
  refine RK_reg ?_
  refine wpo_r rfl (by first | exact trivial | exact rfl | exact ⟨rfl, rfl⟩ | exact ⟨rfl, by omega, by omega, rfl⟩ | exact ⟨by omega, by omega, rfl⟩ | exact ⟨rfl, rfl, rfl, rfl, rfl, fun h => nomatch h⟩ | omega | decide) rfl ?_
  refine wpo_r rfl (by first | exact trivial | exact rfl | exact ⟨rfl, rfl⟩ | exact ⟨rfl, by omega, by omega, rfl⟩ | exact ⟨by omega, by omega, rfl⟩ | exact ⟨rfl, rfl, rfl, rfl, rfl, fun h => nomatch h⟩ | omega | decide) rfl ?_
  refine wpo_nil ?_
  exact RK_ret ⟨.inl rfl, _, rfl, trivial, trivial⟩

theorem cnt_flat (n c k : Nat) : cnt (List.replicate c (n : Int)) k = if k ≤ n then c else 0 := by
  unfold cnt
  by_cases h : k ≤ n
  · rw [if_pos h, List.filter_eq_self.2 (fun x hx => by rw [(List.mem_replicate.1 hx).2]; exact decide_eq_true (by omega)), List.length_replicate]
  · rw [if_neg h, List.filter_eq_nil_iff.2 (fun x hx => by rw [(List.mem_replicate.1 hx).2]; simp; omega)]; rfl

theorem acc_flat_hi {n c : Nat} {m : Int} (hm : m ≤ (c : Int)) : ∀ k, acc (fun k => if k ≤ n then c else 0) m k = c * 2 ^ (min (k - 1) n)
  | 0 => by simp [acc]
  | k + 1 => by
    have ih := acc_flat_hi (n := n) hm k
    unfold acc
    rw [ih]
    by_cases h : k ≤ n
    · simp only [if_pos h, hm, if_true]
      rw [show min (k + 1 - 1) n = k by omega, show min (k - 1) n = k - 1 by omega]
      split
      · rfl
      · rename_i h2
        have h3 : c * 2 ^ (k - 1) ≤ c * 2 ^ k := Nat.mul_le_mul_left _ (Nat.pow_le_pow_right (by omega) (by omega))
        omega
    · simp only [if_neg h, Nat.zero_mul, Nat.not_lt_zero, if_false, ite_self]
      rw [show min (k + 1 - 1) n = n by omega, show min (k - 1) n = n by omega]

theorem acc_flat_lo {n c : Nat} {m : Int} (hm : ¬ m ≤ (c : Int)) : ∀ k, acc (fun k => if k ≤ n then c else 0) m k = c
  | 0 => by simp [acc]
  | k + 1 => by
    have ih := acc_flat_lo (n := n) hm k
    unfold acc
    rw [ih, if_neg]
    split <;> omega

theorem score_flat_hi {n c : Nat} {m : Int} (hn : n ≤ 31) (hm : m ≤ (c : Int)) : scoreN (List.replicate c (n : Int)) m = c * 2 ^ n := by
  unfold scoreN
  rw [show cnt (List.replicate c (n : Int)) = fun k => if k ≤ n then c else 0 from funext (cnt_flat n c), acc_flat_hi hm, show min (32 - 1) n = n by omega]
theorem score_flat_lo {n c : Nat} {m : Int} (hm : ¬ m ≤ (c : Int)) : scoreN (List.replicate c (n : Int)) m = c := by
  unfold scoreN
  rw [show cnt (List.replicate c (n : Int)) = fun k => if k ≤ n then c else 0 from funext (cnt_flat n c), acc_flat_lo hm]

end Go.Ab


/- THE LAW ON FLAT LEVELS: its road. -/
namespace Go.Ab
open Go.Proofs

def fT (n c : Nat) (m : Int) (i : Nat) : List (Nat × A) := [(0, .int .i64 (n : Int)), (1, .int .i64 (c : Int)), (2, iA m), (8, .nilsl), (9, .int .i64 ((2 ^ i : Nat) : Int)), (10, .int .i64 (i : Int))]
def upS (n c : Nat) (m : Int) (i : Nat) : AS := stL (fT n c m i) [] 0

theorem up_body (n c : Nat) (m : Int) (hn : n ≤ 31) (i : Nat) (hi : i < n) :
    RK PP LL none 63 (loopOf Tryz.f8 0) (upS n c m i) (fun e s' => e = .normal ∧ Le s' (upS n c m (i + 1))) := by
  have hB : big = 2305843009213693952 := rfl
  have hp : 2 ^ i ≤ 2 ^ 31 := Nat.pow_le_pow_right (by omega) (by omega)
  have h31 : (2 : Nat) ^ 31 = 2147483648 := by decide
  have hs : 2 ^ (i + 1) = 2 * 2 ^ i := by rw [Nat.pow_succ, Nat.mul_comm]
  refine RK_seqx ?_
  refine RK_reg ?_
  refine wpo_r rfl (by first | exact trivial | exact rfl | exact ⟨rfl, rfl⟩ | exact ⟨rfl, by omega, by omega, rfl⟩ | exact ⟨by omega, by omega, rfl⟩ | exact ⟨rfl, rfl, rfl, rfl, rfl, fun h => nomatch h⟩ | omega | decide) rfl ?_
  refine wpo_r rfl (by first | exact trivial | exact rfl | exact ⟨rfl, rfl⟩ | exact ⟨rfl, by omega, by omega, rfl⟩ | exact ⟨by omega, by omega, rfl⟩ | exact ⟨rfl, rfl, rfl, rfl, rfl, fun h => nomatch h⟩ | omega | decide) rfl ?_
  refine wpo_r rfl (by first | exact trivial | exact rfl | exact ⟨rfl, rfl⟩ | exact ⟨rfl, by omega, by omega, rfl⟩ | exact ⟨by omega, by omega, rfl⟩ | exact ⟨rfl, rfl, rfl, rfl, rfl, fun h => nomatch h⟩ | omega | decide) rfl ?_
  refine wpo_nil ?_
  refine RK_ct rfl (decide_eq_true (by omega)) (RK_skip (.inl ⟨rfl, ?_⟩))
  refine RK_seq (RK_blk (RK_region ?_))
  refine wpo_r rfl (by first | exact trivial | exact rfl | exact ⟨rfl, rfl⟩ | exact ⟨rfl, by omega, by omega, rfl⟩ | exact ⟨by omega, by omega, rfl⟩ | exact ⟨rfl, rfl, rfl, rfl, rfl, fun h => nomatch h⟩ | omega | decide) rfl ?_
  refine wpo_r rfl (by first | exact trivial | exact rfl | exact ⟨rfl, rfl⟩ | exact ⟨rfl, by omega, by omega, rfl⟩ | exact ⟨by omega, by omega, rfl⟩ | exact ⟨rfl, rfl, rfl, rfl, rfl, fun h => nomatch h⟩ | omega | decide) (congrArg (A.int .i64) (show IntKind.i64.wrap ((2 : Int) * ((2 ^ i : Nat) : Int)) = ((2 ^ (i + 1) : Nat) : Int) from by rw [hs, i64r (by omega) (by omega)]; omega)) ?_
  refine wpo_r rfl (by first | exact trivial | exact rfl | exact ⟨rfl, rfl⟩ | exact ⟨rfl, by omega, by omega, rfl⟩ | exact ⟨by omega, by omega, rfl⟩ | exact ⟨rfl, rfl, rfl, rfl, rfl, fun h => nomatch h⟩ | omega | decide) rfl ?_
  refine wpo_nil ?_
  refine ⟨.inr rfl, rfl, RK_region ?_⟩
  refine wpo_r rfl (by first | exact trivial | exact rfl | exact ⟨rfl, rfl⟩ | exact ⟨rfl, by omega, by omega, rfl⟩ | exact ⟨by omega, by omega, rfl⟩ | exact ⟨rfl, rfl, rfl, rfl, rfl, fun h => nomatch h⟩ | omega | decide) rfl ?_
  refine wpo_r rfl (by first | exact trivial | exact rfl | exact ⟨rfl, rfl⟩ | exact ⟨rfl, by omega, by omega, rfl⟩ | exact ⟨by omega, by omega, rfl⟩ | exact ⟨rfl, rfl, rfl, rfl, rfl, fun h => nomatch h⟩ | omega | decide) (congrArg (A.int .i64) (i64a (i := i) (j := 1) (by omega) (by omega))) ?_
  refine wpo_r rfl (by first | exact trivial | exact rfl | exact ⟨rfl, rfl⟩ | exact ⟨rfl, by omega, by omega, rfl⟩ | exact ⟨by omega, by omega, rfl⟩ | exact ⟨rfl, rfl, rfl, rfl, rfl, fun h => nomatch h⟩ | omega | decide) rfl ?_
  refine wpo_nil ?_
  exact ⟨rfl, le_st ⟨rfl, rfl, rfl, rfl, rfl, rfl, trivial⟩ trivial (Nat.le_refl _) rfl⟩

/-- the levels so far -/
def lvT (n c : Nat) (m : Int) (t8 : A) (i : Nat) : List (Nat × A) := [(0, .int .i64 (n : Int)), (1, .int .i64 (c : Int)), (2, iA m), (8, t8), (9, .int .i64 ((2 ^ n : Nat) : Int)), (11, .int .i64 (i : Int))]
def lvS (n c : Nat) (m : Int) : Nat → AS
  | 0 => stL (lvT n c m .nilsl 0) [] 1
  | i + 1 => stL (lvT n c m (.own 2 i 0 (i + 1)) (i + 1)) [(2, ⟨i, false, some 3, .st ((List.replicate (i + 1) (n : Int)).map iA)⟩)] (i + 3)

theorem SW_weak {P : Program} {L : Lay} {r : Option Nat} {N : Nat} {ops : Array Oper} {o : Oper} {l : List Oper} {s t : AS} {Φ : AS → Prop} (hi : Le s t) (h : SW P L r N ops (o :: l) t Φ) : SW P L r N ops (o :: l) s Φ := SW_imp (fun _ _ _ _ ha => hi.at ha) h

theorem rep_snoc (n i : Nat) : (List.replicate (i + 1) (n : Int)).map iA ++ [iA n] = (List.replicate (i + 2) (n : Int)).map iA := by
  rw [show i + 2 = (i + 1) + 1 from rfl, List.replicate_succ' (n := i + 1), List.map_append]; rfl

theorem opv_grow {L : Lay} {tm : Nat → Option A} {hp : Hp} {nx : Nat} {t e e' : TypeId} {x y : Operand} {td de : TD} {o ver len : Nat} {ob : Ob} {xs : List A} (hd : L t = some td) (hk : td.k = .sl e) (hde : L e = some de) (hx : evA tm x = some (.own o ver 0 len)) (ho : hp o = some ob) (hy : evA tm y = some (.sl e' xs)) (hc : ¬ 0 + len + xs.length ≤ (elems ob).length) :
    opv L (.call { callee := .builtin .append, args := #[x, y], argTypes := #[t, t] }) (evA tm) hp nx = some (True ∧ ob.ver = ver ∧ ob.fz = false ∧ ob.e = some e ∧ 0 = 0 ∧ len ≤ (elems ob).length ∧ (∀ x ∈ xs, x.shp = de.sh) ∧ (len + xs.length) * de.byt ≤ maxBytes,
      ⟨.own o (ver + 1) 0 (len + xs.length), [(o, { ob with ver := ver + 1, val := .st ((elems ob).take len ++ xs) })], [o], 0⟩) := by
  simp only [opv, hd, hk, hde, hx, ho, hy, elemsOf, Option.bind_some, if_true]
  rw [if_neg hc]

theorem lv_body (n c : Nat) (m : Int) (hn : n ≤ 31) (hc : c ≤ 100) (i : Nat) (hi : i < c) :
    RK PP LL none 63 (loopOf Tryz.f8 1) (lvS n c m i) (fun e s' => e = .normal ∧ Le s' (lvS n c m (i + 1))) := by
  have hB : big = 2305843009213693952 := rfl
  cases i with
  | zero =>
    refine RK_seqx ?_
    refine RK_reg ?_
    refine wpo_r rfl (by first | exact trivial | exact rfl | exact ⟨rfl, rfl⟩ | exact ⟨rfl, by omega, by omega, rfl⟩ | exact ⟨by omega, by omega, rfl⟩ | exact ⟨rfl, rfl, rfl, rfl, rfl, fun h => nomatch h⟩ | omega | decide) rfl ?_
    refine wpo_r rfl (by first | exact trivial | exact rfl | exact ⟨rfl, rfl⟩ | exact ⟨rfl, by omega, by omega, rfl⟩ | exact ⟨by omega, by omega, rfl⟩ | exact ⟨rfl, rfl, rfl, rfl, rfl, fun h => nomatch h⟩ | omega | decide) rfl ?_
    refine wpo_r rfl (by first | exact trivial | exact rfl | exact ⟨rfl, rfl⟩ | exact ⟨rfl, by omega, by omega, rfl⟩ | exact ⟨by omega, by omega, rfl⟩ | exact ⟨rfl, rfl, rfl, rfl, rfl, fun h => nomatch h⟩ | omega | decide) rfl ?_
    refine wpo_nil ?_
    refine RK_ct rfl (decide_eq_true (by omega)) (RK_skip (.inl ⟨rfl, ?_⟩))
    refine RK_seq (RK_blk (RK_region ?_))
    refine wpo_r rfl (by first | exact trivial | exact rfl | exact ⟨rfl, rfl⟩ | exact ⟨rfl, by omega, by omega, rfl⟩ | exact ⟨by omega, by omega, rfl⟩ | exact ⟨rfl, rfl, rfl, rfl, rfl, fun h => nomatch h⟩ | omega | decide) rfl ?_
    refine wpo_r rfl (by first | exact trivial | exact rfl | exact ⟨rfl, rfl⟩ | exact ⟨rfl, by omega, by omega, rfl⟩ | exact ⟨by omega, by omega, rfl⟩ | exact ⟨rfl, rfl, rfl, rfl, rfl, fun h => nomatch h⟩ | omega | decide) rfl ?_
    refine wpo_w rfl ⟨⟨trivial, rfl, rfl⟩, by decide, by decide, by decide⟩ ?_
    refine SW_own (t := 46) (ob := 1) (xs := [iA n]) rfl rfl rfl rfl (Nat.le_refl _) rfl ?_
    refine wpo_w rfl ⟨trivial, fun x hx => by rw [List.mem_singleton.1 hx]; rfl, show 1 * 8 ≤ maxBytes by decide⟩ ?_
    refine wpo_r rfl (by first | exact trivial | exact rfl | exact ⟨rfl, rfl⟩ | exact ⟨rfl, by omega, by omega, rfl⟩ | exact ⟨by omega, by omega, rfl⟩ | exact ⟨rfl, rfl, rfl, rfl, rfl, fun h => nomatch h⟩ | omega | decide) rfl ?_
    refine wpo_nil ?_
    refine ⟨.inr rfl, rfl, RK_region ?_⟩
    refine wpo_r rfl (by first | exact trivial | exact rfl | exact ⟨rfl, rfl⟩ | exact ⟨rfl, by omega, by omega, rfl⟩ | exact ⟨by omega, by omega, rfl⟩ | exact ⟨rfl, rfl, rfl, rfl, rfl, fun h => nomatch h⟩ | omega | decide) rfl ?_
    refine wpo_r rfl (by first | exact trivial | exact rfl | exact ⟨rfl, rfl⟩ | exact ⟨rfl, by omega, by omega, rfl⟩ | exact ⟨by omega, by omega, rfl⟩ | exact ⟨rfl, rfl, rfl, rfl, rfl, fun h => nomatch h⟩ | omega | decide) rfl ?_
    refine wpo_r rfl (by first | exact trivial | exact rfl | exact ⟨rfl, rfl⟩ | exact ⟨rfl, by omega, by omega, rfl⟩ | exact ⟨by omega, by omega, rfl⟩ | exact ⟨rfl, rfl, rfl, rfl, rfl, fun h => nomatch h⟩ | omega | decide) rfl ?_
    refine wpo_nil ?_
    exact ⟨rfl, le_st ⟨rfl, rfl, rfl, rfl, rfl, rfl, trivial⟩ ⟨rfl, trivial⟩ (Nat.le_refl _) rfl⟩
  | succ i =>
    refine RK_seqx ?_
    refine RK_reg ?_
    refine wpo_r rfl (by first | exact trivial | exact rfl | exact ⟨rfl, rfl⟩ | exact ⟨rfl, by omega, by omega, rfl⟩ | exact ⟨by omega, by omega, rfl⟩ | exact ⟨rfl, rfl, rfl, rfl, rfl, fun h => nomatch h⟩ | omega | decide) rfl ?_
    refine wpo_r rfl (by first | exact trivial | exact rfl | exact ⟨rfl, rfl⟩ | exact ⟨rfl, by omega, by omega, rfl⟩ | exact ⟨by omega, by omega, rfl⟩ | exact ⟨rfl, rfl, rfl, rfl, rfl, fun h => nomatch h⟩ | omega | decide) rfl ?_
    refine wpo_r rfl (by first | exact trivial | exact rfl | exact ⟨rfl, rfl⟩ | exact ⟨rfl, by omega, by omega, rfl⟩ | exact ⟨by omega, by omega, rfl⟩ | exact ⟨rfl, rfl, rfl, rfl, rfl, fun h => nomatch h⟩ | omega | decide) rfl ?_
    refine wpo_nil ?_
    refine RK_ct rfl (decide_eq_true (by omega)) (RK_skip (.inl ⟨rfl, ?_⟩))
    refine RK_seq (RK_blk (RK_region ?_))
    refine wpo_r rfl (by first | exact trivial | exact rfl | exact ⟨rfl, rfl⟩ | exact ⟨rfl, by omega, by omega, rfl⟩ | exact ⟨by omega, by omega, rfl⟩ | exact ⟨rfl, rfl, rfl, rfl, rfl, fun h => nomatch h⟩ | omega | decide) rfl ?_
    refine wpo_r rfl (by first | exact trivial | exact rfl | exact ⟨rfl, rfl⟩ | exact ⟨rfl, by omega, by omega, rfl⟩ | exact ⟨by omega, by omega, rfl⟩ | exact ⟨rfl, rfl, rfl, rfl, rfl, fun h => nomatch h⟩ | omega | decide) rfl ?_
    refine wpo_w rfl ⟨⟨trivial, rfl, rfl⟩, by decide, by decide, by decide⟩ ?_
    refine SW_own (t := 46) (ob := i + 3) (xs := [iA n]) rfl (by simp [uph, look]; rfl) rfl rfl (Nat.le_refl _) rfl ?_
    refine SW_weak (t := stL ((44, .own 2 i 0 (i + 1)) :: (46, .sl 3 [iA n]) :: lvT n c m (.own 2 i 0 (i + 1)) (i + 1)) [(2, ⟨i, false, some 3, .st ((List.replicate (i + 1) (n : Int)).map iA)⟩)] (i + 4)) (le_st ⟨rfl, rfl, rfl, rfl, rfl, rfl, rfl, rfl, trivial⟩ ⟨by simp [uph, look], trivial⟩ (Nat.le_refl _) rfl) ?_
    have hel : (elems ⟨i, false, some 3, .st ((List.replicate (i + 1) (n : Int)).map iA)⟩).length = i + 1 := by show ((List.replicate (i + 1) (n : Int)).map iA).length = _; simp
    refine wpo_ws (opv_grow rfl rfl rfl rfl rfl rfl (by rw [hel]; show ¬ 0 + (i + 1) + 1 ≤ i + 1; omega)) ⟨trivial, rfl, rfl, rfl, rfl, by rw [hel]; exact Nat.le_refl _, fun x hx => by rw [List.mem_singleton.1 hx]; rfl, show (i + 1 + 1) * 8 ≤ maxBytes by unfold maxBytes; omega⟩
      (v' := .own 2 (i + 1) 0 (i + 2)) rfl (b' := ⟨i + 1, false, some 3, .st ((List.replicate (i + 2) (n : Int)).map iA)⟩) (congrArg (fun l => Ob.mk (i + 1) false (some 3) (.st l)) (by
        show ((List.replicate (i + 1) (n : Int)).map iA).take (i + 1) ++ [iA n] = _
        rw [List.take_of_length_le (by simp), rep_snoc])) ?_
    refine wpo_r rfl (by first | exact trivial | exact rfl | exact ⟨rfl, rfl⟩ | exact ⟨rfl, by omega, by omega, rfl⟩ | exact ⟨by omega, by omega, rfl⟩ | exact ⟨rfl, rfl, rfl, rfl, rfl, fun h => nomatch h⟩ | omega | decide) rfl ?_
    refine wpo_nil ?_
    refine ⟨.inr rfl, rfl, RK_region ?_⟩
    refine wpo_r rfl (by first | exact trivial | exact rfl | exact ⟨rfl, rfl⟩ | exact ⟨rfl, by omega, by omega, rfl⟩ | exact ⟨by omega, by omega, rfl⟩ | exact ⟨rfl, rfl, rfl, rfl, rfl, fun h => nomatch h⟩ | omega | decide) rfl ?_
    refine wpo_r rfl (by first | exact trivial | exact rfl | exact ⟨rfl, rfl⟩ | exact ⟨rfl, by omega, by omega, rfl⟩ | exact ⟨by omega, by omega, rfl⟩ | exact ⟨rfl, rfl, rfl, rfl, rfl, fun h => nomatch h⟩ | omega | decide) (congrArg (A.int .i64) (i64a (i := i + 1) (j := 1) (by omega) (by omega))) ?_
    refine wpo_r rfl (by first | exact trivial | exact rfl | exact ⟨rfl, rfl⟩ | exact ⟨rfl, by omega, by omega, rfl⟩ | exact ⟨by omega, by omega, rfl⟩ | exact ⟨rfl, rfl, rfl, rfl, rfl, fun h => nomatch h⟩ | omega | decide) rfl ?_
    refine wpo_nil ?_
    exact ⟨rfl, le_st ⟨rfl, rfl, rfl, rfl, rfl, rfl, trivial⟩ ⟨rfl, trivial⟩ (Nat.le_refl _) rfl⟩

theorem flat_in (n c : Nat) (m : Int) (hn : n ≤ 31) (hc : c ≤ 100) : Pure PP LL 8 [.int .i64 (n : Int), .int .i64 (c : Int), iA m] (.bool true) := by
  intro hp nx
  have hB : big = 2305843009213693952 := rfl
  have hp31 : 2 ^ n ≤ 2 ^ 31 := Nat.pow_le_pow_right (by omega) hn
  have h31 : (2 : Nat) ^ 31 = 2147483648 := by decide
  have hpc : 2 ^ n * c ≤ 2147483648 * 100 := Nat.mul_le_mul (by omega) hc
  have hcp : c * 2 ^ n = 2 ^ n * c := Nat.mul_comm _ _
  have hmul : IntKind.i64.wrap (((2 ^ n : Nat) : Int) * (c : Int)) = ((c * 2 ^ n : Nat) : Int) := by
    have e : ((2 ^ n : Nat) : Int) * (c : Int) = ((2 ^ n * c : Nat) : Int) := by push_cast; rfl
    rw [e, i64r (by omega) (by omega), hcp]
  have hrep : ∀ x ∈ List.replicate c (n : Int), -9223372036854775808 ≤ x := fun x hx => by rw [(List.mem_replicate.1 hx).2]; omega
  refine callD_pure LL_ok Tryz.func8 (by rfl) rfl (by simp [Tryz.f8]) (by rfl) (rs := [.bool true]) (fin (f := 8) (fn := Tryz.f8) rfl rfl ?_) (by rfl) (by simp [A.isTup])
  refine RK_reg ?_
  refine wpo_r rfl (by first | exact trivial | exact rfl | exact ⟨rfl, rfl⟩ | exact ⟨rfl, by omega, by omega, rfl⟩ | exact ⟨by omega, by omega, rfl⟩ | exact ⟨rfl, rfl, rfl, rfl, rfl, fun h => nomatch h⟩ | omega | decide) rfl ?_
  refine wpo_nil ?_
  refine RK_reg ?_
  refine wpo_c rfl rfl (by repeat (first | refine List.forall_mem_cons.2 ⟨rfl, ?_⟩ | exact List.forall_mem_nil _)) (awake_con _ _) rfl ?_
  refine wpo_r rfl (by first | exact trivial | exact rfl | exact ⟨rfl, rfl⟩ | exact ⟨rfl, by omega, by omega, rfl⟩ | exact ⟨by omega, by omega, rfl⟩ | exact ⟨rfl, rfl, rfl, rfl, rfl, fun h => nomatch h⟩ | omega | decide) rfl ?_
  refine wpo_nil ?_
  refine RK_seqx ?_
  refine RK_reg ?_
  refine wpo_r rfl (by first | exact trivial | exact rfl | exact ⟨rfl, rfl⟩ | exact ⟨rfl, by omega, by omega, rfl⟩ | exact ⟨by omega, by omega, rfl⟩ | exact ⟨rfl, rfl, rfl, rfl, rfl, fun h => nomatch h⟩ | omega | decide) rfl ?_
  refine wpo_r rfl (by first | exact trivial | exact rfl | exact ⟨rfl, rfl⟩ | exact ⟨rfl, by omega, by omega, rfl⟩ | exact ⟨by omega, by omega, rfl⟩ | exact ⟨rfl, rfl, rfl, rfl, rfl, fun h => nomatch h⟩ | omega | decide) rfl ?_
  refine wpo_r rfl (by first | exact trivial | exact rfl | exact ⟨rfl, rfl⟩ | exact ⟨rfl, by omega, by omega, rfl⟩ | exact ⟨by omega, by omega, rfl⟩ | exact ⟨rfl, rfl, rfl, rfl, rfl, fun h => nomatch h⟩ | omega | decide) rfl ?_
  refine wpo_gr rfl rfl (by first | exact trivial | exact rfl | exact ⟨rfl, rfl⟩ | exact ⟨rfl, by omega, by omega, rfl⟩ | exact ⟨by omega, by omega, rfl⟩ | exact ⟨rfl, rfl, rfl, rfl, rfl, fun h => nomatch h⟩ | omega | decide) rfl ?_
  refine wpo_gr rfl rfl (by first | exact trivial | exact rfl | exact ⟨rfl, rfl⟩ | exact ⟨rfl, by omega, by omega, rfl⟩ | exact ⟨by omega, by omega, rfl⟩ | exact ⟨rfl, rfl, rfl, rfl, rfl, fun h => nomatch h⟩ | omega | decide) (congrArg A.bool (decide_eq_false (by omega))) ?_
  refine wpo_r rfl (by first | exact trivial | exact rfl | exact ⟨rfl, rfl⟩ | exact ⟨rfl, by omega, by omega, rfl⟩ | exact ⟨by omega, by omega, rfl⟩ | exact ⟨rfl, rfl, rfl, rfl, rfl, fun h => nomatch h⟩ | omega | decide) rfl ?_
  refine wpo_r rfl (by first | exact trivial | exact rfl | exact ⟨rfl, rfl⟩ | exact ⟨rfl, by omega, by omega, rfl⟩ | exact ⟨by omega, by omega, rfl⟩ | exact ⟨rfl, rfl, rfl, rfl, rfl, fun h => nomatch h⟩ | omega | decide) rfl ?_
  refine wpo_gr rfl rfl (by first | exact trivial | exact rfl | exact ⟨rfl, rfl⟩ | exact ⟨rfl, by omega, by omega, rfl⟩ | exact ⟨by omega, by omega, rfl⟩ | exact ⟨rfl, rfl, rfl, rfl, rfl, fun h => nomatch h⟩ | omega | decide) rfl ?_
  refine wpo_gr rfl rfl (by first | exact trivial | exact rfl | exact ⟨rfl, rfl⟩ | exact ⟨rfl, by omega, by omega, rfl⟩ | exact ⟨by omega, by omega, rfl⟩ | exact ⟨rfl, rfl, rfl, rfl, rfl, fun h => nomatch h⟩ | omega | decide) (congrArg A.bool (decide_eq_false (by omega))) ?_
  refine wpo_r rfl (by first | exact trivial | exact rfl | exact ⟨rfl, rfl⟩ | exact ⟨rfl, by omega, by omega, rfl⟩ | exact ⟨by omega, by omega, rfl⟩ | exact ⟨rfl, rfl, rfl, rfl, rfl, fun h => nomatch h⟩ | omega | decide) rfl ?_
  refine wpo_r rfl (by first | exact trivial | exact rfl | exact ⟨rfl, rfl⟩ | exact ⟨rfl, by omega, by omega, rfl⟩ | exact ⟨by omega, by omega, rfl⟩ | exact ⟨rfl, rfl, rfl, rfl, rfl, fun h => nomatch h⟩ | omega | decide) rfl ?_
  refine wpo_gr rfl rfl (by first | exact trivial | exact rfl | exact ⟨rfl, rfl⟩ | exact ⟨rfl, by omega, by omega, rfl⟩ | exact ⟨by omega, by omega, rfl⟩ | exact ⟨rfl, rfl, rfl, rfl, rfl, fun h => nomatch h⟩ | omega | decide) rfl ?_
  refine wpo_gr rfl rfl (by first | exact trivial | exact rfl | exact ⟨rfl, rfl⟩ | exact ⟨rfl, by omega, by omega, rfl⟩ | exact ⟨by omega, by omega, rfl⟩ | exact ⟨rfl, rfl, rfl, rfl, rfl, fun h => nomatch h⟩ | omega | decide) (congrArg A.bool (decide_eq_false (by omega))) ?_
  refine wpo_r rfl (by first | exact trivial | exact rfl | exact ⟨rfl, rfl⟩ | exact ⟨rfl, by omega, by omega, rfl⟩ | exact ⟨by omega, by omega, rfl⟩ | exact ⟨rfl, rfl, rfl, rfl, rfl, fun h => nomatch h⟩ | omega | decide) rfl ?_
  refine wpo_r rfl (by first | exact trivial | exact rfl | exact ⟨rfl, rfl⟩ | exact ⟨rfl, by omega, by omega, rfl⟩ | exact ⟨by omega, by omega, rfl⟩ | exact ⟨rfl, rfl, rfl, rfl, rfl, fun h => nomatch h⟩ | omega | decide) rfl ?_
  refine wpo_gr rfl rfl (by first | exact trivial | exact rfl | exact ⟨rfl, rfl⟩ | exact ⟨rfl, by omega, by omega, rfl⟩ | exact ⟨by omega, by omega, rfl⟩ | exact ⟨rfl, rfl, rfl, rfl, rfl, fun h => nomatch h⟩ | omega | decide) rfl ?_
  refine wpo_gr rfl rfl (by first | exact trivial | exact rfl | exact ⟨rfl, rfl⟩ | exact ⟨rfl, by omega, by omega, rfl⟩ | exact ⟨by omega, by omega, rfl⟩ | exact ⟨rfl, rfl, rfl, rfl, rfl, fun h => nomatch h⟩ | omega | decide) (congrArg A.bool (decide_eq_false (by omega))) ?_
  refine wpo_r rfl (by first | exact trivial | exact rfl | exact ⟨rfl, rfl⟩ | exact ⟨rfl, by omega, by omega, rfl⟩ | exact ⟨by omega, by omega, rfl⟩ | exact ⟨rfl, rfl, rfl, rfl, rfl, fun h => nomatch h⟩ | omega | decide) rfl ?_
  refine wpo_nil ?_
  refine RK_cf rfl rfl (RK_skip (.inl ⟨rfl, ?_⟩))
  refine RK_reg ?_
  refine wpo_r rfl (by first | exact trivial | exact rfl | exact ⟨rfl, rfl⟩ | exact ⟨rfl, by omega, by omega, rfl⟩ | exact ⟨by omega, by omega, rfl⟩ | exact ⟨rfl, rfl, rfl, rfl, rfl, fun h => nomatch h⟩ | omega | decide) rfl ?_
  refine wpo_nil ?_
  refine RK_reg ?_
  refine wpo_r rfl (by first | exact trivial | exact rfl | exact ⟨rfl, rfl⟩ | exact ⟨rfl, by omega, by omega, rfl⟩ | exact ⟨by omega, by omega, rfl⟩ | exact ⟨rfl, rfl, rfl, rfl, rfl, fun h => nomatch h⟩ | omega | decide) ((rfl : _ = A.int .i64 ((2 ^ 0 : Nat) : Int))) ?_
  refine wpo_nil ?_
  refine RK_seq ?_
  refine RK_reg ?_
  refine wpo_r rfl (by first | exact trivial | exact rfl | exact ⟨rfl, rfl⟩ | exact ⟨rfl, by omega, by omega, rfl⟩ | exact ⟨by omega, by omega, rfl⟩ | exact ⟨rfl, rfl, rfl, rfl, rfl, fun h => nomatch h⟩ | omega | decide) rfl ?_
  refine wpo_nil ?_
  refine RK_for (upS n c m) n (le_st ⟨rfl, rfl, rfl, rfl, rfl, rfl, trivial⟩ trivial (Nat.le_refl _) rfl) (up_body n c m hn) ?_ ?_
  · refine RK_seqx ?_
    refine RK_reg ?_
    refine wpo_r rfl (by first | exact trivial | exact rfl | exact ⟨rfl, rfl⟩ | exact ⟨rfl, by omega, by omega, rfl⟩ | exact ⟨by omega, by omega, rfl⟩ | exact ⟨rfl, rfl, rfl, rfl, rfl, fun h => nomatch h⟩ | omega | decide) rfl ?_
    refine wpo_r rfl (by first | exact trivial | exact rfl | exact ⟨rfl, rfl⟩ | exact ⟨rfl, by omega, by omega, rfl⟩ | exact ⟨by omega, by omega, rfl⟩ | exact ⟨rfl, rfl, rfl, rfl, rfl, fun h => nomatch h⟩ | omega | decide) rfl ?_
    refine wpo_r rfl (by first | exact trivial | exact rfl | exact ⟨rfl, rfl⟩ | exact ⟨rfl, by omega, by omega, rfl⟩ | exact ⟨by omega, by omega, rfl⟩ | exact ⟨rfl, rfl, rfl, rfl, rfl, fun h => nomatch h⟩ | omega | decide) rfl ?_
    refine wpo_nil ?_
    exact RK_cf rfl (decide_eq_false (by omega)) (RK_exit (.inr ⟨by simp, rfl, le_st ⟨rfl, rfl, rfl, rfl, rfl, rfl, trivial⟩ trivial (Nat.le_refl _) rfl⟩))
  intro t1 ht1
  refine ⟨rfl, RK_weak ?_ ht1⟩
  unfold upS
  refine RK_seq ?_
  refine RK_reg ?_
  refine wpo_r rfl (by first | exact trivial | exact rfl | exact ⟨rfl, rfl⟩ | exact ⟨rfl, by omega, by omega, rfl⟩ | exact ⟨by omega, by omega, rfl⟩ | exact ⟨rfl, rfl, rfl, rfl, rfl, fun h => nomatch h⟩ | omega | decide) rfl ?_
  refine wpo_nil ?_
  refine RK_for (lvS n c m) c (le_st ⟨rfl, rfl, rfl, rfl, rfl, rfl, trivial⟩ trivial (Nat.zero_le _) rfl) (lv_body n c m hn hc) ?_ ?_
  · cases c with
    | zero =>
      refine RK_seqx ?_
      refine RK_reg ?_
      refine wpo_r rfl (by first | exact trivial | exact rfl | exact ⟨rfl, rfl⟩ | exact ⟨rfl, by omega, by omega, rfl⟩ | exact ⟨by omega, by omega, rfl⟩ | exact ⟨rfl, rfl, rfl, rfl, rfl, fun h => nomatch h⟩ | omega | decide) rfl ?_
      refine wpo_r rfl (by first | exact trivial | exact rfl | exact ⟨rfl, rfl⟩ | exact ⟨rfl, by omega, by omega, rfl⟩ | exact ⟨by omega, by omega, rfl⟩ | exact ⟨rfl, rfl, rfl, rfl, rfl, fun h => nomatch h⟩ | omega | decide) rfl ?_
      refine wpo_r rfl (by first | exact trivial | exact rfl | exact ⟨rfl, rfl⟩ | exact ⟨rfl, by omega, by omega, rfl⟩ | exact ⟨by omega, by omega, rfl⟩ | exact ⟨rfl, rfl, rfl, rfl, rfl, fun h => nomatch h⟩ | omega | decide) rfl ?_
      refine wpo_nil ?_
      exact RK_cf rfl (decide_eq_false (by omega)) (RK_exit (.inr ⟨by simp, rfl, le_st ⟨rfl, rfl, rfl, rfl, rfl, rfl, trivial⟩ trivial (Nat.le_refl _) rfl⟩))
    | succ c =>
      refine RK_seqx ?_
      refine RK_reg ?_
      refine wpo_r rfl (by first | exact trivial | exact rfl | exact ⟨rfl, rfl⟩ | exact ⟨rfl, by omega, by omega, rfl⟩ | exact ⟨by omega, by omega, rfl⟩ | exact ⟨rfl, rfl, rfl, rfl, rfl, fun h => nomatch h⟩ | omega | decide) rfl ?_
      refine wpo_r rfl (by first | exact trivial | exact rfl | exact ⟨rfl, rfl⟩ | exact ⟨rfl, by omega, by omega, rfl⟩ | exact ⟨by omega, by omega, rfl⟩ | exact ⟨rfl, rfl, rfl, rfl, rfl, fun h => nomatch h⟩ | omega | decide) rfl ?_
      refine wpo_r rfl (by first | exact trivial | exact rfl | exact ⟨rfl, rfl⟩ | exact ⟨rfl, by omega, by omega, rfl⟩ | exact ⟨by omega, by omega, rfl⟩ | exact ⟨rfl, rfl, rfl, rfl, rfl, fun h => nomatch h⟩ | omega | decide) rfl ?_
      refine wpo_nil ?_
      exact RK_cf rfl (decide_eq_false (by omega)) (RK_exit (.inr ⟨by simp, rfl, le_st ⟨rfl, rfl, rfl, rfl, rfl, rfl, trivial⟩ ⟨rfl, trivial⟩ (Nat.le_refl _) rfl⟩))
  intro t2 ht2
  refine ⟨rfl, RK_weak ?_ ht2⟩
  cases c with
  | zero =>
    refine RK_weak (t := stL (lvT n 0 m .nilsl 0) [] 1) ?_ (Le.refl _)
    refine RK_seqx ?_
    refine RK_reg ?_
    refine wpo_r rfl (by first | exact trivial | exact rfl | exact ⟨rfl, rfl⟩ | exact ⟨rfl, by omega, by omega, rfl⟩ | exact ⟨by omega, by omega, rfl⟩ | exact ⟨rfl, rfl, rfl, rfl, rfl, fun h => nomatch h⟩ | omega | decide) rfl ?_
    refine wpo_r rfl (by first | exact trivial | exact rfl | exact ⟨rfl, rfl⟩ | exact ⟨rfl, by omega, by omega, rfl⟩ | exact ⟨by omega, by omega, rfl⟩ | exact ⟨rfl, rfl, rfl, rfl, rfl, fun h => nomatch h⟩ | omega | decide) rfl ?_
    refine wpo_r rfl (by first | exact trivial | exact rfl | exact ⟨rfl, rfl⟩ | exact ⟨rfl, by omega, by omega, rfl⟩ | exact ⟨by omega, by omega, rfl⟩ | exact ⟨rfl, rfl, rfl, rfl, rfl, fun h => nomatch h⟩ | omega | decide) rfl ?_
    refine wpo_nil ?_
    by_cases hm : m ≤ ((0 : Nat) : Int)
    · refine RK_ct rfl (decide_eq_true hm) ?_
      refine RK_reg ?_
      refine wpo_r rfl (by first | exact trivial | exact rfl | exact ⟨rfl, rfl⟩ | exact ⟨rfl, by omega, by omega, rfl⟩ | exact ⟨by omega, by omega, rfl⟩ | exact ⟨rfl, rfl, rfl, rfl, rfl, fun h => nomatch h⟩ | omega | decide) rfl ?_
      refine wpo_r rfl (by first | exact trivial | exact rfl | exact ⟨rfl, rfl⟩ | exact ⟨rfl, by omega, by omega, rfl⟩ | exact ⟨by omega, by omega, rfl⟩ | exact ⟨rfl, rfl, rfl, rfl, rfl, fun h => nomatch h⟩ | omega | decide) rfl ?_
      refine wpo_c rfl rfl (by repeat (first | refine List.forall_mem_cons.2 ⟨rfl, ?_⟩ | exact List.forall_mem_nil _)) (score_nil m _ _) rfl ?_
      refine wpo_r rfl (by first | exact trivial | exact rfl | exact ⟨rfl, rfl⟩ | exact ⟨rfl, by omega, by omega, rfl⟩ | exact ⟨by omega, by omega, rfl⟩ | exact ⟨rfl, rfl, rfl, rfl, rfl, fun h => nomatch h⟩ | omega | decide) rfl ?_
      refine wpo_r rfl (by first | exact trivial | exact rfl | exact ⟨rfl, rfl⟩ | exact ⟨rfl, by omega, by omega, rfl⟩ | exact ⟨by omega, by omega, rfl⟩ | exact ⟨rfl, rfl, rfl, rfl, rfl, fun h => nomatch h⟩ | omega | decide) rfl ?_
      refine wpo_r rfl (by first | exact trivial | exact rfl | exact ⟨rfl, rfl⟩ | exact ⟨rfl, by omega, by omega, rfl⟩ | exact ⟨by omega, by omega, rfl⟩ | exact ⟨rfl, rfl, rfl, rfl, rfl, fun h => nomatch h⟩ | omega | decide) (congrArg (A.int .i64) hmul) ?_
      refine wpo_r rfl (by first | exact trivial | exact rfl | exact ⟨rfl, rfl⟩ | exact ⟨rfl, by omega, by omega, rfl⟩ | exact ⟨by omega, by omega, rfl⟩ | exact ⟨rfl, rfl, rfl, rfl, rfl, fun h => nomatch h⟩ | omega | decide) (congrArg A.bool (show (((scoreN (List.replicate (0) (n : Int)) m : Nat) : Int) == (((0) * 2 ^ n : Nat) : Int)) = true from by rw [score_flat_hi hn hm]; exact beq_self_eq_true _)) ?_
      refine wpo_r rfl (by first | exact trivial | exact rfl | exact ⟨rfl, rfl⟩ | exact ⟨rfl, by omega, by omega, rfl⟩ | exact ⟨by omega, by omega, rfl⟩ | exact ⟨rfl, rfl, rfl, rfl, rfl, fun h => nomatch h⟩ | omega | decide) rfl ?_
      refine wpo_nil ?_
      exact RK_ret (.inr ⟨by simp, .inl rfl, _, rfl, trivial, trivial⟩)
    · refine RK_cf rfl (decide_eq_false hm) (RK_skip (.inl ⟨rfl, ?_⟩))
      refine RK_reg ?_
      refine wpo_r rfl (by first | exact trivial | exact rfl | exact ⟨rfl, rfl⟩ | exact ⟨rfl, by omega, by omega, rfl⟩ | exact ⟨by omega, by omega, rfl⟩ | exact ⟨rfl, rfl, rfl, rfl, rfl, fun h => nomatch h⟩ | omega | decide) rfl ?_
      refine wpo_r rfl (by first | exact trivial | exact rfl | exact ⟨rfl, rfl⟩ | exact ⟨rfl, by omega, by omega, rfl⟩ | exact ⟨by omega, by omega, rfl⟩ | exact ⟨rfl, rfl, rfl, rfl, rfl, fun h => nomatch h⟩ | omega | decide) rfl ?_
      refine wpo_c rfl rfl (by repeat (first | refine List.forall_mem_cons.2 ⟨rfl, ?_⟩ | exact List.forall_mem_nil _)) (score_nil m _ _) rfl ?_
      refine wpo_r rfl (by first | exact trivial | exact rfl | exact ⟨rfl, rfl⟩ | exact ⟨rfl, by omega, by omega, rfl⟩ | exact ⟨by omega, by omega, rfl⟩ | exact ⟨rfl, rfl, rfl, rfl, rfl, fun h => nomatch h⟩ | omega | decide) rfl ?_
      refine wpo_r rfl (by first | exact trivial | exact rfl | exact ⟨rfl, rfl⟩ | exact ⟨rfl, by omega, by omega, rfl⟩ | exact ⟨by omega, by omega, rfl⟩ | exact ⟨rfl, rfl, rfl, rfl, rfl, fun h => nomatch h⟩ | omega | decide) (congrArg A.bool (show (((scoreN (List.replicate (0) (n : Int)) m : Nat) : Int) == ((0 : Nat) : Int)) = true from by rw [score_flat_lo hm]; exact beq_self_eq_true _)) ?_
      refine wpo_r rfl (by first | exact trivial | exact rfl | exact ⟨rfl, rfl⟩ | exact ⟨rfl, by omega, by omega, rfl⟩ | exact ⟨by omega, by omega, rfl⟩ | exact ⟨rfl, rfl, rfl, rfl, rfl, fun h => nomatch h⟩ | omega | decide) rfl ?_
      refine wpo_nil ?_
      exact RK_ret ⟨.inl rfl, _, rfl, trivial, trivial⟩
  | succ c =>
    refine RK_weak (t := stL (lvT n (c + 1) m (.own 2 c 0 (c + 1)) (c + 1)) [(2, ⟨c, false, some 3, .st ((List.replicate (c + 1) (n : Int)).map iA)⟩)] (c + 3)) ?_ (Le.refl _)
    refine RK_own (t := 8) (ob := 2) (xs := (List.replicate (c + 1) (n : Int)).map iA) rfl rfl rfl rfl (by show 0 + (c + 1) ≤ ((List.replicate (c + 1) (n : Int)).map iA).length; simp) (by show (((List.replicate (c + 1) (n : Int)).map iA).drop 0).take (c + 1) = _; rw [List.drop_zero, List.take_of_length_le (by simp)]) ?_
    refine RK_seqx ?_
    refine RK_reg ?_
    refine wpo_r rfl (by first | exact trivial | exact rfl | exact ⟨rfl, rfl⟩ | exact ⟨rfl, by omega, by omega, rfl⟩ | exact ⟨by omega, by omega, rfl⟩ | exact ⟨rfl, rfl, rfl, rfl, rfl, fun h => nomatch h⟩ | omega | decide) rfl ?_
    refine wpo_r rfl (by first | exact trivial | exact rfl | exact ⟨rfl, rfl⟩ | exact ⟨rfl, by omega, by omega, rfl⟩ | exact ⟨by omega, by omega, rfl⟩ | exact ⟨rfl, rfl, rfl, rfl, rfl, fun h => nomatch h⟩ | omega | decide) rfl ?_
    refine wpo_r rfl (by first | exact trivial | exact rfl | exact ⟨rfl, rfl⟩ | exact ⟨rfl, by omega, by omega, rfl⟩ | exact ⟨by omega, by omega, rfl⟩ | exact ⟨rfl, rfl, rfl, rfl, rfl, fun h => nomatch h⟩ | omega | decide) rfl ?_
    refine wpo_nil ?_
    by_cases hm : m ≤ ((c + 1 : Nat) : Int)
    · refine RK_ct rfl (decide_eq_true hm) ?_
      refine RK_reg ?_
      refine wpo_r rfl (by first | exact trivial | exact rfl | exact ⟨rfl, rfl⟩ | exact ⟨rfl, by omega, by omega, rfl⟩ | exact ⟨by omega, by omega, rfl⟩ | exact ⟨rfl, rfl, rfl, rfl, rfl, fun h => nomatch h⟩ | omega | decide) rfl ?_
      refine wpo_r rfl (by first | exact trivial | exact rfl | exact ⟨rfl, rfl⟩ | exact ⟨rfl, by omega, by omega, rfl⟩ | exact ⟨by omega, by omega, rfl⟩ | exact ⟨rfl, rfl, rfl, rfl, rfl, fun h => nomatch h⟩ | omega | decide) rfl ?_
      refine wpo_c rfl rfl (by repeat (first | refine List.forall_mem_cons.2 ⟨rfl, ?_⟩ | exact List.forall_mem_nil _)) (score_con (List.replicate (c + 1) (n : Int)) m (by simp; omega) hrep _ _) rfl ?_
      refine wpo_r rfl (by first | exact trivial | exact rfl | exact ⟨rfl, rfl⟩ | exact ⟨rfl, by omega, by omega, rfl⟩ | exact ⟨by omega, by omega, rfl⟩ | exact ⟨rfl, rfl, rfl, rfl, rfl, fun h => nomatch h⟩ | omega | decide) rfl ?_
      refine wpo_r rfl (by first | exact trivial | exact rfl | exact ⟨rfl, rfl⟩ | exact ⟨rfl, by omega, by omega, rfl⟩ | exact ⟨by omega, by omega, rfl⟩ | exact ⟨rfl, rfl, rfl, rfl, rfl, fun h => nomatch h⟩ | omega | decide) rfl ?_
      refine wpo_r rfl (by first | exact trivial | exact rfl | exact ⟨rfl, rfl⟩ | exact ⟨rfl, by omega, by omega, rfl⟩ | exact ⟨by omega, by omega, rfl⟩ | exact ⟨rfl, rfl, rfl, rfl, rfl, fun h => nomatch h⟩ | omega | decide) (congrArg (A.int .i64) hmul) ?_
      refine wpo_r rfl (by first | exact trivial | exact rfl | exact ⟨rfl, rfl⟩ | exact ⟨rfl, by omega, by omega, rfl⟩ | exact ⟨by omega, by omega, rfl⟩ | exact ⟨rfl, rfl, rfl, rfl, rfl, fun h => nomatch h⟩ | omega | decide) (congrArg A.bool (show (((scoreN (List.replicate (c + 1) (n : Int)) m : Nat) : Int) == (((c + 1) * 2 ^ n : Nat) : Int)) = true from by rw [score_flat_hi hn hm]; exact beq_self_eq_true _)) ?_
      refine wpo_r rfl (by first | exact trivial | exact rfl | exact ⟨rfl, rfl⟩ | exact ⟨rfl, by omega, by omega, rfl⟩ | exact ⟨by omega, by omega, rfl⟩ | exact ⟨rfl, rfl, rfl, rfl, rfl, fun h => nomatch h⟩ | omega | decide) rfl ?_
      refine wpo_nil ?_
      exact RK_ret (.inr ⟨by simp, .inl rfl, _, rfl, trivial, trivial⟩)
    · refine RK_cf rfl (decide_eq_false hm) (RK_skip (.inl ⟨rfl, ?_⟩))
      refine RK_reg ?_
      refine wpo_r rfl (by first | exact trivial | exact rfl | exact ⟨rfl, rfl⟩ | exact ⟨rfl, by omega, by omega, rfl⟩ | exact ⟨by omega, by omega, rfl⟩ | exact ⟨rfl, rfl, rfl, rfl, rfl, fun h => nomatch h⟩ | omega | decide) rfl ?_
      refine wpo_r rfl (by first | exact trivial | exact rfl | exact ⟨rfl, rfl⟩ | exact ⟨rfl, by omega, by omega, rfl⟩ | exact ⟨by omega, by omega, rfl⟩ | exact ⟨rfl, rfl, rfl, rfl, rfl, fun h => nomatch h⟩ | omega | decide) rfl ?_
      refine wpo_c rfl rfl (by repeat (first | refine List.forall_mem_cons.2 ⟨rfl, ?_⟩ | exact List.forall_mem_nil _)) (score_con (List.replicate (c + 1) (n : Int)) m (by simp; omega) hrep _ _) rfl ?_
      refine wpo_r rfl (by first | exact trivial | exact rfl | exact ⟨rfl, rfl⟩ | exact ⟨rfl, by omega, by omega, rfl⟩ | exact ⟨by omega, by omega, rfl⟩ | exact ⟨rfl, rfl, rfl, rfl, rfl, fun h => nomatch h⟩ | omega | decide) rfl ?_
      refine wpo_r rfl (by first | exact trivial | exact rfl | exact ⟨rfl, rfl⟩ | exact ⟨rfl, by omega, by omega, rfl⟩ | exact ⟨by omega, by omega, rfl⟩ | exact ⟨rfl, rfl, rfl, rfl, rfl, fun h => nomatch h⟩ | omega | decide) (congrArg A.bool (show (((scoreN (List.replicate (c + 1) (n : Int)) m : Nat) : Int) == ((c + 1 : Nat) : Int)) = true from by rw [score_flat_lo hm]; exact beq_self_eq_true _)) ?_
      refine wpo_r rfl (by first | exact trivial | exact rfl | exact ⟨rfl, rfl⟩ | exact ⟨rfl, by omega, by omega, rfl⟩ | exact ⟨by omega, by omega, rfl⟩ | exact ⟨rfl, rfl, rfl, rfl, rfl, fun h => nomatch h⟩ | omega | decide) rfl ?_
      refine wpo_nil ?_
      exact RK_ret ⟨.inl rfl, _, rfl, trivial, trivial⟩

end Go.Ab


/- THE LAW ON LEVELS: more levels are worth no less. -/
namespace Go.Ab
open Go.Proofs

theorem acc_ge {f : Nat → Nat} {m : Int} : ∀ k, f 0 ≤ acc f m k
  | 0 => Nat.le_refl _
  | k + 1 => by
    have := acc_ge (f := f) (m := m) k
    unfold acc
    split
    · split <;> omega
    · omega
theorem acc_mono {f g : Nat → Nat} {m : Int} (h : ∀ k, f k ≤ g k) : ∀ k, acc f m k ≤ acc g m k
  | 0 => h 0
  | k + 1 => by
    have ih := acc_mono (m := m) h k
    have hk := h k
    have h2 : f k * 2 ^ k ≤ g k * 2 ^ k := Nat.mul_le_mul_right _ hk
    unfold acc
    by_cases h1 : m ≤ (f k : Int)
    · rw [if_pos h1, if_pos (show m ≤ (g k : Int) by omega)]
      split <;> split <;> omega
    · rw [if_neg h1]
      split
      · split <;> omega
      · omega
theorem acc_anti {f : Nat → Nat} {m n : Int} (h : m ≤ n) : ∀ k, acc f n k ≤ acc f m k
  | 0 => Nat.le_refl _
  | k + 1 => by
    have ih := acc_anti (f := f) h k
    unfold acc
    by_cases h1 : n ≤ (f k : Int)
    · rw [if_pos h1, if_pos (show m ≤ (f k : Int) by omega)]
      split <;> split <;> omega
    · rw [if_neg h1]
      split
      · split <;> omega
      · omega
theorem score_more (xs : List Int) (y m : Int) : scoreN xs m ≤ scoreN (xs ++ [y]) m := acc_mono (fun k => by rw [cnt_snoc]; omega) 32
theorem score_anti (xs : List Int) {m n : Int} (h : m ≤ n) : scoreN xs n ≤ scoreN xs m := acc_anti h 32
theorem score_ge (xs : List Int) (m : Int) : cnt xs 0 ≤ scoreN xs m := acc_ge 32
theorem score_le (xs : List Int) (m : Int) (h : xs.length ≤ 100) : scoreN xs m ≤ 214748364800 := acc_le (fun k => Nat.le_trans (cnt_le xs k) h) 32 (Nat.le_refl _)

section
variable {P : Program} {L : Lay} {r : Option Nat} {N : Nat} {ops : Array Oper} {dst : Option Tmp} {ty : TypeId} {pos : String} {aft : Array Edge} {l : List Oper} {tm : Nat → Option A} {hp : Hp} {nx : Nat} {ys : Nat → Option XO} {mks : List Nat} {Φ : AS → Prop} {x : Operand} {args : Array Operand} {ts : Array TypeId} {f : FuncId} {first caps vs : List A} {v v' : A} {rd : List Nat}
theorem wpo_cg {g : Option (Nat × Bool)} (hw : wantA ops ⟨dst, .call { callee := .value x, args := args, argTypes := ts }, ty, pos, aft, g⟩ tm = some true) (hx : evA tm x = some (.fn (.func f) first caps)) (hvs : evAs tm args.toList = some vs) (ht : ∀ v ∈ vs, v.isTup = false) (hc : CallD P L f (first ++ vs ++ caps) hp nx ⟨v, [], rd, 0⟩) (hv : v = v')
    (hk : SW P L r N ops l ⟨upf tm dst v', hp, nx, ys, mks⟩ Φ) : SW P L r N ops (⟨dst, .call { callee := .value x, args := args, argTypes := ts }, ty, pos, aft, g⟩ :: l) ⟨tm, hp, nx, ys, mks⟩ Φ := by
  subst hv
  refine SW_op hw ?_
  simp only [opW, hx, hvs]
  refine ⟨ht, _, hc, ?_⟩
  have e : uph hp [] = hp := uph_nil hp
  simp only [stepS, e, Nat.add_zero]; exact hk
end

def ctT (xs : List Int) (more m n : Int) (i : Nat) : List (Nat × A) :=
  [(0, .sl 3 (xs.map iA)), (1, iA more), (2, iA m), (3, iA n), (10, iA (scoreN xs m)), (11, .int .i64 (cnt (xs.take i) 0 : Int)), (12, .int .i64 (i : Int))]
def ctS (xs : List Int) (more m n : Int) (i : Nat) : AS := stL (ctT xs more m n i) [] 0

theorem ct_body (xs : List Int) (hx : xs.length ≤ 100) (more m n : Int) (i : Nat) (hi : i < xs.length) :
    RK PP LL none 70 (loopOf Tryz.f6 0) (ctS xs more m n i) (fun e s' => e = .normal ∧ Le s' (ctS xs more m n (i + 1))) := by
  have hB : big = 2305843009213693952 := rfl
  have hs := take_snoc hi
  have hg := xget hi
  have hc : cnt (xs.take (i + 1)) 0 = cnt (xs.take i) 0 + if (((0 : Nat) : Int) ≤ xs.getD i 0) then 1 else 0 := by rw [hs, cnt_snoc]
  have hcl : cnt (xs.take i) 0 ≤ 100 := by
    have := cnt_le (xs.take i) 0
    have h2 : (xs.take i).length ≤ xs.length := List.length_take_le' ..
    omega
  generalize xs.getD i 0 = x at hs hg hc
  refine RK_seqx ?_
  refine RK_reg ?_
  refine wpo_r rfl (by first | exact trivial | exact rfl | exact ⟨rfl, rfl⟩ | exact ⟨rfl, by omega, by omega, rfl⟩ | exact ⟨by omega, by omega, rfl⟩ | exact ⟨rfl, rfl, rfl, rfl, rfl, fun h => nomatch h⟩ | omega | decide) rfl ?_
  refine wpo_r rfl (by first | exact trivial | exact rfl | exact ⟨rfl, rfl⟩ | exact ⟨rfl, by omega, by omega, rfl⟩ | exact ⟨by omega, by omega, rfl⟩ | exact ⟨rfl, rfl, rfl, rfl, rfl, fun h => nomatch h⟩ | omega | decide) rfl ?_
  refine wpo_r rfl (by first | exact trivial | exact rfl | exact ⟨rfl, rfl⟩ | exact ⟨rfl, by omega, by omega, rfl⟩ | exact ⟨by omega, by omega, rfl⟩ | exact ⟨rfl, rfl, rfl, rfl, rfl, fun h => nomatch h⟩ | omega | decide) (congrArg (fun n : Nat => A.int .i64 (n : Int)) (show (xs.map iA).length = xs.length from List.length_map ..)) ?_
  refine wpo_r rfl (by first | exact trivial | exact rfl | exact ⟨rfl, rfl⟩ | exact ⟨rfl, by omega, by omega, rfl⟩ | exact ⟨by omega, by omega, rfl⟩ | exact ⟨rfl, rfl, rfl, rfl, rfl, fun h => nomatch h⟩ | omega | decide) rfl ?_
  refine wpo_nil ?_
  refine RK_ct rfl (decide_eq_true (by omega)) (RK_skip (.inl ⟨rfl, ?_⟩))
  refine RK_seq (RK_blk ?_)
  refine RK_reg ?_
  refine wpo_r rfl (by first | exact trivial | exact rfl | exact ⟨rfl, rfl⟩ | exact ⟨rfl, by omega, by omega, rfl⟩ | exact ⟨by omega, by omega, rfl⟩ | exact ⟨rfl, rfl, rfl, rfl, rfl, fun h => nomatch h⟩ | omega | decide) rfl ?_
  refine wpo_r rfl (by first | exact trivial | exact rfl | exact ⟨rfl, rfl⟩ | exact ⟨rfl, by omega, by omega, rfl⟩ | exact ⟨by omega, by omega, rfl⟩ | exact ⟨rfl, rfl, rfl, rfl, rfl, fun h => nomatch h⟩ | omega | decide) rfl ?_
  refine wpo_r (opv_iasl rfl rfl rfl rfl rfl (hg)) ⟨rfl, by omega⟩ rfl ?_
  refine wpo_r rfl (by first | exact trivial | exact rfl | exact ⟨rfl, rfl⟩ | exact ⟨rfl, by omega, by omega, rfl⟩ | exact ⟨by omega, by omega, rfl⟩ | exact ⟨rfl, rfl, rfl, rfl, rfl, fun h => nomatch h⟩ | omega | decide) rfl ?_
  refine wpo_r rfl (by first | exact trivial | exact rfl | exact ⟨rfl, rfl⟩ | exact ⟨rfl, by omega, by omega, rfl⟩ | exact ⟨by omega, by omega, rfl⟩ | exact ⟨rfl, rfl, rfl, rfl, rfl, fun h => nomatch h⟩ | omega | decide) rfl ?_
  refine wpo_nil ?_
  by_cases h0 : ((0 : Nat) : Int) ≤ x
  · refine RK_ct rfl (decide_eq_true h0) (RK_region ?_)
    refine wpo_r rfl (by first | exact trivial | exact rfl | exact ⟨rfl, rfl⟩ | exact ⟨rfl, by omega, by omega, rfl⟩ | exact ⟨by omega, by omega, rfl⟩ | exact ⟨rfl, rfl, rfl, rfl, rfl, fun h => nomatch h⟩ | omega | decide) rfl ?_
    refine wpo_r rfl (by first | exact trivial | exact rfl | exact ⟨rfl, rfl⟩ | exact ⟨rfl, by omega, by omega, rfl⟩ | exact ⟨by omega, by omega, rfl⟩ | exact ⟨rfl, rfl, rfl, rfl, rfl, fun h => nomatch h⟩ | omega | decide) (congrArg (A.int .i64) ((i64a (i := cnt (xs.take i) 0) (j := 1) (by omega) (by omega)).trans (congrArg Nat.cast (show cnt (xs.take i) 0 + 1 = cnt (xs.take (i + 1)) 0 by rw [hc, if_pos h0])))) ?_
    refine wpo_r rfl (by first | exact trivial | exact rfl | exact ⟨rfl, rfl⟩ | exact ⟨rfl, by omega, by omega, rfl⟩ | exact ⟨by omega, by omega, rfl⟩ | exact ⟨rfl, rfl, rfl, rfl, rfl, fun h => nomatch h⟩ | omega | decide) rfl ?_
    refine wpo_nil ?_
    refine ⟨.inr rfl, rfl, RK_region ?_⟩
    refine wpo_r rfl (by first | exact trivial | exact rfl | exact ⟨rfl, rfl⟩ | exact ⟨rfl, by omega, by omega, rfl⟩ | exact ⟨by omega, by omega, rfl⟩ | exact ⟨rfl, rfl, rfl, rfl, rfl, fun h => nomatch h⟩ | omega | decide) rfl ?_
    refine wpo_r rfl (by first | exact trivial | exact rfl | exact ⟨rfl, rfl⟩ | exact ⟨rfl, by omega, by omega, rfl⟩ | exact ⟨by omega, by omega, rfl⟩ | exact ⟨rfl, rfl, rfl, rfl, rfl, fun h => nomatch h⟩ | omega | decide) (congrArg (A.int .i64) (i64a (i := i) (j := 1) (by omega) (by omega))) ?_
    refine wpo_r rfl (by first | exact trivial | exact rfl | exact ⟨rfl, rfl⟩ | exact ⟨rfl, by omega, by omega, rfl⟩ | exact ⟨by omega, by omega, rfl⟩ | exact ⟨rfl, rfl, rfl, rfl, rfl, fun h => nomatch h⟩ | omega | decide) rfl ?_
    refine wpo_nil ?_
    exact ⟨rfl, le_st ⟨rfl, rfl, rfl, rfl, rfl, rfl, rfl, trivial⟩ trivial (Nat.le_refl _) rfl⟩
  · refine RK_cf rfl (decide_eq_false h0) (RK_skip ⟨.inr rfl, rfl, RK_region ?_⟩)
    refine wpo_r rfl (by first | exact trivial | exact rfl | exact ⟨rfl, rfl⟩ | exact ⟨rfl, by omega, by omega, rfl⟩ | exact ⟨by omega, by omega, rfl⟩ | exact ⟨rfl, rfl, rfl, rfl, rfl, fun h => nomatch h⟩ | omega | decide) rfl ?_
    refine wpo_r rfl (by first | exact trivial | exact rfl | exact ⟨rfl, rfl⟩ | exact ⟨rfl, by omega, by omega, rfl⟩ | exact ⟨by omega, by omega, rfl⟩ | exact ⟨rfl, rfl, rfl, rfl, rfl, fun h => nomatch h⟩ | omega | decide) (congrArg (A.int .i64) (i64a (i := i) (j := 1) (by omega) (by omega))) ?_
    refine wpo_r rfl (by first | exact trivial | exact rfl | exact ⟨rfl, rfl⟩ | exact ⟨rfl, by omega, by omega, rfl⟩ | exact ⟨by omega, by omega, rfl⟩ | exact ⟨rfl, rfl, rfl, rfl, rfl, fun h => nomatch h⟩ | omega | decide) rfl ?_
    refine wpo_nil ?_
    refine ⟨rfl, le_st ⟨rfl, rfl, rfl, rfl, rfl, ?_, rfl, trivial⟩ trivial (Nat.le_refl _) rfl⟩
    rw [hc, if_neg h0]; rfl

theorem rl_iA (xs : List Int) : A.rlL (xs.map iA) = [] := by
  induction xs with
  | nil => rfl
  | cons x l ih => exact ih

theorem levels_out0 (xs : List Int) (more m n : Int) (h : 100 ≤ xs.length) : Pure PP LL 6 [.sl 3 (xs.map iA), iA more, iA m, iA n] (.bool true) := by
  intro hp nx
  have hrl : A.rlL (xs.map iA) = [] := rl_iA xs
  refine callD_pure LL_ok Tryz.func6 (by rfl) rfl (by simp [Tryz.f6]) (by show A.rlL (xs.map iA) ++ [] = []; rw [hrl]; rfl) (rs := [.bool true]) (fin (f := 6) (fn := Tryz.f6) rfl rfl ?_) (by rfl) (by simp [A.isTup])
  refine RK_reg ?_
  refine wpo_r rfl (by first | exact trivial | exact rfl | exact ⟨rfl, rfl⟩ | exact ⟨rfl, by omega, by omega, rfl⟩ | exact ⟨by omega, by omega, rfl⟩ | exact ⟨rfl, rfl, rfl, rfl, rfl, fun h => nomatch h⟩ | omega | decide) rfl ?_
  refine wpo_nil ?_
  refine RK_reg ?_
  refine wpo_c rfl rfl (by repeat (first | refine List.forall_mem_cons.2 ⟨rfl, ?_⟩ | exact List.forall_mem_nil _)) (awake_con _ _) rfl ?_
  refine wpo_r rfl (by first | exact trivial | exact rfl | exact ⟨rfl, rfl⟩ | exact ⟨rfl, by omega, by omega, rfl⟩ | exact ⟨by omega, by omega, rfl⟩ | exact ⟨rfl, rfl, rfl, rfl, rfl, fun h => nomatch h⟩ | omega | decide) rfl ?_
  refine wpo_nil ?_
  refine RK_seqx ?_
  refine RK_reg ?_
  refine wpo_r rfl (by first | exact trivial | exact rfl | exact ⟨rfl, rfl⟩ | exact ⟨rfl, by omega, by omega, rfl⟩ | exact ⟨by omega, by omega, rfl⟩ | exact ⟨rfl, rfl, rfl, rfl, rfl, fun h => nomatch h⟩ | omega | decide) rfl ?_
  refine wpo_r rfl (by first | exact trivial | exact rfl | exact ⟨rfl, rfl⟩ | exact ⟨rfl, by omega, by omega, rfl⟩ | exact ⟨by omega, by omega, rfl⟩ | exact ⟨rfl, rfl, rfl, rfl, rfl, fun h => nomatch h⟩ | omega | decide) rfl ?_
  refine wpo_r rfl (by first | exact trivial | exact rfl | exact ⟨rfl, rfl⟩ | exact ⟨rfl, by omega, by omega, rfl⟩ | exact ⟨by omega, by omega, rfl⟩ | exact ⟨rfl, rfl, rfl, rfl, rfl, fun h => nomatch h⟩ | omega | decide) rfl ?_
  refine wpo_gr rfl rfl (by first | exact trivial | exact rfl | exact ⟨rfl, rfl⟩ | exact ⟨rfl, by omega, by omega, rfl⟩ | exact ⟨by omega, by omega, rfl⟩ | exact ⟨rfl, rfl, rfl, rfl, rfl, fun h => nomatch h⟩ | omega | decide) rfl ?_
  refine wpo_gr rfl rfl (by first | exact trivial | exact rfl | exact ⟨rfl, rfl⟩ | exact ⟨rfl, by omega, by omega, rfl⟩ | exact ⟨by omega, by omega, rfl⟩ | exact ⟨rfl, rfl, rfl, rfl, rfl, fun h => nomatch h⟩ | omega | decide) (congrArg (fun n : Nat => A.int .i64 (n : Int)) (show (xs.map iA).length = xs.length from List.length_map ..)) ?_
  refine wpo_gr rfl rfl (by first | exact trivial | exact rfl | exact ⟨rfl, rfl⟩ | exact ⟨rfl, by omega, by omega, rfl⟩ | exact ⟨by omega, by omega, rfl⟩ | exact ⟨rfl, rfl, rfl, rfl, rfl, fun h => nomatch h⟩ | omega | decide) (congrArg A.bool (decide_eq_true (by omega))) ?_
  refine wpo_r rfl (by first | exact trivial | exact rfl | exact ⟨rfl, rfl⟩ | exact ⟨rfl, by omega, by omega, rfl⟩ | exact ⟨by omega, by omega, rfl⟩ | exact ⟨rfl, rfl, rfl, rfl, rfl, fun h => nomatch h⟩ | omega | decide) rfl ?_
  refine wpo_r rfl (by first | exact trivial | exact rfl | exact ⟨rfl, rfl⟩ | exact ⟨rfl, by omega, by omega, rfl⟩ | exact ⟨by omega, by omega, rfl⟩ | exact ⟨rfl, rfl, rfl, rfl, rfl, fun h => nomatch h⟩ | omega | decide) rfl ?_
  refine wpo_sk rfl ?_
  refine wpo_sk rfl ?_
  refine wpo_sk rfl ?_
  refine wpo_r rfl (by first | exact trivial | exact rfl | exact ⟨rfl, rfl⟩ | exact ⟨rfl, by omega, by omega, rfl⟩ | exact ⟨by omega, by omega, rfl⟩ | exact ⟨rfl, rfl, rfl, rfl, rfl, fun h => nomatch h⟩ | omega | decide) rfl ?_
  refine wpo_nil ?_
  refine RK_ct rfl rfl ?_
  refine RK_reg ?_
  refine wpo_r rfl (by first | exact trivial | exact rfl | exact ⟨rfl, rfl⟩ | exact ⟨rfl, by omega, by omega, rfl⟩ | exact ⟨by omega, by omega, rfl⟩ | exact ⟨rfl, rfl, rfl, rfl, rfl, fun h => nomatch h⟩ | omega | decide) rfl ?_
  refine wpo_r rfl (by first | exact trivial | exact rfl | exact ⟨rfl, rfl⟩ | exact ⟨rfl, by omega, by omega, rfl⟩ | exact ⟨by omega, by omega, rfl⟩ | exact ⟨rfl, rfl, rfl, rfl, rfl, fun h => nomatch h⟩ | omega | decide) rfl ?_
  refine wpo_nil ?_
  exact RK_ret (.inr ⟨by simp, .inl rfl, _, rfl, trivial, trivial⟩)

theorem levels_out1 (xs : List Int) (more m n : Int) (h : xs.length < 100) (h2 : n < m) : Pure PP LL 6 [.sl 3 (xs.map iA), iA more, iA m, iA n] (.bool true) := by
  intro hp nx
  have hrl : A.rlL (xs.map iA) = [] := rl_iA xs
  refine callD_pure LL_ok Tryz.func6 (by rfl) rfl (by simp [Tryz.f6]) (by show A.rlL (xs.map iA) ++ [] = []; rw [hrl]; rfl) (rs := [.bool true]) (fin (f := 6) (fn := Tryz.f6) rfl rfl ?_) (by rfl) (by simp [A.isTup])
  refine RK_reg ?_
  refine wpo_r rfl (by first | exact trivial | exact rfl | exact ⟨rfl, rfl⟩ | exact ⟨rfl, by omega, by omega, rfl⟩ | exact ⟨by omega, by omega, rfl⟩ | exact ⟨rfl, rfl, rfl, rfl, rfl, fun h => nomatch h⟩ | omega | decide) rfl ?_
  refine wpo_nil ?_
  refine RK_reg ?_
  refine wpo_c rfl rfl (by repeat (first | refine List.forall_mem_cons.2 ⟨rfl, ?_⟩ | exact List.forall_mem_nil _)) (awake_con _ _) rfl ?_
  refine wpo_r rfl (by first | exact trivial | exact rfl | exact ⟨rfl, rfl⟩ | exact ⟨rfl, by omega, by omega, rfl⟩ | exact ⟨by omega, by omega, rfl⟩ | exact ⟨rfl, rfl, rfl, rfl, rfl, fun h => nomatch h⟩ | omega | decide) rfl ?_
  refine wpo_nil ?_
  refine RK_seqx ?_
  refine RK_reg ?_
  refine wpo_r rfl (by first | exact trivial | exact rfl | exact ⟨rfl, rfl⟩ | exact ⟨rfl, by omega, by omega, rfl⟩ | exact ⟨by omega, by omega, rfl⟩ | exact ⟨rfl, rfl, rfl, rfl, rfl, fun h => nomatch h⟩ | omega | decide) rfl ?_
  refine wpo_r rfl (by first | exact trivial | exact rfl | exact ⟨rfl, rfl⟩ | exact ⟨rfl, by omega, by omega, rfl⟩ | exact ⟨by omega, by omega, rfl⟩ | exact ⟨rfl, rfl, rfl, rfl, rfl, fun h => nomatch h⟩ | omega | decide) rfl ?_
  refine wpo_r rfl (by first | exact trivial | exact rfl | exact ⟨rfl, rfl⟩ | exact ⟨rfl, by omega, by omega, rfl⟩ | exact ⟨by omega, by omega, rfl⟩ | exact ⟨rfl, rfl, rfl, rfl, rfl, fun h => nomatch h⟩ | omega | decide) rfl ?_
  refine wpo_gr rfl rfl (by first | exact trivial | exact rfl | exact ⟨rfl, rfl⟩ | exact ⟨rfl, by omega, by omega, rfl⟩ | exact ⟨by omega, by omega, rfl⟩ | exact ⟨rfl, rfl, rfl, rfl, rfl, fun h => nomatch h⟩ | omega | decide) rfl ?_
  refine wpo_gr rfl rfl (by first | exact trivial | exact rfl | exact ⟨rfl, rfl⟩ | exact ⟨rfl, by omega, by omega, rfl⟩ | exact ⟨by omega, by omega, rfl⟩ | exact ⟨rfl, rfl, rfl, rfl, rfl, fun h => nomatch h⟩ | omega | decide) (congrArg (fun n : Nat => A.int .i64 (n : Int)) (show (xs.map iA).length = xs.length from List.length_map ..)) ?_
  refine wpo_gr rfl rfl (by first | exact trivial | exact rfl | exact ⟨rfl, rfl⟩ | exact ⟨rfl, by omega, by omega, rfl⟩ | exact ⟨by omega, by omega, rfl⟩ | exact ⟨rfl, rfl, rfl, rfl, rfl, fun h => nomatch h⟩ | omega | decide) (congrArg A.bool (decide_eq_false (by omega))) ?_
  refine wpo_r rfl (by first | exact trivial | exact rfl | exact ⟨rfl, rfl⟩ | exact ⟨rfl, by omega, by omega, rfl⟩ | exact ⟨by omega, by omega, rfl⟩ | exact ⟨rfl, rfl, rfl, rfl, rfl, fun h => nomatch h⟩ | omega | decide) rfl ?_
  refine wpo_r rfl (by first | exact trivial | exact rfl | exact ⟨rfl, rfl⟩ | exact ⟨rfl, by omega, by omega, rfl⟩ | exact ⟨by omega, by omega, rfl⟩ | exact ⟨rfl, rfl, rfl, rfl, rfl, fun h => nomatch h⟩ | omega | decide) rfl ?_
  refine wpo_gr rfl rfl (by first | exact trivial | exact rfl | exact ⟨rfl, rfl⟩ | exact ⟨rfl, by omega, by omega, rfl⟩ | exact ⟨by omega, by omega, rfl⟩ | exact ⟨rfl, rfl, rfl, rfl, rfl, fun h => nomatch h⟩ | omega | decide) rfl ?_
  refine wpo_gr rfl rfl (by first | exact trivial | exact rfl | exact ⟨rfl, rfl⟩ | exact ⟨rfl, by omega, by omega, rfl⟩ | exact ⟨by omega, by omega, rfl⟩ | exact ⟨rfl, rfl, rfl, rfl, rfl, fun h => nomatch h⟩ | omega | decide) rfl ?_
  refine wpo_gr rfl rfl (by first | exact trivial | exact rfl | exact ⟨rfl, rfl⟩ | exact ⟨rfl, by omega, by omega, rfl⟩ | exact ⟨by omega, by omega, rfl⟩ | exact ⟨rfl, rfl, rfl, rfl, rfl, fun h => nomatch h⟩ | omega | decide) (congrArg A.bool (decide_eq_true (by omega))) ?_
  refine wpo_r rfl (by first | exact trivial | exact rfl | exact ⟨rfl, rfl⟩ | exact ⟨rfl, by omega, by omega, rfl⟩ | exact ⟨by omega, by omega, rfl⟩ | exact ⟨rfl, rfl, rfl, rfl, rfl, fun h => nomatch h⟩ | omega | decide) rfl ?_
  refine wpo_nil ?_
  refine RK_ct rfl rfl ?_
  refine RK_reg ?_
  refine wpo_r rfl (by first | exact trivial | exact rfl | exact ⟨rfl, rfl⟩ | exact ⟨rfl, by omega, by omega, rfl⟩ | exact ⟨by omega, by omega, rfl⟩ | exact ⟨rfl, rfl, rfl, rfl, rfl, fun h => nomatch h⟩ | omega | decide) rfl ?_
  refine wpo_r rfl (by first | exact trivial | exact rfl | exact ⟨rfl, rfl⟩ | exact ⟨rfl, by omega, by omega, rfl⟩ | exact ⟨by omega, by omega, rfl⟩ | exact ⟨rfl, rfl, rfl, rfl, rfl, fun h => nomatch h⟩ | omega | decide) rfl ?_
  refine wpo_nil ?_
  exact RK_ret (.inr ⟨by simp, .inl rfl, _, rfl, trivial, trivial⟩)

theorem levels_in (xs : List Int) (more m n : Int) (h : xs.length < 100) (h2 : m ≤ n) (hr : ∀ x ∈ xs, -9223372036854775808 ≤ x) (hmr : -9223372036854775808 ≤ more) : Pure PP LL 6 [.sl 3 (xs.map iA), iA more, iA m, iA n] (.bool true) := by
  intro hp nx
  have hrl : A.rlL (xs.map iA) = [] := rl_iA xs
  refine callD_pure LL_ok Tryz.func6 (by rfl) rfl (by simp [Tryz.f6]) (by show A.rlL (xs.map iA) ++ [] = []; rw [hrl]; rfl) (rs := [.bool true]) (fin (f := 6) (fn := Tryz.f6) rfl rfl ?_) (by rfl) (by simp [A.isTup])
  refine RK_reg ?_
  refine wpo_r rfl (by first | exact trivial | exact rfl | exact ⟨rfl, rfl⟩ | exact ⟨rfl, by omega, by omega, rfl⟩ | exact ⟨by omega, by omega, rfl⟩ | exact ⟨rfl, rfl, rfl, rfl, rfl, fun h => nomatch h⟩ | omega | decide) rfl ?_
  refine wpo_nil ?_
  refine RK_reg ?_
  refine wpo_c rfl rfl (by repeat (first | refine List.forall_mem_cons.2 ⟨rfl, ?_⟩ | exact List.forall_mem_nil _)) (awake_con _ _) rfl ?_
  refine wpo_r rfl (by first | exact trivial | exact rfl | exact ⟨rfl, rfl⟩ | exact ⟨rfl, by omega, by omega, rfl⟩ | exact ⟨by omega, by omega, rfl⟩ | exact ⟨rfl, rfl, rfl, rfl, rfl, fun h => nomatch h⟩ | omega | decide) rfl ?_
  refine wpo_nil ?_
  refine RK_seqx ?_
  refine RK_reg ?_
  refine wpo_r rfl (by first | exact trivial | exact rfl | exact ⟨rfl, rfl⟩ | exact ⟨rfl, by omega, by omega, rfl⟩ | exact ⟨by omega, by omega, rfl⟩ | exact ⟨rfl, rfl, rfl, rfl, rfl, fun h => nomatch h⟩ | omega | decide) rfl ?_
  refine wpo_r rfl (by first | exact trivial | exact rfl | exact ⟨rfl, rfl⟩ | exact ⟨rfl, by omega, by omega, rfl⟩ | exact ⟨by omega, by omega, rfl⟩ | exact ⟨rfl, rfl, rfl, rfl, rfl, fun h => nomatch h⟩ | omega | decide) rfl ?_
  refine wpo_r rfl (by first | exact trivial | exact rfl | exact ⟨rfl, rfl⟩ | exact ⟨rfl, by omega, by omega, rfl⟩ | exact ⟨by omega, by omega, rfl⟩ | exact ⟨rfl, rfl, rfl, rfl, rfl, fun h => nomatch h⟩ | omega | decide) rfl ?_
  refine wpo_gr rfl rfl (by first | exact trivial | exact rfl | exact ⟨rfl, rfl⟩ | exact ⟨rfl, by omega, by omega, rfl⟩ | exact ⟨by omega, by omega, rfl⟩ | exact ⟨rfl, rfl, rfl, rfl, rfl, fun h => nomatch h⟩ | omega | decide) rfl ?_
  refine wpo_gr rfl rfl (by first | exact trivial | exact rfl | exact ⟨rfl, rfl⟩ | exact ⟨rfl, by omega, by omega, rfl⟩ | exact ⟨by omega, by omega, rfl⟩ | exact ⟨rfl, rfl, rfl, rfl, rfl, fun h => nomatch h⟩ | omega | decide) (congrArg (fun n : Nat => A.int .i64 (n : Int)) (show (xs.map iA).length = xs.length from List.length_map ..)) ?_
  refine wpo_gr rfl rfl (by first | exact trivial | exact rfl | exact ⟨rfl, rfl⟩ | exact ⟨rfl, by omega, by omega, rfl⟩ | exact ⟨by omega, by omega, rfl⟩ | exact ⟨rfl, rfl, rfl, rfl, rfl, fun h => nomatch h⟩ | omega | decide) (congrArg A.bool (decide_eq_false (by omega))) ?_
  refine wpo_r rfl (by first | exact trivial | exact rfl | exact ⟨rfl, rfl⟩ | exact ⟨rfl, by omega, by omega, rfl⟩ | exact ⟨by omega, by omega, rfl⟩ | exact ⟨rfl, rfl, rfl, rfl, rfl, fun h => nomatch h⟩ | omega | decide) rfl ?_
  refine wpo_r rfl (by first | exact trivial | exact rfl | exact ⟨rfl, rfl⟩ | exact ⟨rfl, by omega, by omega, rfl⟩ | exact ⟨by omega, by omega, rfl⟩ | exact ⟨rfl, rfl, rfl, rfl, rfl, fun h => nomatch h⟩ | omega | decide) rfl ?_
  refine wpo_gr rfl rfl (by first | exact trivial | exact rfl | exact ⟨rfl, rfl⟩ | exact ⟨rfl, by omega, by omega, rfl⟩ | exact ⟨by omega, by omega, rfl⟩ | exact ⟨rfl, rfl, rfl, rfl, rfl, fun h => nomatch h⟩ | omega | decide) rfl ?_
  refine wpo_gr rfl rfl (by first | exact trivial | exact rfl | exact ⟨rfl, rfl⟩ | exact ⟨rfl, by omega, by omega, rfl⟩ | exact ⟨by omega, by omega, rfl⟩ | exact ⟨rfl, rfl, rfl, rfl, rfl, fun h => nomatch h⟩ | omega | decide) rfl ?_
  refine wpo_gr rfl rfl (by first | exact trivial | exact rfl | exact ⟨rfl, rfl⟩ | exact ⟨rfl, by omega, by omega, rfl⟩ | exact ⟨by omega, by omega, rfl⟩ | exact ⟨rfl, rfl, rfl, rfl, rfl, fun h => nomatch h⟩ | omega | decide) (congrArg A.bool (decide_eq_false (by omega))) ?_
  refine wpo_r rfl (by first | exact trivial | exact rfl | exact ⟨rfl, rfl⟩ | exact ⟨rfl, by omega, by omega, rfl⟩ | exact ⟨by omega, by omega, rfl⟩ | exact ⟨rfl, rfl, rfl, rfl, rfl, fun h => nomatch h⟩ | omega | decide) rfl ?_
  refine wpo_nil ?_
  refine RK_cf rfl rfl (RK_skip (.inl ⟨rfl, ?_⟩))
  refine RK_reg ?_
  refine wpo_r rfl (by first | exact trivial | exact rfl | exact ⟨rfl, rfl⟩ | exact ⟨rfl, by omega, by omega, rfl⟩ | exact ⟨by omega, by omega, rfl⟩ | exact ⟨rfl, rfl, rfl, rfl, rfl, fun h => nomatch h⟩ | omega | decide) rfl ?_
  refine wpo_r rfl (by first | exact trivial | exact rfl | exact ⟨rfl, rfl⟩ | exact ⟨rfl, by omega, by omega, rfl⟩ | exact ⟨by omega, by omega, rfl⟩ | exact ⟨rfl, rfl, rfl, rfl, rfl, fun h => nomatch h⟩ | omega | decide) rfl ?_
  refine wpo_c rfl rfl (by repeat (first | refine List.forall_mem_cons.2 ⟨rfl, ?_⟩ | exact List.forall_mem_nil _)) (score_con xs m (by omega) hr _ _) rfl ?_
  refine wpo_r rfl (by first | exact trivial | exact rfl | exact ⟨rfl, rfl⟩ | exact ⟨rfl, by omega, by omega, rfl⟩ | exact ⟨by omega, by omega, rfl⟩ | exact ⟨rfl, rfl, rfl, rfl, rfl, fun h => nomatch h⟩ | omega | decide) rfl ?_
  refine wpo_nil ?_
  refine RK_reg ?_
  refine wpo_r rfl (by first | exact trivial | exact rfl | exact ⟨rfl, rfl⟩ | exact ⟨rfl, by omega, by omega, rfl⟩ | exact ⟨by omega, by omega, rfl⟩ | exact ⟨rfl, rfl, rfl, rfl, rfl, fun h => nomatch h⟩ | omega | decide) ((rfl : _ = A.int .i64 ((cnt (xs.take 0) 0 : Nat) : Int))) ?_
  refine wpo_nil ?_
  refine RK_seq ?_
  refine RK_reg ?_
  refine wpo_r rfl (by first | exact trivial | exact rfl | exact ⟨rfl, rfl⟩ | exact ⟨rfl, by omega, by omega, rfl⟩ | exact ⟨by omega, by omega, rfl⟩ | exact ⟨rfl, rfl, rfl, rfl, rfl, fun h => nomatch h⟩ | omega | decide) rfl ?_
  refine wpo_nil ?_
  refine RK_for (ctS xs more m n) xs.length (le_st ⟨rfl, rfl, rfl, rfl, rfl, rfl, rfl, trivial⟩ trivial (Nat.le_refl _) rfl) (ct_body xs (by omega) more m n) ?_ ?_
  · refine RK_seqx ?_
    refine RK_reg ?_
    refine wpo_r rfl (by first | exact trivial | exact rfl | exact ⟨rfl, rfl⟩ | exact ⟨rfl, by omega, by omega, rfl⟩ | exact ⟨by omega, by omega, rfl⟩ | exact ⟨rfl, rfl, rfl, rfl, rfl, fun h => nomatch h⟩ | omega | decide) rfl ?_
    refine wpo_r rfl (by first | exact trivial | exact rfl | exact ⟨rfl, rfl⟩ | exact ⟨rfl, by omega, by omega, rfl⟩ | exact ⟨by omega, by omega, rfl⟩ | exact ⟨rfl, rfl, rfl, rfl, rfl, fun h => nomatch h⟩ | omega | decide) rfl ?_
    refine wpo_r rfl (by first | exact trivial | exact rfl | exact ⟨rfl, rfl⟩ | exact ⟨rfl, by omega, by omega, rfl⟩ | exact ⟨by omega, by omega, rfl⟩ | exact ⟨rfl, rfl, rfl, rfl, rfl, fun h => nomatch h⟩ | omega | decide) (congrArg (fun n : Nat => A.int .i64 (n : Int)) (show (xs.map iA).length = xs.length from List.length_map ..)) ?_
    refine wpo_r rfl (by first | exact trivial | exact rfl | exact ⟨rfl, rfl⟩ | exact ⟨rfl, by omega, by omega, rfl⟩ | exact ⟨by omega, by omega, rfl⟩ | exact ⟨rfl, rfl, rfl, rfl, rfl, fun h => nomatch h⟩ | omega | decide) rfl ?_
    refine wpo_nil ?_
    exact RK_cf rfl (decide_eq_false (by omega)) (RK_exit (.inr ⟨by simp, rfl, le_st ⟨rfl, rfl, rfl, rfl, rfl, rfl, rfl, trivial⟩ trivial (Nat.le_refl _) rfl⟩))
  intro t1 ht1
  refine ⟨rfl, RK_weak ?_ ht1⟩
  have e1 : ctS xs more m n xs.length = stL [(0, .sl 3 (xs.map iA)), (1, iA more), (2, iA m), (3, iA n), (10, iA (scoreN xs m)), (11, .int .i64 (cnt xs 0 : Int)), (12, .int .i64 (xs.length : Int))] [] 0 := by
    unfold ctS ctT; rw [List.take_length]
  rw [e1]
  refine RK_reg ?_
  refine wpo_r rfl (by first | exact trivial | exact rfl | exact ⟨rfl, rfl⟩ | exact ⟨rfl, by omega, by omega, rfl⟩ | exact ⟨by omega, by omega, rfl⟩ | exact ⟨rfl, rfl, rfl, rfl, rfl, fun h => nomatch h⟩ | omega | decide) rfl ?_
  refine wpo_w rfl ⟨trivial, fun x hx => by obtain ⟨n, _, rfl⟩ := List.mem_map.1 hx; rfl, by show (xs.map iA).length * 8 ≤ maxBytes; rw [List.length_map]; unfold maxBytes; omega⟩ ?_
  refine wpo_r rfl (by first | exact trivial | exact rfl | exact ⟨rfl, rfl⟩ | exact ⟨rfl, by omega, by omega, rfl⟩ | exact ⟨by omega, by omega, rfl⟩ | exact ⟨rfl, rfl, rfl, rfl, rfl, fun h => nomatch h⟩ | omega | decide) rfl ?_
  refine wpo_w rfl ⟨⟨trivial, rfl, rfl⟩, by decide, by decide, by decide⟩ ?_
  refine SW_own (t := 47) (ob := 1) (xs := [iA more]) rfl rfl rfl rfl (Nat.le_refl _) rfl ?_
  have hel : (elems ⟨0, false, some 3, .st (xs.map iA)⟩).length = xs.length := List.length_map ..
  have hel2 : (xs.map iA).length = xs.length := List.length_map ..
  refine wpo_ws (opv_grow rfl rfl rfl rfl rfl rfl (by show ¬ 0 + (xs.map iA).length + 1 ≤ (xs.map iA).length; omega)) ⟨trivial, rfl, rfl, rfl, rfl, Nat.le_refl _, fun x hx => by rw [List.mem_singleton.1 hx]; rfl, by show ((xs.map iA).length + 1) * 8 ≤ maxBytes; unfold maxBytes; omega⟩
    (v' := .own 0 1 0 (xs.length + 1)) (by show A.own 0 1 0 ((xs.map iA).length + 1) = _; rw [hel2]) (b' := ⟨1, false, some 3, .st ((xs ++ [more]).map iA)⟩) (congrArg (fun l => Ob.mk 1 false (some 3) (.st l)) (by
      show (xs.map iA).take (xs.map iA).length ++ [iA more] = _
      rw [List.take_length, List.map_append]; rfl)) ?_
  refine wpo_r rfl (by first | exact trivial | exact rfl | exact ⟨rfl, rfl⟩ | exact ⟨rfl, by omega, by omega, rfl⟩ | exact ⟨by omega, by omega, rfl⟩ | exact ⟨rfl, rfl, rfl, rfl, rfl, fun h => nomatch h⟩ | omega | decide) rfl ?_
  refine SW_own (t := 48) (ob := 0) (xs := (xs ++ [more]).map iA) rfl rfl rfl rfl (by show 0 + (xs.length + 1) ≤ ((xs ++ [more]).map iA).length; simp) (by show (((xs ++ [more]).map iA).drop 0).take (xs.length + 1) = _; rw [List.drop_zero, List.take_of_length_le (by simp)]) ?_
  refine wpo_c rfl rfl (by repeat (first | refine List.forall_mem_cons.2 ⟨rfl, ?_⟩ | exact List.forall_mem_nil _)) (score_con (xs ++ [more]) m (by simp; omega) (fun x hx => (List.mem_append.1 hx).elim (hr x) (fun h => by rw [List.mem_singleton.1 h]; exact hmr)) _ _) rfl ?_
  refine wpo_r rfl (by first | exact trivial | exact rfl | exact ⟨rfl, rfl⟩ | exact ⟨rfl, by omega, by omega, rfl⟩ | exact ⟨by omega, by omega, rfl⟩ | exact ⟨rfl, rfl, rfl, rfl, rfl, fun h => nomatch h⟩ | omega | decide) rfl ?_
  refine wpo_nil ?_
  refine RK_reg ?_
  have q1 := score_ge xs m
  have q2 := score_le xs m (by omega)
  have q3 := score_more xs more m
  have q4 := score_anti xs h2
  refine wpo_r rfl (by first | exact trivial | exact rfl | exact ⟨rfl, rfl⟩ | exact ⟨rfl, by omega, by omega, rfl⟩ | exact ⟨by omega, by omega, rfl⟩ | exact ⟨rfl, rfl, rfl, rfl, rfl, fun h => nomatch h⟩ | omega | decide) rfl ?_
  refine wpo_r rfl (by first | exact trivial | exact rfl | exact ⟨rfl, rfl⟩ | exact ⟨rfl, by omega, by omega, rfl⟩ | exact ⟨by omega, by omega, rfl⟩ | exact ⟨rfl, rfl, rfl, rfl, rfl, fun h => nomatch h⟩ | omega | decide) rfl ?_
  refine wpo_r rfl (by first | exact trivial | exact rfl | exact ⟨rfl, rfl⟩ | exact ⟨rfl, by omega, by omega, rfl⟩ | exact ⟨by omega, by omega, rfl⟩ | exact ⟨rfl, rfl, rfl, rfl, rfl, fun h => nomatch h⟩ | omega | decide) (congrArg A.bool (decide_eq_true (show ((scoreN xs m : Nat) : Int) ≥ (cnt xs 0 : Nat) by omega))) ?_
  refine wpo_r rfl (by first | exact trivial | exact rfl | exact ⟨rfl, rfl⟩ | exact ⟨rfl, by omega, by omega, rfl⟩ | exact ⟨by omega, by omega, rfl⟩ | exact ⟨rfl, rfl, rfl, rfl, rfl, fun h => nomatch h⟩ | omega | decide) rfl ?_
  refine wpo_gr rfl rfl (by first | exact trivial | exact rfl | exact ⟨rfl, rfl⟩ | exact ⟨rfl, by omega, by omega, rfl⟩ | exact ⟨by omega, by omega, rfl⟩ | exact ⟨rfl, rfl, rfl, rfl, rfl, fun h => nomatch h⟩ | omega | decide) rfl ?_
  refine wpo_gr rfl rfl (by first | exact trivial | exact rfl | exact ⟨rfl, rfl⟩ | exact ⟨rfl, by omega, by omega, rfl⟩ | exact ⟨by omega, by omega, rfl⟩ | exact ⟨rfl, rfl, rfl, rfl, rfl, fun h => nomatch h⟩ | omega | decide) (congrArg A.bool (decide_eq_true (show ((scoreN xs m : Nat) : Int) ≤ 214748364800 by omega))) ?_
  refine wpo_r rfl (by first | exact trivial | exact rfl | exact ⟨rfl, rfl⟩ | exact ⟨rfl, by omega, by omega, rfl⟩ | exact ⟨by omega, by omega, rfl⟩ | exact ⟨rfl, rfl, rfl, rfl, rfl, fun h => nomatch h⟩ | omega | decide) rfl ?_
  refine wpo_r rfl (by first | exact trivial | exact rfl | exact ⟨rfl, rfl⟩ | exact ⟨rfl, by omega, by omega, rfl⟩ | exact ⟨by omega, by omega, rfl⟩ | exact ⟨rfl, rfl, rfl, rfl, rfl, fun h => nomatch h⟩ | omega | decide) rfl ?_
  refine wpo_gr rfl rfl (by first | exact trivial | exact rfl | exact ⟨rfl, rfl⟩ | exact ⟨rfl, by omega, by omega, rfl⟩ | exact ⟨by omega, by omega, rfl⟩ | exact ⟨rfl, rfl, rfl, rfl, rfl, fun h => nomatch h⟩ | omega | decide) rfl ?_
  refine wpo_gr rfl rfl (by first | exact trivial | exact rfl | exact ⟨rfl, rfl⟩ | exact ⟨rfl, by omega, by omega, rfl⟩ | exact ⟨by omega, by omega, rfl⟩ | exact ⟨rfl, rfl, rfl, rfl, rfl, fun h => nomatch h⟩ | omega | decide) rfl ?_
  refine wpo_gr rfl rfl (by first | exact trivial | exact rfl | exact ⟨rfl, rfl⟩ | exact ⟨rfl, by omega, by omega, rfl⟩ | exact ⟨by omega, by omega, rfl⟩ | exact ⟨rfl, rfl, rfl, rfl, rfl, fun h => nomatch h⟩ | omega | decide) (congrArg A.bool (decide_eq_true (show ((scoreN (xs ++ [more]) m : Nat) : Int) ≥ (scoreN xs m : Nat) by omega))) ?_
  refine wpo_r rfl (by first | exact trivial | exact rfl | exact ⟨rfl, rfl⟩ | exact ⟨rfl, by omega, by omega, rfl⟩ | exact ⟨by omega, by omega, rfl⟩ | exact ⟨rfl, rfl, rfl, rfl, rfl, fun h => nomatch h⟩ | omega | decide) rfl ?_
  refine wpo_r rfl (by first | exact trivial | exact rfl | exact ⟨rfl, rfl⟩ | exact ⟨rfl, by omega, by omega, rfl⟩ | exact ⟨by omega, by omega, rfl⟩ | exact ⟨rfl, rfl, rfl, rfl, rfl, fun h => nomatch h⟩ | omega | decide) rfl ?_
  refine wpo_gr rfl rfl (by first | exact trivial | exact rfl | exact ⟨rfl, rfl⟩ | exact ⟨rfl, by omega, by omega, rfl⟩ | exact ⟨by omega, by omega, rfl⟩ | exact ⟨rfl, rfl, rfl, rfl, rfl, fun h => nomatch h⟩ | omega | decide) rfl ?_
  refine wpo_gr rfl rfl (by first | exact trivial | exact rfl | exact ⟨rfl, rfl⟩ | exact ⟨rfl, by omega, by omega, rfl⟩ | exact ⟨by omega, by omega, rfl⟩ | exact ⟨rfl, rfl, rfl, rfl, rfl, fun h => nomatch h⟩ | omega | decide) rfl ?_
  refine wpo_cg rfl rfl rfl (by repeat (first | refine List.forall_mem_cons.2 ⟨rfl, ?_⟩ | exact List.forall_mem_nil _)) (score_con xs n (by omega) hr _ _) rfl ?_
  refine wpo_gr rfl rfl (by first | exact trivial | exact rfl | exact ⟨rfl, rfl⟩ | exact ⟨rfl, by omega, by omega, rfl⟩ | exact ⟨by omega, by omega, rfl⟩ | exact ⟨rfl, rfl, rfl, rfl, rfl, fun h => nomatch h⟩ | omega | decide) rfl ?_
  refine wpo_gr rfl rfl (by first | exact trivial | exact rfl | exact ⟨rfl, rfl⟩ | exact ⟨rfl, by omega, by omega, rfl⟩ | exact ⟨by omega, by omega, rfl⟩ | exact ⟨rfl, rfl, rfl, rfl, rfl, fun h => nomatch h⟩ | omega | decide) (congrArg A.bool (decide_eq_true (show ((scoreN xs n : Nat) : Int) ≤ (scoreN xs m : Nat) by omega))) ?_
  refine wpo_r rfl (by first | exact trivial | exact rfl | exact ⟨rfl, rfl⟩ | exact ⟨rfl, by omega, by omega, rfl⟩ | exact ⟨by omega, by omega, rfl⟩ | exact ⟨rfl, rfl, rfl, rfl, rfl, fun h => nomatch h⟩ | omega | decide) rfl ?_
  refine wpo_r rfl (by first | exact trivial | exact rfl | exact ⟨rfl, rfl⟩ | exact ⟨rfl, by omega, by omega, rfl⟩ | exact ⟨by omega, by omega, rfl⟩ | exact ⟨rfl, rfl, rfl, rfl, rfl, fun h => nomatch h⟩ | omega | decide) rfl ?_
  refine wpo_nil ?_
  exact RK_ret ⟨.inl rfl, _, rfl, trivial, trivial⟩

theorem levels_nil_out (more m n : Int) (h2 : n < m) : Pure PP LL 6 [.nilsl, iA more, iA m, iA n] (.bool true) := by
  intro hp nx
  refine callD_pure LL_ok Tryz.func6 (by rfl) rfl (by simp [Tryz.f6]) (by rfl) (rs := [.bool true]) (fin (f := 6) (fn := Tryz.f6) rfl rfl ?_) (by rfl) (by simp [A.isTup])
  refine RK_reg ?_
  refine wpo_r rfl (by first | exact trivial | exact rfl | exact ⟨rfl, rfl⟩ | exact ⟨rfl, by omega, by omega, rfl⟩ | exact ⟨by omega, by omega, rfl⟩ | exact ⟨rfl, rfl, rfl, rfl, rfl, fun h => nomatch h⟩ | omega | decide) rfl ?_
  refine wpo_nil ?_
  refine RK_reg ?_
  refine wpo_c rfl rfl (by repeat (first | refine List.forall_mem_cons.2 ⟨rfl, ?_⟩ | exact List.forall_mem_nil _)) (awake_con _ _) rfl ?_
  refine wpo_r rfl (by first | exact trivial | exact rfl | exact ⟨rfl, rfl⟩ | exact ⟨rfl, by omega, by omega, rfl⟩ | exact ⟨by omega, by omega, rfl⟩ | exact ⟨rfl, rfl, rfl, rfl, rfl, fun h => nomatch h⟩ | omega | decide) rfl ?_
  refine wpo_nil ?_
  refine RK_seqx ?_
  refine RK_reg ?_
  refine wpo_r rfl (by first | exact trivial | exact rfl | exact ⟨rfl, rfl⟩ | exact ⟨rfl, by omega, by omega, rfl⟩ | exact ⟨by omega, by omega, rfl⟩ | exact ⟨rfl, rfl, rfl, rfl, rfl, fun h => nomatch h⟩ | omega | decide) rfl ?_
  refine wpo_r rfl (by first | exact trivial | exact rfl | exact ⟨rfl, rfl⟩ | exact ⟨rfl, by omega, by omega, rfl⟩ | exact ⟨by omega, by omega, rfl⟩ | exact ⟨rfl, rfl, rfl, rfl, rfl, fun h => nomatch h⟩ | omega | decide) rfl ?_
  refine wpo_r rfl (by first | exact trivial | exact rfl | exact ⟨rfl, rfl⟩ | exact ⟨rfl, by omega, by omega, rfl⟩ | exact ⟨by omega, by omega, rfl⟩ | exact ⟨rfl, rfl, rfl, rfl, rfl, fun h => nomatch h⟩ | omega | decide) rfl ?_
  refine wpo_gr rfl rfl (by first | exact trivial | exact rfl | exact ⟨rfl, rfl⟩ | exact ⟨rfl, by omega, by omega, rfl⟩ | exact ⟨by omega, by omega, rfl⟩ | exact ⟨rfl, rfl, rfl, rfl, rfl, fun h => nomatch h⟩ | omega | decide) rfl ?_
  refine wpo_gr rfl rfl (by first | exact trivial | exact rfl | exact ⟨rfl, rfl⟩ | exact ⟨rfl, by omega, by omega, rfl⟩ | exact ⟨by omega, by omega, rfl⟩ | exact ⟨rfl, rfl, rfl, rfl, rfl, fun h => nomatch h⟩ | omega | decide) rfl ?_
  refine wpo_gr rfl rfl (by first | exact trivial | exact rfl | exact ⟨rfl, rfl⟩ | exact ⟨rfl, by omega, by omega, rfl⟩ | exact ⟨by omega, by omega, rfl⟩ | exact ⟨rfl, rfl, rfl, rfl, rfl, fun h => nomatch h⟩ | omega | decide) (congrArg A.bool (decide_eq_false (by decide))) ?_
  refine wpo_r rfl (by first | exact trivial | exact rfl | exact ⟨rfl, rfl⟩ | exact ⟨rfl, by omega, by omega, rfl⟩ | exact ⟨by omega, by omega, rfl⟩ | exact ⟨rfl, rfl, rfl, rfl, rfl, fun h => nomatch h⟩ | omega | decide) rfl ?_
  refine wpo_r rfl (by first | exact trivial | exact rfl | exact ⟨rfl, rfl⟩ | exact ⟨rfl, by omega, by omega, rfl⟩ | exact ⟨by omega, by omega, rfl⟩ | exact ⟨rfl, rfl, rfl, rfl, rfl, fun h => nomatch h⟩ | omega | decide) rfl ?_
  refine wpo_gr rfl rfl (by first | exact trivial | exact rfl | exact ⟨rfl, rfl⟩ | exact ⟨rfl, by omega, by omega, rfl⟩ | exact ⟨by omega, by omega, rfl⟩ | exact ⟨rfl, rfl, rfl, rfl, rfl, fun h => nomatch h⟩ | omega | decide) rfl ?_
  refine wpo_gr rfl rfl (by first | exact trivial | exact rfl | exact ⟨rfl, rfl⟩ | exact ⟨rfl, by omega, by omega, rfl⟩ | exact ⟨by omega, by omega, rfl⟩ | exact ⟨rfl, rfl, rfl, rfl, rfl, fun h => nomatch h⟩ | omega | decide) rfl ?_
  refine wpo_gr rfl rfl (by first | exact trivial | exact rfl | exact ⟨rfl, rfl⟩ | exact ⟨rfl, by omega, by omega, rfl⟩ | exact ⟨by omega, by omega, rfl⟩ | exact ⟨rfl, rfl, rfl, rfl, rfl, fun h => nomatch h⟩ | omega | decide) (congrArg A.bool (decide_eq_true (by omega))) ?_
  refine wpo_r rfl (by first | exact trivial | exact rfl | exact ⟨rfl, rfl⟩ | exact ⟨rfl, by omega, by omega, rfl⟩ | exact ⟨by omega, by omega, rfl⟩ | exact ⟨rfl, rfl, rfl, rfl, rfl, fun h => nomatch h⟩ | omega | decide) rfl ?_
  refine wpo_nil ?_
  refine RK_ct rfl rfl ?_
  refine RK_reg ?_
  refine wpo_r rfl (by first | exact trivial | exact rfl | exact ⟨rfl, rfl⟩ | exact ⟨rfl, by omega, by omega, rfl⟩ | exact ⟨by omega, by omega, rfl⟩ | exact ⟨rfl, rfl, rfl, rfl, rfl, fun h => nomatch h⟩ | omega | decide) rfl ?_
  refine wpo_r rfl (by first | exact trivial | exact rfl | exact ⟨rfl, rfl⟩ | exact ⟨rfl, by omega, by omega, rfl⟩ | exact ⟨by omega, by omega, rfl⟩ | exact ⟨rfl, rfl, rfl, rfl, rfl, fun h => nomatch h⟩ | omega | decide) rfl ?_
  refine wpo_nil ?_
  exact RK_ret (.inr ⟨by simp, .inl rfl, _, rfl, trivial, trivial⟩)

theorem levels_nil_in (more m n : Int) (h2 : m ≤ n) (hmr : -9223372036854775808 ≤ more) : Pure PP LL 6 [.nilsl, iA more, iA m, iA n] (.bool true) := by
  intro hp nx
  refine callD_pure LL_ok Tryz.func6 (by rfl) rfl (by simp [Tryz.f6]) (by rfl) (rs := [.bool true]) (fin (f := 6) (fn := Tryz.f6) rfl rfl ?_) (by rfl) (by simp [A.isTup])
  refine RK_reg ?_
  refine wpo_r rfl (by first | exact trivial | exact rfl | exact ⟨rfl, rfl⟩ | exact ⟨rfl, by omega, by omega, rfl⟩ | exact ⟨by omega, by omega, rfl⟩ | exact ⟨rfl, rfl, rfl, rfl, rfl, fun h => nomatch h⟩ | omega | decide) rfl ?_
  refine wpo_nil ?_
  refine RK_reg ?_
  refine wpo_c rfl rfl (by repeat (first | refine List.forall_mem_cons.2 ⟨rfl, ?_⟩ | exact List.forall_mem_nil _)) (awake_con _ _) rfl ?_
  refine wpo_r rfl (by first | exact trivial | exact rfl | exact ⟨rfl, rfl⟩ | exact ⟨rfl, by omega, by omega, rfl⟩ | exact ⟨by omega, by omega, rfl⟩ | exact ⟨rfl, rfl, rfl, rfl, rfl, fun h => nomatch h⟩ | omega | decide) rfl ?_
  refine wpo_nil ?_
  refine RK_seqx ?_
  refine RK_reg ?_
  refine wpo_r rfl (by first | exact trivial | exact rfl | exact ⟨rfl, rfl⟩ | exact ⟨rfl, by omega, by omega, rfl⟩ | exact ⟨by omega, by omega, rfl⟩ | exact ⟨rfl, rfl, rfl, rfl, rfl, fun h => nomatch h⟩ | omega | decide) rfl ?_
  refine wpo_r rfl (by first | exact trivial | exact rfl | exact ⟨rfl, rfl⟩ | exact ⟨rfl, by omega, by omega, rfl⟩ | exact ⟨by omega, by omega, rfl⟩ | exact ⟨rfl, rfl, rfl, rfl, rfl, fun h => nomatch h⟩ | omega | decide) rfl ?_
  refine wpo_r rfl (by first | exact trivial | exact rfl | exact ⟨rfl, rfl⟩ | exact ⟨rfl, by omega, by omega, rfl⟩ | exact ⟨by omega, by omega, rfl⟩ | exact ⟨rfl, rfl, rfl, rfl, rfl, fun h => nomatch h⟩ | omega | decide) rfl ?_
  refine wpo_gr rfl rfl (by first | exact trivial | exact rfl | exact ⟨rfl, rfl⟩ | exact ⟨rfl, by omega, by omega, rfl⟩ | exact ⟨by omega, by omega, rfl⟩ | exact ⟨rfl, rfl, rfl, rfl, rfl, fun h => nomatch h⟩ | omega | decide) rfl ?_
  refine wpo_gr rfl rfl (by first | exact trivial | exact rfl | exact ⟨rfl, rfl⟩ | exact ⟨rfl, by omega, by omega, rfl⟩ | exact ⟨by omega, by omega, rfl⟩ | exact ⟨rfl, rfl, rfl, rfl, rfl, fun h => nomatch h⟩ | omega | decide) rfl ?_
  refine wpo_gr rfl rfl (by first | exact trivial | exact rfl | exact ⟨rfl, rfl⟩ | exact ⟨rfl, by omega, by omega, rfl⟩ | exact ⟨by omega, by omega, rfl⟩ | exact ⟨rfl, rfl, rfl, rfl, rfl, fun h => nomatch h⟩ | omega | decide) (congrArg A.bool (decide_eq_false (by decide))) ?_
  refine wpo_r rfl (by first | exact trivial | exact rfl | exact ⟨rfl, rfl⟩ | exact ⟨rfl, by omega, by omega, rfl⟩ | exact ⟨by omega, by omega, rfl⟩ | exact ⟨rfl, rfl, rfl, rfl, rfl, fun h => nomatch h⟩ | omega | decide) rfl ?_
  refine wpo_r rfl (by first | exact trivial | exact rfl | exact ⟨rfl, rfl⟩ | exact ⟨rfl, by omega, by omega, rfl⟩ | exact ⟨by omega, by omega, rfl⟩ | exact ⟨rfl, rfl, rfl, rfl, rfl, fun h => nomatch h⟩ | omega | decide) rfl ?_
  refine wpo_gr rfl rfl (by first | exact trivial | exact rfl | exact ⟨rfl, rfl⟩ | exact ⟨rfl, by omega, by omega, rfl⟩ | exact ⟨by omega, by omega, rfl⟩ | exact ⟨rfl, rfl, rfl, rfl, rfl, fun h => nomatch h⟩ | omega | decide) rfl ?_
  refine wpo_gr rfl rfl (by first | exact trivial | exact rfl | exact ⟨rfl, rfl⟩ | exact ⟨rfl, by omega, by omega, rfl⟩ | exact ⟨by omega, by omega, rfl⟩ | exact ⟨rfl, rfl, rfl, rfl, rfl, fun h => nomatch h⟩ | omega | decide) rfl ?_
  refine wpo_gr rfl rfl (by first | exact trivial | exact rfl | exact ⟨rfl, rfl⟩ | exact ⟨rfl, by omega, by omega, rfl⟩ | exact ⟨by omega, by omega, rfl⟩ | exact ⟨rfl, rfl, rfl, rfl, rfl, fun h => nomatch h⟩ | omega | decide) (congrArg A.bool (decide_eq_false (by omega))) ?_
  refine wpo_r rfl (by first | exact trivial | exact rfl | exact ⟨rfl, rfl⟩ | exact ⟨rfl, by omega, by omega, rfl⟩ | exact ⟨by omega, by omega, rfl⟩ | exact ⟨rfl, rfl, rfl, rfl, rfl, fun h => nomatch h⟩ | omega | decide) rfl ?_
  refine wpo_nil ?_
  refine RK_cf rfl rfl (RK_skip (.inl ⟨rfl, ?_⟩))
  refine RK_reg ?_
  refine wpo_r rfl (by first | exact trivial | exact rfl | exact ⟨rfl, rfl⟩ | exact ⟨rfl, by omega, by omega, rfl⟩ | exact ⟨by omega, by omega, rfl⟩ | exact ⟨rfl, rfl, rfl, rfl, rfl, fun h => nomatch h⟩ | omega | decide) rfl ?_
  refine wpo_r rfl (by first | exact trivial | exact rfl | exact ⟨rfl, rfl⟩ | exact ⟨rfl, by omega, by omega, rfl⟩ | exact ⟨by omega, by omega, rfl⟩ | exact ⟨rfl, rfl, rfl, rfl, rfl, fun h => nomatch h⟩ | omega | decide) rfl ?_
  refine wpo_c rfl rfl (by repeat (first | refine List.forall_mem_cons.2 ⟨rfl, ?_⟩ | exact List.forall_mem_nil _)) (score_nil m _ _) rfl ?_
  refine wpo_r rfl (by first | exact trivial | exact rfl | exact ⟨rfl, rfl⟩ | exact ⟨rfl, by omega, by omega, rfl⟩ | exact ⟨by omega, by omega, rfl⟩ | exact ⟨rfl, rfl, rfl, rfl, rfl, fun h => nomatch h⟩ | omega | decide) rfl ?_
  refine wpo_nil ?_
  refine RK_reg ?_
  refine wpo_r rfl (by first | exact trivial | exact rfl | exact ⟨rfl, rfl⟩ | exact ⟨rfl, by omega, by omega, rfl⟩ | exact ⟨by omega, by omega, rfl⟩ | exact ⟨rfl, rfl, rfl, rfl, rfl, fun h => nomatch h⟩ | omega | decide) rfl ?_
  refine wpo_nil ?_
  refine RK_seq ?_
  refine RK_reg ?_
  refine wpo_r rfl (by first | exact trivial | exact rfl | exact ⟨rfl, rfl⟩ | exact ⟨rfl, by omega, by omega, rfl⟩ | exact ⟨by omega, by omega, rfl⟩ | exact ⟨rfl, rfl, rfl, rfl, rfl, fun h => nomatch h⟩ | omega | decide) rfl ?_
  refine wpo_nil ?_
  refine RK_for (fun _ => stL [(0, .nilsl), (1, iA more), (2, iA m), (3, iA n), (10, iA (scoreN [] m)), (11, .int .i64 (cnt [] 0 : Int)), (12, .int .i64 0)] [] 0) 0 (le_st ⟨rfl, rfl, rfl, rfl, rfl, rfl, rfl, trivial⟩ trivial (Nat.le_refl _) rfl) (fun i h => absurd h (Nat.not_lt_zero i)) ?_ ?_
  · refine RK_seqx ?_
    refine RK_reg ?_
    refine wpo_r rfl (by first | exact trivial | exact rfl | exact ⟨rfl, rfl⟩ | exact ⟨rfl, by omega, by omega, rfl⟩ | exact ⟨by omega, by omega, rfl⟩ | exact ⟨rfl, rfl, rfl, rfl, rfl, fun h => nomatch h⟩ | omega | decide) rfl ?_
    refine wpo_r rfl (by first | exact trivial | exact rfl | exact ⟨rfl, rfl⟩ | exact ⟨rfl, by omega, by omega, rfl⟩ | exact ⟨by omega, by omega, rfl⟩ | exact ⟨rfl, rfl, rfl, rfl, rfl, fun h => nomatch h⟩ | omega | decide) rfl ?_
    refine wpo_r rfl (by first | exact trivial | exact rfl | exact ⟨rfl, rfl⟩ | exact ⟨rfl, by omega, by omega, rfl⟩ | exact ⟨by omega, by omega, rfl⟩ | exact ⟨rfl, rfl, rfl, rfl, rfl, fun h => nomatch h⟩ | omega | decide) rfl ?_
    refine wpo_r rfl (by first | exact trivial | exact rfl | exact ⟨rfl, rfl⟩ | exact ⟨rfl, by omega, by omega, rfl⟩ | exact ⟨by omega, by omega, rfl⟩ | exact ⟨rfl, rfl, rfl, rfl, rfl, fun h => nomatch h⟩ | omega | decide) rfl ?_
    refine wpo_nil ?_
    exact RK_cf rfl rfl (RK_exit (.inr ⟨by simp, rfl, le_st ⟨rfl, rfl, rfl, rfl, rfl, rfl, rfl, trivial⟩ trivial (Nat.le_refl _) rfl⟩))
  intro t1 ht1
  refine ⟨rfl, RK_weak ?_ ht1⟩
  refine RK_reg ?_
  refine wpo_r rfl (by first | exact trivial | exact rfl | exact ⟨rfl, rfl⟩ | exact ⟨rfl, by omega, by omega, rfl⟩ | exact ⟨by omega, by omega, rfl⟩ | exact ⟨rfl, rfl, rfl, rfl, rfl, fun h => nomatch h⟩ | omega | decide) rfl ?_
  refine wpo_w rfl ⟨trivial, (fun x hx => nomatch hx), by decide⟩ ?_
  refine wpo_r rfl (by first | exact trivial | exact rfl | exact ⟨rfl, rfl⟩ | exact ⟨rfl, by omega, by omega, rfl⟩ | exact ⟨by omega, by omega, rfl⟩ | exact ⟨rfl, rfl, rfl, rfl, rfl, fun h => nomatch h⟩ | omega | decide) rfl ?_
  refine wpo_w rfl ⟨⟨trivial, rfl, rfl⟩, by decide, by decide, by decide⟩ ?_
  refine SW_own (t := 47) (ob := 1) (xs := [iA more]) rfl rfl rfl rfl (Nat.le_refl _) rfl ?_
  refine wpo_ws (opv_grow rfl rfl rfl rfl rfl rfl (by show ¬ 0 + 0 + 1 ≤ 0; omega)) ⟨trivial, rfl, rfl, rfl, rfl, Nat.le_refl _, fun x hx => by rw [List.mem_singleton.1 hx]; rfl, by show (0 + 1) * 8 ≤ maxBytes; unfold maxBytes; omega⟩
    (v' := .own 0 1 0 1) rfl (b' := ⟨1, false, some 3, .st [iA more]⟩) rfl ?_
  refine wpo_r rfl (by first | exact trivial | exact rfl | exact ⟨rfl, rfl⟩ | exact ⟨rfl, by omega, by omega, rfl⟩ | exact ⟨by omega, by omega, rfl⟩ | exact ⟨rfl, rfl, rfl, rfl, rfl, fun h => nomatch h⟩ | omega | decide) rfl ?_
  refine SW_own (t := 48) (ob := 0) (xs := [more].map iA) rfl rfl rfl rfl (Nat.le_refl _) rfl ?_
  refine wpo_c rfl rfl (by repeat (first | refine List.forall_mem_cons.2 ⟨rfl, ?_⟩ | exact List.forall_mem_nil _)) (score_con [more] m (by simp) (fun x hx => by rw [List.mem_singleton.1 hx]; exact hmr) _ _) rfl ?_
  refine wpo_r rfl (by first | exact trivial | exact rfl | exact ⟨rfl, rfl⟩ | exact ⟨rfl, by omega, by omega, rfl⟩ | exact ⟨by omega, by omega, rfl⟩ | exact ⟨rfl, rfl, rfl, rfl, rfl, fun h => nomatch h⟩ | omega | decide) rfl ?_
  refine wpo_nil ?_
  refine RK_reg ?_
  have q1 := score_ge ([] : List Int) m
  have q2 := score_le ([] : List Int) m (by simp)
  have q3 := score_more ([] : List Int) more m
  have q4 := score_anti ([] : List Int) h2
  refine wpo_r rfl (by first | exact trivial | exact rfl | exact ⟨rfl, rfl⟩ | exact ⟨rfl, by omega, by omega, rfl⟩ | exact ⟨by omega, by omega, rfl⟩ | exact ⟨rfl, rfl, rfl, rfl, rfl, fun h => nomatch h⟩ | omega | decide) rfl ?_
  refine wpo_r rfl (by first | exact trivial | exact rfl | exact ⟨rfl, rfl⟩ | exact ⟨rfl, by omega, by omega, rfl⟩ | exact ⟨by omega, by omega, rfl⟩ | exact ⟨rfl, rfl, rfl, rfl, rfl, fun h => nomatch h⟩ | omega | decide) rfl ?_
  refine wpo_r rfl (by first | exact trivial | exact rfl | exact ⟨rfl, rfl⟩ | exact ⟨rfl, by omega, by omega, rfl⟩ | exact ⟨by omega, by omega, rfl⟩ | exact ⟨rfl, rfl, rfl, rfl, rfl, fun h => nomatch h⟩ | omega | decide) (congrArg A.bool (decide_eq_true (show ((scoreN ([] : List Int) m : Nat) : Int) ≥ (cnt ([] : List Int) 0 : Nat) by omega))) ?_
  refine wpo_r rfl (by first | exact trivial | exact rfl | exact ⟨rfl, rfl⟩ | exact ⟨rfl, by omega, by omega, rfl⟩ | exact ⟨by omega, by omega, rfl⟩ | exact ⟨rfl, rfl, rfl, rfl, rfl, fun h => nomatch h⟩ | omega | decide) rfl ?_
  refine wpo_gr rfl rfl (by first | exact trivial | exact rfl | exact ⟨rfl, rfl⟩ | exact ⟨rfl, by omega, by omega, rfl⟩ | exact ⟨by omega, by omega, rfl⟩ | exact ⟨rfl, rfl, rfl, rfl, rfl, fun h => nomatch h⟩ | omega | decide) rfl ?_
  refine wpo_gr rfl rfl (by first | exact trivial | exact rfl | exact ⟨rfl, rfl⟩ | exact ⟨rfl, by omega, by omega, rfl⟩ | exact ⟨by omega, by omega, rfl⟩ | exact ⟨rfl, rfl, rfl, rfl, rfl, fun h => nomatch h⟩ | omega | decide) (congrArg A.bool (decide_eq_true (show ((scoreN ([] : List Int) m : Nat) : Int) ≤ 214748364800 by omega))) ?_
  refine wpo_r rfl (by first | exact trivial | exact rfl | exact ⟨rfl, rfl⟩ | exact ⟨rfl, by omega, by omega, rfl⟩ | exact ⟨by omega, by omega, rfl⟩ | exact ⟨rfl, rfl, rfl, rfl, rfl, fun h => nomatch h⟩ | omega | decide) rfl ?_
  refine wpo_r rfl (by first | exact trivial | exact rfl | exact ⟨rfl, rfl⟩ | exact ⟨rfl, by omega, by omega, rfl⟩ | exact ⟨by omega, by omega, rfl⟩ | exact ⟨rfl, rfl, rfl, rfl, rfl, fun h => nomatch h⟩ | omega | decide) rfl ?_
  refine wpo_gr rfl rfl (by first | exact trivial | exact rfl | exact ⟨rfl, rfl⟩ | exact ⟨rfl, by omega, by omega, rfl⟩ | exact ⟨by omega, by omega, rfl⟩ | exact ⟨rfl, rfl, rfl, rfl, rfl, fun h => nomatch h⟩ | omega | decide) rfl ?_
  refine wpo_gr rfl rfl (by first | exact trivial | exact rfl | exact ⟨rfl, rfl⟩ | exact ⟨rfl, by omega, by omega, rfl⟩ | exact ⟨by omega, by omega, rfl⟩ | exact ⟨rfl, rfl, rfl, rfl, rfl, fun h => nomatch h⟩ | omega | decide) rfl ?_
  refine wpo_gr rfl rfl (by first | exact trivial | exact rfl | exact ⟨rfl, rfl⟩ | exact ⟨rfl, by omega, by omega, rfl⟩ | exact ⟨by omega, by omega, rfl⟩ | exact ⟨rfl, rfl, rfl, rfl, rfl, fun h => nomatch h⟩ | omega | decide) (congrArg A.bool (decide_eq_true (show ((scoreN (([] : List Int) ++ [more]) m : Nat) : Int) ≥ (scoreN ([] : List Int) m : Nat) by omega))) ?_
  refine wpo_r rfl (by first | exact trivial | exact rfl | exact ⟨rfl, rfl⟩ | exact ⟨rfl, by omega, by omega, rfl⟩ | exact ⟨by omega, by omega, rfl⟩ | exact ⟨rfl, rfl, rfl, rfl, rfl, fun h => nomatch h⟩ | omega | decide) rfl ?_
  refine wpo_r rfl (by first | exact trivial | exact rfl | exact ⟨rfl, rfl⟩ | exact ⟨rfl, by omega, by omega, rfl⟩ | exact ⟨by omega, by omega, rfl⟩ | exact ⟨rfl, rfl, rfl, rfl, rfl, fun h => nomatch h⟩ | omega | decide) rfl ?_
  refine wpo_gr rfl rfl (by first | exact trivial | exact rfl | exact ⟨rfl, rfl⟩ | exact ⟨rfl, by omega, by omega, rfl⟩ | exact ⟨by omega, by omega, rfl⟩ | exact ⟨rfl, rfl, rfl, rfl, rfl, fun h => nomatch h⟩ | omega | decide) rfl ?_
  refine wpo_gr rfl rfl (by first | exact trivial | exact rfl | exact ⟨rfl, rfl⟩ | exact ⟨rfl, by omega, by omega, rfl⟩ | exact ⟨by omega, by omega, rfl⟩ | exact ⟨rfl, rfl, rfl, rfl, rfl, fun h => nomatch h⟩ | omega | decide) rfl ?_
  refine wpo_cg rfl rfl rfl (by repeat (first | refine List.forall_mem_cons.2 ⟨rfl, ?_⟩ | exact List.forall_mem_nil _)) (score_nil n _ _) rfl ?_
  refine wpo_gr rfl rfl (by first | exact trivial | exact rfl | exact ⟨rfl, rfl⟩ | exact ⟨rfl, by omega, by omega, rfl⟩ | exact ⟨by omega, by omega, rfl⟩ | exact ⟨rfl, rfl, rfl, rfl, rfl, fun h => nomatch h⟩ | omega | decide) rfl ?_
  refine wpo_gr rfl rfl (by first | exact trivial | exact rfl | exact ⟨rfl, rfl⟩ | exact ⟨rfl, by omega, by omega, rfl⟩ | exact ⟨by omega, by omega, rfl⟩ | exact ⟨rfl, rfl, rfl, rfl, rfl, fun h => nomatch h⟩ | omega | decide) (congrArg A.bool (decide_eq_true (show ((scoreN ([] : List Int) n : Nat) : Int) ≤ (scoreN ([] : List Int) m : Nat) by omega))) ?_
  refine wpo_r rfl (by first | exact trivial | exact rfl | exact ⟨rfl, rfl⟩ | exact ⟨rfl, by omega, by omega, rfl⟩ | exact ⟨by omega, by omega, rfl⟩ | exact ⟨rfl, rfl, rfl, rfl, rfl, fun h => nomatch h⟩ | omega | decide) rfl ?_
  refine wpo_r rfl (by first | exact trivial | exact rfl | exact ⟨rfl, rfl⟩ | exact ⟨rfl, by omega, by omega, rfl⟩ | exact ⟨by omega, by omega, rfl⟩ | exact ⟨rfl, rfl, rfl, rfl, rfl, fun h => nomatch h⟩ | omega | decide) rfl ?_
  refine wpo_nil ?_
  exact RK_ret ⟨.inl rfl, _, rfl, trivial, trivial⟩

end Go.Ab

