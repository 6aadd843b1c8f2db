/- What the functions come to, each by its own run. -/
import Derived.Test.YtcpadbcapeiicaaGreatCodes
set_option linter.unusedVariables false
set_option linter.unusedSimpArgs false
namespace Go.Proofs.YtcpadbcapeiicaaGreat
open Go Go.Proofs.Am Go.Proofs.Pm

theorem okb {R : Except PV PV → PH → Prop} {x y : Bool} {H : PH} (hR : ∀ H, R (.ok (.bool y)) H) (h : x = y) : R (.ok (.bool x)) H := by rw [h]; exact hR H
theorem get_some {α : Type} {l : List α} {i : Nat} (h : i < l.length) : ∃ x, l[i]? = some x ∧ x ∈ l ∧ l.take (i + 1) = l.take i ++ [x] :=
  ⟨l[i], List.getElem?_eq_getElem h, List.getElem_mem h, by rw [List.take_add_one, List.getElem?_eq_getElem h]; rfl⟩

theorem opFew_false {o : OpD} (h : ¬ (o.name.length ≤ 60 ∧ o.text.length ≤ 60)) : opFew o = false := by
  simp only [opFew, Bool.and_eq_false_iff, decide_eq_false_iff_not]; omega

theorem few_false {l : List (List CallD)} {r : List CallD} {c : CallD} (hr : r ∈ l) (hc : c ∈ r) (h : callFew c = false) : few l = false := by
  have : l.all (·.all callFew) = false := by
    rw [List.all_eq_false]; exact ⟨r, hr, by rw [Bool.not_eq_true, List.all_eq_false]; exact ⟨c, hc, by simp [h]⟩⟩
  simp [few, this]

theorem callFew_false {c : CallD} {o : OpD} (ho : o ∈ c.ops) (h : opFew o = false) : callFew c = false := by
  have : c.ops.all opFew = false := by rw [List.all_eq_false]; exact ⟨o, ho, by simp [h]⟩
  simp [callFew, this]

theorem few_ok {T : Tbl} (hT : Tb T) (l : List (List CallD)) (hs : Sized l) : Pur T 6 [callsPV l] (.bool (few l)) := by
  have hlt := hs.len
  have hop : ∀ r ∈ l, r.length < 200000000000000 ∧ ∀ c ∈ r, c.ops.length < 200000000000000 := fun r hr => ⟨hs.rows r hr, hs.ops r hr⟩
  refine Pur.of (by simp [isDL, isD_calls]) (by simp [isD]) fun R hR => e6 hT (by simp) ?_
  simp only [finit]
  repeat' (first | with_reducible refine RK.seq ?_ | with_reducible refine RK.block ?_ | with_reducible refine RK.skip ?_ | with_reducible refine RK.ret ?_ | with_reducible refine RK.exit ?_ | with_reducible refine RK.regionK g6 ?_ | with_reducible refine RK.drawnK g6 ?_ | with_reducible refine RK.cnd ?_ | (simp (implicitDefEqProofs := false) (disch := omega) only [go_sem, ↓reduceIte, Nat.reduceEqDiff, Nat.reduceLT, Nat.reduceLeDiff, Nat.reduceAdd, Nat.reduceSub, Nat.reduceMul, reduceCtorEq, Int.reduceBEq, Int.reduceBNe, Int.reduceLT, Int.reduceLE, Int.reduceToNat, g6]) | (with_reducible refine RCond.mk (fun ht => ?_) (fun ht => ?_) <;> try simp only [decide_eq_true_eq, decide_eq_false_iff_not, Bool.not_eq_eq_eq_not, Bool.not_true, Bool.not_false] at ht) | (with_reducible refine RReg.br (fun ht => ?_) (fun ht => ?_) <;> try simp only [decide_eq_true_eq, decide_eq_false_iff_not, Bool.not_eq_eq_eq_not, Bool.not_true, Bool.not_false] at ht))
  refine RK.lp [4, 3, 2, 0] (fun k vs h => ∃ (i : Nat) (n : Int), k + i = l.length ∧ vs = [i64 i, i64 n, .bool false, callsPV l] ∧ h = [] ∧ (l.length ≤ 4 → n = (l.take i).flatten.length) ∧ (l.take i).all (·.all callFew) = true) l.length ⟨0, 0, rfl, rfl, rfl, fun _ => rfl, rfl⟩ ?_
  rintro k _ _ ⟨i, n, hk, rfl, rfl, hn, ha⟩
  simp only [fzip, callsPV, a6_l2]
  repeat' (first | with_reducible refine RK.seq ?_ | with_reducible refine RK.block ?_ | with_reducible refine RK.skip ?_ | with_reducible refine RK.ret ?_ | with_reducible refine RK.exit ?_ | with_reducible refine RK.regionK g6 ?_ | with_reducible refine RK.drawnK g6 ?_ | with_reducible refine RK.cnd ?_ | (simp (implicitDefEqProofs := false) (disch := omega) only [go_sem, ↓reduceIte, Nat.reduceEqDiff, Nat.reduceLT, Nat.reduceLeDiff, Nat.reduceAdd, Nat.reduceSub, Nat.reduceMul, reduceCtorEq, Int.reduceBEq, Int.reduceBNe, Int.reduceLT, Int.reduceLE, Int.reduceToNat, g6]) | (with_reducible refine RCond.mk (fun ht => ?_) (fun ht => ?_) <;> try simp only [decide_eq_true_eq, decide_eq_false_iff_not, Bool.not_eq_eq_eq_not, Bool.not_true, Bool.not_false] at ht) | (with_reducible refine RReg.br (fun ht => ?_) (fun ht => ?_) <;> try simp only [decide_eq_true_eq, decide_eq_false_iff_not, Bool.not_eq_eq_eq_not, Bool.not_true, Bool.not_false] at ht))
  any_goals
    (refine FnQ.ret rfl (okb hR ?_)
     rw [List.take_of_length_le (show l.length ≤ i by omega)] at ha
     rw [List.take_of_length_le (show l.length ≤ i by omega)] at hn
     rw [Bool.eq_iff_iff]
     simp only [few, ha, Bool.true_and, Bool.and_eq_true, decide_eq_true_eq, Bool.false_eq_true, false_iff]
     omega)
  obtain ⟨r, hr, hrm, hrt⟩ := get_some (l := l) (i := i) (by omega)
  obtain ⟨hrl, hrc⟩ := hop r hrm
  have hfl : l.length ≤ 4 → (l.take (i + 1)).flatten.length ≤ 800000000000000 := by
    intro h4
    have : ∀ (L : List (List CallD)), (∀ r ∈ L, r.length < 200000000000000) → L.flatten.length ≤ L.length * 200000000000000 := by
      intro L
      induction L with
      | nil => intro _; simp
      | cons r L ih =>
        intro hh
        have h1 := hh r (by simp)
        have h2 := ih fun x hx => hh x (by simp [hx])
        simp only [List.flatten_cons, List.length_append, List.length_cons]; omega
    have := this (l.take (i + 1)) fun r hr => hs.rows r (List.mem_of_mem_take hr)
    rw [List.length_take] at this
    omega
  have hfr : (l.take (i + 1)).flatten.length = (l.take i).flatten.length + r.length := by rw [hrt]; simp
  refine RK.lp [5, 4, 3, 2, 0] (fun k vs h => ∃ (j : Nat) (n2 : Int), k + j = r.length ∧ vs = [i64 j, i64 i, i64 n2, .bool false, callsPV l] ∧ h = [] ∧ (l.length ≤ 4 → n2 = (l.take i).flatten.length + j) ∧ (r.take j).all callFew = true) r.length ⟨0, n, by simp, rfl, rfl, by simpa using hn, rfl⟩ ?_
  rintro k2 _ _ ⟨j, n2, hk2, rfl, rfl, hn2, ha2⟩
  simp only [fzip, callsPV, a6_l1]
  by_cases hj : j < r.length
  · obtain ⟨c, hc, hcm, hct⟩ := get_some hj
    have hcl := hrc c hcm
    repeat' (first | with_reducible refine RK.seq ?_ | with_reducible refine RK.block ?_ | with_reducible refine RK.skip ?_ | with_reducible refine RK.ret ?_ | with_reducible refine RK.exit ?_ | with_reducible refine RK.regionK g6 ?_ | with_reducible refine RK.drawnK g6 ?_ | with_reducible refine RK.cnd ?_ | (simp (implicitDefEqProofs := false) (disch := omega) only [go_sem, ↓reduceIte, Nat.reduceEqDiff, Nat.reduceLT, Nat.reduceLeDiff, Nat.reduceAdd, Nat.reduceSub, Nat.reduceMul, reduceCtorEq, Int.reduceBEq, Int.reduceBNe, Int.reduceLT, Int.reduceLE, Int.reduceToNat, g6, hr, rowPV, hc, CallD.pv, CallD.cs]) | (with_reducible refine RCond.mk (fun ht => ?_) (fun ht => ?_) <;> try simp only [decide_eq_true_eq, decide_eq_false_iff_not, Bool.not_eq_eq_eq_not, Bool.not_true, Bool.not_false] at ht) | (with_reducible refine RReg.br (fun ht => ?_) (fun ht => ?_) <;> try simp only [decide_eq_true_eq, decide_eq_false_iff_not, Bool.not_eq_eq_eq_not, Bool.not_true, Bool.not_false] at ht))
    all_goals try (exfalso; omega)
    any_goals (refine FnQ.ret rfl (okb hR (few_false hrm hcm ?_).symm); simp only [callFew, Bool.and_eq_false_iff, decide_eq_false_iff_not]; omega)
    refine RK.lp [6, 5, 4, 3, 2, 0] (fun k vs h => ∃ m : Nat, k + m = c.ops.length ∧ vs = [i64 m, i64 j, i64 i, i64 (IntKind.wrap .i64 (n2 + 1)), .bool false, callsPV l] ∧ h = [] ∧ (c.ops.take m).all opFew = true) c.ops.length ⟨0, by simp, rfl, rfl, rfl⟩ ?_
    rintro k3 _ _ ⟨m, hk3, rfl, rfl, ha3⟩
    simp only [fzip, callsPV, a6_l0]
    by_cases hm : m < c.ops.length
    · obtain ⟨o, ho, hom, hot⟩ := get_some hm
      repeat' (first | with_reducible refine RK.seq ?_ | with_reducible refine RK.block ?_ | with_reducible refine RK.skip ?_ | with_reducible refine RK.ret ?_ | with_reducible refine RK.exit ?_ | with_reducible refine RK.regionK g6 ?_ | with_reducible refine RK.drawnK g6 ?_ | with_reducible refine RK.cnd ?_ | (simp (implicitDefEqProofs := false) (disch := omega) only [go_sem, ↓reduceIte, Nat.reduceEqDiff, Nat.reduceLT, Nat.reduceLeDiff, Nat.reduceAdd, Nat.reduceSub, Nat.reduceMul, reduceCtorEq, Int.reduceBEq, Int.reduceBNe, Int.reduceLT, Int.reduceLE, Int.reduceToNat, g6, hr, rowPV, hc, CallD.pv, CallD.cs, ho, OpD.pv, OpD.cs]) | (with_reducible refine RCond.mk (fun ht => ?_) (fun ht => ?_) <;> try simp only [decide_eq_true_eq, decide_eq_false_iff_not, Bool.not_eq_eq_eq_not, Bool.not_true, Bool.not_false] at ht) | (with_reducible refine RReg.br (fun ht => ?_) (fun ht => ?_) <;> try simp only [decide_eq_true_eq, decide_eq_false_iff_not, Bool.not_eq_eq_eq_not, Bool.not_true, Bool.not_false] at ht))
      all_goals try (exfalso; omega)
      any_goals exact FnQ.ret rfl (okb hR (few_false hrm hcm (callFew_false hom (opFew_false (by omega)))).symm)
      refine ⟨k3 - 1, by omega, m + 1, by omega, rfl, ?_⟩
      rw [hot, List.all_append, ha3]; simp [opFew]; omega
    · repeat' (first | with_reducible refine RK.seq ?_ | with_reducible refine RK.block ?_ | with_reducible refine RK.skip ?_ | with_reducible refine RK.ret ?_ | with_reducible refine RK.exit ?_ | with_reducible refine RK.regionK g6 ?_ | with_reducible refine RK.drawnK g6 ?_ | with_reducible refine RK.cnd ?_ | (simp (implicitDefEqProofs := false) (disch := omega) only [go_sem, ↓reduceIte, Nat.reduceEqDiff, Nat.reduceLT, Nat.reduceLeDiff, Nat.reduceAdd, Nat.reduceSub, Nat.reduceMul, reduceCtorEq, Int.reduceBEq, Int.reduceBNe, Int.reduceLT, Int.reduceLE, Int.reduceToNat, g6, hr, rowPV, hc, CallD.pv, CallD.cs]) | (with_reducible refine RCond.mk (fun ht => ?_) (fun ht => ?_) <;> try simp only [decide_eq_true_eq, decide_eq_false_iff_not, Bool.not_eq_eq_eq_not, Bool.not_true, Bool.not_false] at ht) | (with_reducible refine RReg.br (fun ht => ?_) (fun ht => ?_) <;> try simp only [decide_eq_true_eq, decide_eq_false_iff_not, Bool.not_eq_eq_eq_not, Bool.not_true, Bool.not_false] at ht))
      all_goals try (exfalso; omega)
      refine ⟨k2 - 1, by omega, j + 1, _, by omega, rfl, fun h4 => ?_, ?_⟩
      · have := hfl h4
        rw [hn2 h4, wrap64 (by omega)]; omega
      rw [List.take_of_length_le (show c.ops.length ≤ m by omega)] at ha3
      rw [hct, List.all_append, ha2]; simp [callFew, ha3]; omega
  · repeat' (first | with_reducible refine RK.seq ?_ | with_reducible refine RK.block ?_ | with_reducible refine RK.skip ?_ | with_reducible refine RK.ret ?_ | with_reducible refine RK.exit ?_ | with_reducible refine RK.regionK g6 ?_ | with_reducible refine RK.drawnK g6 ?_ | with_reducible refine RK.cnd ?_ | (simp (implicitDefEqProofs := false) (disch := omega) only [go_sem, ↓reduceIte, Nat.reduceEqDiff, Nat.reduceLT, Nat.reduceLeDiff, Nat.reduceAdd, Nat.reduceSub, Nat.reduceMul, reduceCtorEq, Int.reduceBEq, Int.reduceBNe, Int.reduceLT, Int.reduceLE, Int.reduceToNat, g6, hr, rowPV]) | (with_reducible refine RCond.mk (fun ht => ?_) (fun ht => ?_) <;> try simp only [decide_eq_true_eq, decide_eq_false_iff_not, Bool.not_eq_eq_eq_not, Bool.not_true, Bool.not_false] at ht) | (with_reducible refine RReg.br (fun ht => ?_) (fun ht => ?_) <;> try simp only [decide_eq_true_eq, decide_eq_false_iff_not, Bool.not_eq_eq_eq_not, Bool.not_true, Bool.not_false] at ht))
    any_goals (exfalso; omega)
    refine ⟨k - 1, by omega, i + 1, n2, by omega, rfl, fun h4 => ?_, ?_⟩
    · rw [hn2 h4, hfr, show r.length = j by omega]; simp
    · rw [List.take_of_length_le (show r.length ≤ j by omega)] at ha2; simp [hrt, ha, ha2]
end Go.Proofs.YtcpadbcapeiicaaGreat

namespace Go.Proofs.YtcpadbcapeiicaaGreat
open Go Go.Proofs.Am Go.Proofs.Pm

theorem and65535 (a : Int) (h : 0 ≤ a ∧ a < 18446744073709551616) : ((BitVec.ofInt 64 a &&& BitVec.ofInt 64 65535).toNat : Int) = a % 65536 := by
  have e : (BitVec.ofInt 64 a &&& BitVec.ofInt 64 65535).toNat = a.toNat % 65536 := by
    rw [BitVec.toNat_and]
    have h1 : (BitVec.ofInt 64 65535).toNat = 2 ^ 16 - 1 := by decide
    have h2 : (BitVec.ofInt 64 a).toNat = a.toNat := by
      rw [BitVec.toNat_ofInt]; omega
    rw [h1, h2, Nat.and_two_pow_sub_one_eq_mod]
  rw [e]; omega

theorem and65535' (a : Int) (h : 0 ≤ a ∧ a < 18446744073709551616) : ((BitVec.ofInt (IntKind.bits .u64) a &&& BitVec.ofInt (IntKind.bits .u64) 65535).toNat : Int) = a % 65536 := and65535 a h

theorem shr16 (a : Int) : Int.fdiv a (2 ^ (min (Int.toNat 16) 64)) = a / 65536 := by
  have : (2 : Int) ^ (min (Int.toNat 16) 64) = 65536 := by decide
  rw [this, Int.fdiv_eq_ediv_of_nonneg _ (by decide)]

theorem shr16' (a : Int) : Int.fdiv a (2 ^ (min 16 64)) = a / 65536 := shr16 a

theorem from_ok {T : Tbl} (hT : Tb T) (a : Int) (h : 0 ≤ a ∧ a < 18446744073709551616) : Pur T 28 [u64 a] (.tup [i64 (a / 65536), i64 (a % 65536)]) := by
  refine Pur.of (by simp [isDL, isD]) (by simp [isD, isDL]) fun R hR => e28 hT (by simp) ?_
  simp only [finit]
  repeat' (first | with_reducible refine RK.seq ?_ | with_reducible refine RK.block ?_ | with_reducible refine RK.skip ?_ | with_reducible refine RK.ret ?_ | with_reducible refine RK.exit ?_ | with_reducible refine RK.regionK g28 ?_ | with_reducible refine RK.drawnK g28 ?_ | with_reducible refine RK.cnd ?_ | (simp (implicitDefEqProofs := false) (disch := omega) only [go_sem, ↓reduceIte, Nat.reduceEqDiff, Nat.reduceLT, Nat.reduceLeDiff, Nat.reduceAdd, Nat.reduceSub, Nat.reduceMul, reduceCtorEq, Int.reduceBEq, Int.reduceBNe, Int.reduceLT, Int.reduceLE, Int.reduceToNat, g28, shr16, shr16']) | (with_reducible refine RCond.mk (fun ht => ?_) (fun ht => ?_) <;> try simp only [decide_eq_true_eq, decide_eq_false_iff_not, Bool.not_eq_eq_eq_not, Bool.not_true, Bool.not_false] at ht) | (with_reducible refine RReg.br (fun ht => ?_) (fun ht => ?_) <;> try simp only [decide_eq_true_eq, decide_eq_false_iff_not, Bool.not_eq_eq_eq_not, Bool.not_true, Bool.not_false] at ht))
  have e : ∀ x : Int, x = a % 65536 → R (.ok (.tup [i64 (a / 65536), .int .i64 (IntKind.wrap .i64 x)])) [] := by
    rintro _ rfl; rw [wrap64 (by omega)]; exact hR _
  exact FnQ.ret rfl (e _ (and65535 a h))

theorem of_ok {T : Tbl} (hT : Tb T) (a : Int) (h : 0 ≤ a ∧ a < 18446744073709551616) : Pur T 15 [u64 a] (namePV (a / 65536) (a % 65536)) := by
  refine Pur.of (by simp [isDL, isD]) (by simp [isD, isDL, namePV]) fun R hR => e15 hT (by simp) ?_
  simp only [finit]
  repeat' (first | with_reducible refine RK.seq ?_ | with_reducible refine RK.block ?_ | with_reducible refine RK.skip ?_ | with_reducible refine RK.ret ?_ | with_reducible refine RK.exit ?_ | with_reducible refine RK.regionK g15 ?_ | with_reducible refine RK.drawnK g15 ?_ | with_reducible refine RK.cnd ?_ | (simp (implicitDefEqProofs := false) (disch := omega) only [go_sem, ↓reduceIte, Nat.reduceEqDiff, Nat.reduceLT, Nat.reduceLeDiff, Nat.reduceAdd, Nat.reduceSub, Nat.reduceMul, reduceCtorEq, Int.reduceBEq, Int.reduceBNe, Int.reduceLT, Int.reduceLE, Int.reduceToNat, g15]) | (with_reducible refine RCond.mk (fun ht => ?_) (fun ht => ?_) <;> try simp only [decide_eq_true_eq, decide_eq_false_iff_not, Bool.not_eq_eq_eq_not, Bool.not_true, Bool.not_false] at ht) | (with_reducible refine RReg.br (fun ht => ?_) (fun ht => ?_) <;> try simp only [decide_eq_true_eq, decide_eq_false_iff_not, Bool.not_eq_eq_eq_not, Bool.not_true, Bool.not_false] at ht))
  refine RCall.pure (from_ok hT a h) ?_
  repeat' (first | with_reducible refine RK.seq ?_ | with_reducible refine RK.block ?_ | with_reducible refine RK.skip ?_ | with_reducible refine RK.ret ?_ | with_reducible refine RK.exit ?_ | with_reducible refine RK.regionK g15 ?_ | with_reducible refine RK.drawnK g15 ?_ | with_reducible refine RK.cnd ?_ | (simp (implicitDefEqProofs := false) (disch := omega) only [go_sem, ↓reduceIte, Nat.reduceEqDiff, Nat.reduceLT, Nat.reduceLeDiff, Nat.reduceAdd, Nat.reduceSub, Nat.reduceMul, reduceCtorEq, Int.reduceBEq, Int.reduceBNe, Int.reduceLT, Int.reduceLE, Int.reduceToNat, g15]) | (with_reducible refine RCond.mk (fun ht => ?_) (fun ht => ?_) <;> try simp only [decide_eq_true_eq, decide_eq_false_iff_not, Bool.not_eq_eq_eq_not, Bool.not_true, Bool.not_false] at ht) | (with_reducible refine RReg.br (fun ht => ?_) (fun ht => ?_) <;> try simp only [decide_eq_true_eq, decide_eq_false_iff_not, Bool.not_eq_eq_eq_not, Bool.not_true, Bool.not_false] at ht))
  exact FnQ.ret rfl (hR _)

theorem callAt_none {l : List (List CallD)} {id at_ : Int} (h : id < 0 ∨ at_ < 0 ∨ l.length ≤ id) : callAt l id at_ = none := by
  unfold callAt
  split
  · split
    · rename_i r hr
      have := (List.getElem?_eq_some_iff.1 hr).1; omega
    · rfl
  · rfl

theorem isD_res (c : CallD) (b : Bool) : isD (.tup [c.pv, .bool b]) = true := by simp [isD, isDL, isD_call]

theorem noCall_le (b : Bool) : Le (.tup [.agg [i64 0, .lst 0 true [], i64 0, i64 0, i64 0, .str []], .bool b]) (.tup [noCall.pv, .bool b]) :=
  Le.tup (LeL.cons (Le.agg (LeL.cons (Le.refl _) (LeL.cons (Le.nil 0 6 false) (LeL.refl _)))) (LeL.refl _))

theorem callAt_some {l : List (List CallD)} {id at_ : Int} {r : List CallD} {c : CallD} (h1 : 0 ≤ id) (hr : l[id.toNat]? = some r) (h2 : 0 ≤ at_) (hc : r[at_.toNat]? = some c) : callAt l id at_ = some c := by
  simp [callAt, h1, h2, hr, hc]

theorem callAt_row {l : List (List CallD)} {id at_ : Int} {r : List CallD} (hr : l[id.toNat]? = some r) (h : ¬ (0 ≤ at_ ∧ at_ < r.length)) : callAt l id at_ = none := by
  simp only [callAt, hr]; split
  · rw [List.getElem?_eq_none (by omega)]
  · rfl

set_option maxRecDepth 4000 in
theorem call_ok {T : Tbl} (hT : Tb T) (l : List (List CallD)) (hs : Sized l) (id at_ : Int) : Pur T 14 [callsPV l, namePV id at_] (.tup [((callAt l id at_).getD noCall).pv, .bool (callAt l id at_).isSome]) := by
  refine Pur.of (by simp [isDL, isD_calls, isD, namePV]) (isD_res _ _) fun R hR => e14 hT (by simp) ?_
  have hlen := hs.len
  simp only [finit, callsPV, namePV]
  by_cases h1 : 0 ≤ id ∧ id < l.length
  · obtain ⟨r, hr, hrm, _⟩ := get_some (l := l) (i := id.toNat) (by omega)
    have hrl := hs.rows r hrm
    by_cases h2 : 0 ≤ at_ ∧ at_ < r.length
    · obtain ⟨c, hc, hcm, _⟩ := get_some (l := r) (i := at_.toNat) (by omega)
      rw [callAt_some h1.1 hr h2.1 hc] at hR
      repeat' (first | with_reducible refine RK.seq ?_ | with_reducible refine RK.block ?_ | with_reducible refine RK.skip ?_ | with_reducible refine RK.ret ?_ | with_reducible refine RK.exit ?_ | with_reducible refine RK.regionK g14 ?_ | with_reducible refine RK.drawnK g14 ?_ | with_reducible refine RK.cnd ?_ | (simp (implicitDefEqProofs := false) (disch := omega) only [go_sem, ↓reduceIte, Nat.reduceEqDiff, Nat.reduceLT, Nat.reduceLeDiff, Nat.reduceAdd, Nat.reduceSub, Nat.reduceMul, reduceCtorEq, Int.reduceBEq, Int.reduceBNe, Int.reduceLT, Int.reduceLE, Int.reduceToNat, g14, hr, rowPV, hc, CallD.pv, CallD.cs, dT, dF]) | (with_reducible refine RCond.mk (fun ht => ?_) (fun ht => ?_) <;> try simp only [decide_eq_true_eq, decide_eq_false_iff_not, Bool.not_eq_eq_eq_not, Bool.not_true, Bool.not_false] at ht) | (with_reducible refine RReg.br (fun ht => ?_) (fun ht => ?_) <;> try simp only [decide_eq_true_eq, decide_eq_false_iff_not, Bool.not_eq_eq_eq_not, Bool.not_true, Bool.not_false] at ht))
      exact FnQ.ret rfl (hR _)
    · rw [callAt_row hr h2] at hR
      repeat' (first | with_reducible refine RK.seq ?_ | with_reducible refine RK.block ?_ | with_reducible refine RK.skip ?_ | with_reducible refine RK.ret ?_ | with_reducible refine RK.exit ?_ | with_reducible refine RK.regionK g14 ?_ | with_reducible refine RK.drawnK g14 ?_ | with_reducible refine RK.cnd ?_ | (simp (implicitDefEqProofs := false) (disch := omega) only [go_sem, ↓reduceIte, Nat.reduceEqDiff, Nat.reduceLT, Nat.reduceLeDiff, Nat.reduceAdd, Nat.reduceSub, Nat.reduceMul, reduceCtorEq, Int.reduceBEq, Int.reduceBNe, Int.reduceLT, Int.reduceLE, Int.reduceToNat, g14, hr, rowPV]) | (with_reducible refine RCond.mk (fun ht => ?_) (fun ht => ?_) <;> try simp only [decide_eq_true_eq, decide_eq_false_iff_not, Bool.not_eq_eq_eq_not, Bool.not_true, Bool.not_false] at ht) | (with_reducible refine RReg.br (fun ht => ?_) (fun ht => ?_) <;> try simp only [decide_eq_true_eq, decide_eq_false_iff_not, Bool.not_eq_eq_eq_not, Bool.not_true, Bool.not_false] at ht))
      all_goals first | (exfalso; omega) | exact FnQ.retLe rfl (noCall_le false) (hR _)
  · rw [callAt_none (by omega)] at hR
    repeat' (first | with_reducible refine RK.seq ?_ | with_reducible refine RK.block ?_ | with_reducible refine RK.skip ?_ | with_reducible refine RK.ret ?_ | with_reducible refine RK.exit ?_ | with_reducible refine RK.regionK g14 ?_ | with_reducible refine RK.drawnK g14 ?_ | with_reducible refine RK.cnd ?_ | (simp (implicitDefEqProofs := false) (disch := omega) only [go_sem, ↓reduceIte, Nat.reduceEqDiff, Nat.reduceLT, Nat.reduceLeDiff, Nat.reduceAdd, Nat.reduceSub, Nat.reduceMul, reduceCtorEq, Int.reduceBEq, Int.reduceBNe, Int.reduceLT, Int.reduceLE, Int.reduceToNat, g14]) | (with_reducible refine RCond.mk (fun ht => ?_) (fun ht => ?_) <;> try simp only [decide_eq_true_eq, decide_eq_false_iff_not, Bool.not_eq_eq_eq_not, Bool.not_true, Bool.not_false] at ht) | (with_reducible refine RReg.br (fun ht => ?_) (fun ht => ?_) <;> try simp only [decide_eq_true_eq, decide_eq_false_iff_not, Bool.not_eq_eq_eq_not, Bool.not_true, Bool.not_false] at ht))
    all_goals first | (exfalso; omega) | exact FnQ.retLe rfl (noCall_le false) (hR _)
end Go.Proofs.YtcpadbcapeiicaaGreat

namespace Go.Proofs.YtcpadbcapeiicaaGreat
open Go Go.Proofs.Am Go.Proofs.Pm

set_option maxRecDepth 4000 in
theorem ordered_ok {T : Tbl} (hT : Tb T) (l : List (List CallD)) (hs : Sized l) (log : List EntD) (hlog : log.length < 200000000000000) (hitem : ∀ x ∈ log, 0 ≤ x.item ∧ x.item < 18446744073709551616) : Pur T 13 [callsPV l, logPV log] (.bool (orderedG l log [])) := by
  refine Pur.of (by simp [isDL, isD_calls, isD_log]) (by simp [isD]) fun R hR => e13 hT (by simp) ?_
  simp only [finit, logPV]
  repeat' (first | with_reducible refine RK.seq ?_ | with_reducible refine RK.block ?_ | with_reducible refine RK.skip ?_ | with_reducible refine RK.ret ?_ | with_reducible refine RK.exit ?_ | with_reducible refine RK.regionK g13 ?_ | with_reducible refine RK.drawnK g13 ?_ | with_reducible refine RK.cnd ?_ | (simp (implicitDefEqProofs := false) (disch := omega) only [go_sem, ↓reduceIte, Nat.reduceEqDiff, Nat.reduceLT, Nat.reduceLeDiff, Nat.reduceAdd, Nat.reduceSub, Nat.reduceMul, reduceCtorEq, Int.reduceBEq, Int.reduceBNe, Int.reduceLT, Int.reduceLE, Int.reduceToNat, g13]) | (with_reducible refine RCond.mk (fun ht => ?_) (fun ht => ?_) <;> try simp only [decide_eq_true_eq, decide_eq_false_iff_not, Bool.not_eq_eq_eq_not, Bool.not_true, Bool.not_false] at ht) | (with_reducible refine RReg.br (fun ht => ?_) (fun ht => ?_) <;> try simp only [decide_eq_true_eq, decide_eq_false_iff_not, Bool.not_eq_eq_eq_not, Bool.not_true, Bool.not_false] at ht))
  refine RK.lp [14, 13, 12, 5, 4, 0] (fun k vs h => ∃ (i : Nat) (m : MapD), k + i = log.length ∧ vs = [i64 i, i64 log.length, logPV log, .map 0, .bool false, callsPV l] ∧ h[0]? = some (.map (mpv m)) ∧ orderedG l (log.drop i) m = orderedG l log []) log.length ⟨0, [], rfl, by simp [fvals, fget, logPV], rfl, rfl⟩ ?_
  rintro k _ h ⟨i, m, hk, rfl, hm, ho⟩
  have hh := (List.getElem?_eq_some_iff.1 hm).1
  simp only [fzip, logPV, a13_l0]
  by_cases hi : i < log.length
  · obtain ⟨x, hx, hxm, _⟩ := get_some hi
    have hxi := hitem x hxm
    repeat' (first | with_reducible refine RK.seq ?_ | with_reducible refine RK.block ?_ | with_reducible refine RK.skip ?_ | with_reducible refine RK.ret ?_ | with_reducible refine RK.exit ?_ | with_reducible refine RK.regionK g13 ?_ | with_reducible refine RK.drawnK g13 ?_ | with_reducible refine RK.cnd ?_ | (simp (implicitDefEqProofs := false) (disch := omega) only [go_sem, ↓reduceIte, Nat.reduceEqDiff, Nat.reduceLT, Nat.reduceLeDiff, Nat.reduceAdd, Nat.reduceSub, Nat.reduceMul, reduceCtorEq, Int.reduceBEq, Int.reduceBNe, Int.reduceLT, Int.reduceLE, Int.reduceToNat, g13, hx, EntD.pv, EntD.cs, dT, dF]) | (with_reducible refine RCond.mk (fun ht => ?_) (fun ht => ?_) <;> try simp only [decide_eq_true_eq, decide_eq_false_iff_not, Bool.not_eq_eq_eq_not, Bool.not_true, Bool.not_false] at ht) | (with_reducible refine RReg.br (fun ht => ?_) (fun ht => ?_) <;> try simp only [decide_eq_true_eq, decide_eq_false_iff_not, Bool.not_eq_eq_eq_not, Bool.not_true, Bool.not_false] at ht))
    refine RCall.pure (of_ok hT x.item hxi) ?_
    repeat' (first | with_reducible refine RK.seq ?_ | with_reducible refine RK.block ?_ | with_reducible refine RK.skip ?_ | with_reducible refine RK.ret ?_ | with_reducible refine RK.exit ?_ | with_reducible refine RK.regionK g13 ?_ | with_reducible refine RK.drawnK g13 ?_ | with_reducible refine RK.cnd ?_ | (simp (implicitDefEqProofs := false) (disch := omega) only [go_sem, ↓reduceIte, Nat.reduceEqDiff, Nat.reduceLT, Nat.reduceLeDiff, Nat.reduceAdd, Nat.reduceSub, Nat.reduceMul, reduceCtorEq, Int.reduceBEq, Int.reduceBNe, Int.reduceLT, Int.reduceLE, Int.reduceToNat, g13, namePV]) | (with_reducible refine RCond.mk (fun ht => ?_) (fun ht => ?_) <;> try simp only [decide_eq_true_eq, decide_eq_false_iff_not, Bool.not_eq_eq_eq_not, Bool.not_true, Bool.not_false] at ht) | (with_reducible refine RReg.br (fun ht => ?_) (fun ht => ?_) <;> try simp only [decide_eq_true_eq, decide_eq_false_iff_not, Bool.not_eq_eq_eq_not, Bool.not_true, Bool.not_false] at ht))
    refine RCall.pure (call_ok hT l hs (x.item / 65536) (x.item % 65536)) ?_
    have hd : log.drop i = x :: log.drop (i + 1) := by rw [List.drop_eq_getElem_cons hi]; rw [List.getElem?_eq_getElem hi] at hx; cases hx; rfl
    rw [hd] at ho
    simp only [orderedG] at ho
    cases hc : callAt l (x.item / 65536) (x.item % 65536) with
    | none =>
      rw [hc] at ho
      repeat' (first | with_reducible refine RK.seq ?_ | with_reducible refine RK.block ?_ | with_reducible refine RK.skip ?_ | with_reducible refine RK.ret ?_ | with_reducible refine RK.exit ?_ | with_reducible refine RK.regionK g13 ?_ | with_reducible refine RK.drawnK g13 ?_ | with_reducible refine RK.cnd ?_ | (simp (implicitDefEqProofs := false) (disch := omega) only [go_sem, ↓reduceIte, Nat.reduceEqDiff, Nat.reduceLT, Nat.reduceLeDiff, Nat.reduceAdd, Nat.reduceSub, Nat.reduceMul, reduceCtorEq, Int.reduceBEq, Int.reduceBNe, Int.reduceLT, Int.reduceLE, Int.reduceToNat, g13, namePV, Option.isSome_none, noCall, CallD.pv, CallD.cs, Option.getD_none]) | (with_reducible refine RCond.mk (fun ht => ?_) (fun ht => ?_) <;> try simp only [decide_eq_true_eq, decide_eq_false_iff_not, Bool.not_eq_eq_eq_not, Bool.not_true, Bool.not_false] at ht) | (with_reducible refine RReg.br (fun ht => ?_) (fun ht => ?_) <;> try simp only [decide_eq_true_eq, decide_eq_false_iff_not, Bool.not_eq_eq_eq_not, Bool.not_true, Bool.not_false] at ht))
      exact FnQ.ret rfl (okb hR ho)
    | some c =>
      rw [hc] at ho
      simp only at ho
      cases hf : mfind m (x.item / 65536) 0 with
      | none =>
        have hg : mget m (x.item / 65536) = 0 := by unfold mget; rw [hf]
        have hp := mput_pv m (x.item / 65536) (x.item % 65536 + 1)
        rw [hf] at hp
        rw [hg] at ho
        repeat' (first | with_reducible refine RK.seq ?_ | with_reducible refine RK.block ?_ | with_reducible refine RK.skip ?_ | with_reducible refine RK.ret ?_ | with_reducible refine RK.exit ?_ | with_reducible refine RK.regionK g13 ?_ | with_reducible refine RK.drawnK g13 ?_ | with_reducible refine RK.cnd ?_ | (simp (implicitDefEqProofs := false) (disch := omega) only [go_sem, ↓reduceIte, Nat.reduceEqDiff, Nat.reduceLT, Nat.reduceLeDiff, Nat.reduceAdd, Nat.reduceSub, Nat.reduceMul, reduceCtorEq, Int.reduceBEq, Int.reduceBNe, Int.reduceLT, Int.reduceLE, Int.reduceToNat, g13, namePV, Option.isSome_some, CallD.pv, CallD.cs, Option.getD_some, hm, mfind_ok, hf, Option.map_none]) | (with_reducible refine RCond.mk (fun ht => ?_) (fun ht => ?_) <;> try simp only [decide_eq_true_eq, decide_eq_false_iff_not, Bool.not_eq_eq_eq_not, Bool.not_true, Bool.not_false] at ht) | (with_reducible refine RReg.br (fun ht => ?_) (fun ht => ?_) <;> try simp only [decide_eq_true_eq, decide_eq_false_iff_not, Bool.not_eq_eq_eq_not, Bool.not_true, Bool.not_false] at ht))
        any_goals first
          | (exfalso; omega)
          | (refine FnQ.ret rfl (okb hR ?_); rw [← ho, dF (show ¬ ¬ (x.item % 65536 < 0) by omega)]; simp; done)
          | (refine FnQ.ret rfl (okb hR ?_); rw [← ho, dF (show ¬ c.kind = 1 by simpa using ht)]; simp; done)
        refine ⟨k - 1, by omega, i + 1, mput m (x.item / 65536) (x.item % 65536 + 1), by omega, rfl, ?_, ?_⟩
        · rw [get_lo _ _ _ (by rw [List.length_set]; exact hh), List.getElem?_set_self hh, hp]
        · rename_i hk1
          rw [← ho, dT (show c.kind = 1 by simpa using hk1), dT ht]; simp
      | some q =>
        obtain ⟨j, w⟩ := q
        have hg : mget m (x.item / 65536) = w := by unfold mget; rw [hf]
        have hp := mput_pv m (x.item / 65536) (x.item % 65536 + 1)
        rw [hf] at hp
        rw [hg] at ho
        repeat' (first | with_reducible refine RK.seq ?_ | with_reducible refine RK.block ?_ | with_reducible refine RK.skip ?_ | with_reducible refine RK.ret ?_ | with_reducible refine RK.exit ?_ | with_reducible refine RK.regionK g13 ?_ | with_reducible refine RK.drawnK g13 ?_ | with_reducible refine RK.cnd ?_ | (simp (implicitDefEqProofs := false) (disch := omega) only [go_sem, ↓reduceIte, Nat.reduceEqDiff, Nat.reduceLT, Nat.reduceLeDiff, Nat.reduceAdd, Nat.reduceSub, Nat.reduceMul, reduceCtorEq, Int.reduceBEq, Int.reduceBNe, Int.reduceLT, Int.reduceLE, Int.reduceToNat, g13, namePV, Option.isSome_some, CallD.pv, CallD.cs, Option.getD_some, hm, mfind_ok, hf, Option.map_some]) | (with_reducible refine RCond.mk (fun ht => ?_) (fun ht => ?_) <;> try simp only [decide_eq_true_eq, decide_eq_false_iff_not, Bool.not_eq_eq_eq_not, Bool.not_true, Bool.not_false] at ht) | (with_reducible refine RReg.br (fun ht => ?_) (fun ht => ?_) <;> try simp only [decide_eq_true_eq, decide_eq_false_iff_not, Bool.not_eq_eq_eq_not, Bool.not_true, Bool.not_false] at ht))
        any_goals first
          | (exfalso; omega)
          | (refine FnQ.ret rfl (okb hR ?_); rw [← ho, dF (show ¬ ¬ (x.item % 65536 < w) by omega)]; simp; done)
          | (refine FnQ.ret rfl (okb hR ?_); rw [← ho, dF (show ¬ c.kind = 1 by simpa using ht)]; simp; done)
        refine ⟨k - 1, by omega, i + 1, mput m (x.item / 65536) (x.item % 65536 + 1), by omega, rfl, ?_, ?_⟩
        · rw [get_lo _ _ _ (by rw [List.length_set]; exact hh), List.getElem?_set_self hh, hp]
        · rename_i hk1
          rw [← ho, dT (show c.kind = 1 by simpa using hk1), dT ht]; simp
  · repeat' (first | with_reducible refine RK.seq ?_ | with_reducible refine RK.block ?_ | with_reducible refine RK.skip ?_ | with_reducible refine RK.ret ?_ | with_reducible refine RK.exit ?_ | with_reducible refine RK.regionK g13 ?_ | with_reducible refine RK.drawnK g13 ?_ | with_reducible refine RK.cnd ?_ | (simp (implicitDefEqProofs := false) (disch := omega) only [go_sem, ↓reduceIte, Nat.reduceEqDiff, Nat.reduceLT, Nat.reduceLeDiff, Nat.reduceAdd, Nat.reduceSub, Nat.reduceMul, reduceCtorEq, Int.reduceBEq, Int.reduceBNe, Int.reduceLT, Int.reduceLE, Int.reduceToNat, g13, dT, dF]) | (with_reducible refine RCond.mk (fun ht => ?_) (fun ht => ?_) <;> try simp only [decide_eq_true_eq, decide_eq_false_iff_not, Bool.not_eq_eq_eq_not, Bool.not_true, Bool.not_false] at ht) | (with_reducible refine RReg.br (fun ht => ?_) (fun ht => ?_) <;> try simp only [decide_eq_true_eq, decide_eq_false_iff_not, Bool.not_eq_eq_eq_not, Bool.not_true, Bool.not_false] at ht))
    refine FnQ.ret rfl (okb hR ?_)
    rw [← ho, List.drop_eq_nil_of_le (by omega)]; rfl
end Go.Proofs.YtcpadbcapeiicaaGreat

namespace Go.Proofs.YtcpadbcapeiicaaGreat
open Go Go.Proofs.Am Go.Proofs.Pm

/-- The document alone. -/
def docPV : PV := .agg [i64 0, .str [], .str [], .lst 0 true [], i64 (-1), .lst 0 true []]
def newPV : PV := .lst 6 true [docPV]

theorem new_ok {T : Tbl} (hT : Tb T) : Pur T 12 [] newPV := by
  refine Pur.of (by simp [isDL]) (by simp [isD, newPV, docPV, isDL]) fun R hR => e12 hT (by simp) ?_
  simp only [finit]
  repeat' (first | with_reducible refine RK.seq ?_ | with_reducible refine RK.block ?_ | with_reducible refine RK.skip ?_ | with_reducible refine RK.ret ?_ | with_reducible refine RK.exit ?_ | with_reducible refine RK.regionK g12 ?_ | with_reducible refine RK.drawnK g12 ?_ | with_reducible refine RK.cnd ?_ | (simp (implicitDefEqProofs := false) (disch := omega) only [go_sem, ↓reduceIte, Nat.reduceEqDiff, Nat.reduceLT, Nat.reduceLeDiff, Nat.reduceAdd, Nat.reduceSub, Nat.reduceMul, reduceCtorEq, Int.reduceBEq, Int.reduceBNe, Int.reduceLT, Int.reduceLE, Int.reduceToNat, g12]) | (with_reducible refine RCond.mk (fun ht => ?_) (fun ht => ?_) <;> try simp only [decide_eq_true_eq, decide_eq_false_iff_not, Bool.not_eq_eq_eq_not, Bool.not_true, Bool.not_false] at ht) | (with_reducible refine RReg.br (fun ht => ?_) (fun ht => ?_) <;> try simp only [decide_eq_true_eq, decide_eq_false_iff_not, Bool.not_eq_eq_eq_not, Bool.not_true, Bool.not_false] at ht))
  exact ⟨_, rfl, Gh.frz 0 0 rfl (.cons (.slk (xs := [docPV]) (sz := 6) rfl (by simp) (by simp [docPV, ecs]) (by simp [docPV, ecs])) .nil) ⟨_, rfl, hR _⟩⟩

theorem states_nil {T : Tbl} (hT : Tb T) (l : List (List CallD)) (hs : Sized l) : Pur T 8 [callsPV l, .lst 0 true []] (.tup [.lst 1 true [newPV], i64 0]) := by
  refine Pur.of (by simp [isDL, isD_calls, isD]) (by simp [isD, newPV, docPV, isDL]) fun R hR => e8 hT (by simp) ?_
  simp only [finit]
  repeat' (first | with_reducible refine RK.seq ?_ | with_reducible refine RK.block ?_ | with_reducible refine RK.skip ?_ | with_reducible refine RK.ret ?_ | with_reducible refine RK.exit ?_ | with_reducible refine RK.regionK g8 ?_ | with_reducible refine RK.drawnK g8 ?_ | with_reducible refine RK.cnd ?_ | (simp (implicitDefEqProofs := false) (disch := omega) only [go_sem, ↓reduceIte, Nat.reduceEqDiff, Nat.reduceLT, Nat.reduceLeDiff, Nat.reduceAdd, Nat.reduceSub, Nat.reduceMul, reduceCtorEq, Int.reduceBEq, Int.reduceBNe, Int.reduceLT, Int.reduceLE, Int.reduceToNat, g8]) | (with_reducible refine RCond.mk (fun ht => ?_) (fun ht => ?_) <;> try simp only [decide_eq_true_eq, decide_eq_false_iff_not, Bool.not_eq_eq_eq_not, Bool.not_true, Bool.not_false] at ht) | (with_reducible refine RReg.br (fun ht => ?_) (fun ht => ?_) <;> try simp only [decide_eq_true_eq, decide_eq_false_iff_not, Bool.not_eq_eq_eq_not, Bool.not_true, Bool.not_false] at ht))
  refine RCall.pureLe (LeL.cons (Le.refl _) (LeL.cons (Le.nil 0 3 false) LeL.nil)) (ordered_ok hT l hs [] (by simp) (by simp)) ?_
  repeat' (first | with_reducible refine RK.seq ?_ | with_reducible refine RK.block ?_ | with_reducible refine RK.skip ?_ | with_reducible refine RK.ret ?_ | with_reducible refine RK.exit ?_ | with_reducible refine RK.regionK g8 ?_ | with_reducible refine RK.drawnK g8 ?_ | with_reducible refine RK.cnd ?_ | (simp (implicitDefEqProofs := false) (disch := omega) only [go_sem, ↓reduceIte, Nat.reduceEqDiff, Nat.reduceLT, Nat.reduceLeDiff, Nat.reduceAdd, Nat.reduceSub, Nat.reduceMul, reduceCtorEq, Int.reduceBEq, Int.reduceBNe, Int.reduceLT, Int.reduceLE, Int.reduceToNat, g8, orderedG]) | (with_reducible refine RCond.mk (fun ht => ?_) (fun ht => ?_) <;> try simp only [decide_eq_true_eq, decide_eq_false_iff_not, Bool.not_eq_eq_eq_not, Bool.not_true, Bool.not_false] at ht) | (with_reducible refine RReg.br (fun ht => ?_) (fun ht => ?_) <;> try simp only [decide_eq_true_eq, decide_eq_false_iff_not, Bool.not_eq_eq_eq_not, Bool.not_true, Bool.not_false] at ht))
  refine RCall.pure (new_ok hT) ?_
  repeat' (first | with_reducible refine RK.seq ?_ | with_reducible refine RK.block ?_ | with_reducible refine RK.skip ?_ | with_reducible refine RK.ret ?_ | with_reducible refine RK.exit ?_ | with_reducible refine RK.regionK g8 ?_ | with_reducible refine RK.drawnK g8 ?_ | with_reducible refine RK.cnd ?_ | (simp (implicitDefEqProofs := false) (disch := omega) only [go_sem, ↓reduceIte, Nat.reduceEqDiff, Nat.reduceLT, Nat.reduceLeDiff, Nat.reduceAdd, Nat.reduceSub, Nat.reduceMul, reduceCtorEq, Int.reduceBEq, Int.reduceBNe, Int.reduceLT, Int.reduceLE, Int.reduceToNat, g8, newPV]) | (with_reducible refine RCond.mk (fun ht => ?_) (fun ht => ?_) <;> try simp only [decide_eq_true_eq, decide_eq_false_iff_not, Bool.not_eq_eq_eq_not, Bool.not_true, Bool.not_false] at ht) | (with_reducible refine RReg.br (fun ht => ?_) (fun ht => ?_) <;> try simp only [decide_eq_true_eq, decide_eq_false_iff_not, Bool.not_eq_eq_eq_not, Bool.not_true, Bool.not_false] at ht))
  refine RK.lp [25, 24, 7, 1, 0, 4, 5] (fun k vs h => vs = [i64 0, i64 0, .sl 0 0 0 1 (.k 1), .lst 0 true [], callsPV l, .lst 0 true [], i64 0] ∧ h = [.cells 0 [newPV]]) 0 ⟨rfl, rfl⟩ ?_
  rintro k _ _ ⟨rfl, rfl⟩
  simp only [fzip, a8_l0]
  repeat' (first | with_reducible refine RK.seq ?_ | with_reducible refine RK.block ?_ | with_reducible refine RK.skip ?_ | with_reducible refine RK.ret ?_ | with_reducible refine RK.exit ?_ | with_reducible refine RK.regionK g8 ?_ | with_reducible refine RK.drawnK g8 ?_ | with_reducible refine RK.cnd ?_ | (simp (implicitDefEqProofs := false) (disch := omega) only [go_sem, ↓reduceIte, Nat.reduceEqDiff, Nat.reduceLT, Nat.reduceLeDiff, Nat.reduceAdd, Nat.reduceSub, Nat.reduceMul, reduceCtorEq, Int.reduceBEq, Int.reduceBNe, Int.reduceLT, Int.reduceLE, Int.reduceToNat, g8, Int.lt_irrefl]) | (with_reducible refine RCond.mk (fun ht => ?_) (fun ht => ?_) <;> try simp only [decide_eq_true_eq, decide_eq_false_iff_not, Bool.not_eq_eq_eq_not, Bool.not_true, Bool.not_false] at ht) | (with_reducible refine RReg.br (fun ht => ?_) (fun ht => ?_) <;> try simp only [decide_eq_true_eq, decide_eq_false_iff_not, Bool.not_eq_eq_eq_not, Bool.not_true, Bool.not_false] at ht))
  exact ⟨_, rfl, Gh.frz 0 0 rfl (.cons (FzL.tup (.cons (.slk (xs := [newPV]) (sz := 1) rfl (by simp) (by simp [newPV, ecs]) (by simp [newPV, ecs])) (FzL.refl _))) .nil) ⟨_, rfl, hR _⟩⟩

/-- An event of which nothing is told. -/
def evCells (id at_ : Int) : List PV := [i64 id, i64 at_, i64 0, i64 0, i64 0, i64 0, u64 0, .lst 0 true [], .str [], i64 0]

theorem all_nil {T : Tbl} (hT : Tb T) (good : PV) (b : Nat) (H : PH) (hb : H[b]? = some (.cells 0 [.lst 0 true []])) : PEv T (.fn 17) [good, .ptr b 0 0] H fun r H' => r = .ok (.bool true) ∧ H' = H := by
  refine e17 hT (by simp) ?_
  simp only [finit]
  repeat' (first | with_reducible refine RK.seq ?_ | with_reducible refine RK.block ?_ | with_reducible refine RK.skip ?_ | with_reducible refine RK.ret ?_ | with_reducible refine RK.exit ?_ | with_reducible refine RK.regionK g17 ?_ | with_reducible refine RK.drawnK g17 ?_ | with_reducible refine RK.cnd ?_ | (simp (implicitDefEqProofs := false) (disch := omega) only [go_sem, ↓reduceIte, Nat.reduceEqDiff, Nat.reduceLT, Nat.reduceLeDiff, Nat.reduceAdd, Nat.reduceSub, Nat.reduceMul, reduceCtorEq, Int.reduceBEq, Int.reduceBNe, Int.reduceLT, Int.reduceLE, Int.reduceToNat, g17, hb]) | (with_reducible refine RCond.mk (fun ht => ?_) (fun ht => ?_) <;> try simp only [decide_eq_true_eq, decide_eq_false_iff_not, Bool.not_eq_eq_eq_not, Bool.not_true, Bool.not_false] at ht) | (with_reducible refine RReg.br (fun ht => ?_) (fun ht => ?_) <;> try simp only [decide_eq_true_eq, decide_eq_false_iff_not, Bool.not_eq_eq_eq_not, Bool.not_true, Bool.not_false] at ht))
  refine RK.lp [8, 7, 3] (fun k vs h => vs = [i64 0, i64 0, .bool false] ∧ h = H) 0 ⟨rfl, rfl⟩ ?_
  rintro k _ _ ⟨rfl, rfl⟩
  simp only [fzip, a17_l0]
  repeat' (first | with_reducible refine RK.seq ?_ | with_reducible refine RK.block ?_ | with_reducible refine RK.skip ?_ | with_reducible refine RK.ret ?_ | with_reducible refine RK.exit ?_ | with_reducible refine RK.regionK g17 ?_ | with_reducible refine RK.drawnK g17 ?_ | with_reducible refine RK.cnd ?_ | (simp (implicitDefEqProofs := false) (disch := omega) only [go_sem, ↓reduceIte, Nat.reduceEqDiff, Nat.reduceLT, Nat.reduceLeDiff, Nat.reduceAdd, Nat.reduceSub, Nat.reduceMul, reduceCtorEq, Int.reduceBEq, Int.reduceBNe, Int.reduceLT, Int.reduceLE, Int.reduceToNat, g17, Int.lt_irrefl]) | (with_reducible refine RCond.mk (fun ht => ?_) (fun ht => ?_) <;> try simp only [decide_eq_true_eq, decide_eq_false_iff_not, Bool.not_eq_eq_eq_not, Bool.not_true, Bool.not_false] at ht) | (with_reducible refine RReg.br (fun ht => ?_) (fun ht => ?_) <;> try simp only [decide_eq_true_eq, decide_eq_false_iff_not, Bool.not_eq_eq_eq_not, Bool.not_true, Bool.not_false] at ht))
  exact FnQ.ret rfl ⟨rfl, rfl⟩

set_option maxRecDepth 4000 in
theorem judge_nil {T : Tbl} (hT : Tb T) (l : List (List CallD)) (hs : Sized l) : Pur T 9 [callsPV l, .lst 0 true [], .lst 0 true [], .lst 0 true []] (i64 0) := by
  refine Pur.of (by simp [isDL, isD_calls, isD]) (by simp [isD]) fun R hR => e9 hT (by simp) ?_
  simp only [finit]
  repeat' (first | with_reducible refine RK.seq ?_ | with_reducible refine RK.block ?_ | with_reducible refine RK.skip ?_ | with_reducible refine RK.ret ?_ | with_reducible refine RK.exit ?_ | with_reducible refine RK.regionK g9 ?_ | with_reducible refine RK.drawnK g9 ?_ | with_reducible refine RK.cnd ?_ | (simp (implicitDefEqProofs := false) (disch := omega) only [go_sem, ↓reduceIte, Nat.reduceEqDiff, Nat.reduceLT, Nat.reduceLeDiff, Nat.reduceAdd, Nat.reduceSub, Nat.reduceMul, reduceCtorEq, Int.reduceBEq, Int.reduceBNe, Int.reduceLT, Int.reduceLE, Int.reduceToNat, g9]) | (with_reducible refine RCond.mk (fun ht => ?_) (fun ht => ?_) <;> try simp only [decide_eq_true_eq, decide_eq_false_iff_not, Bool.not_eq_eq_eq_not, Bool.not_true, Bool.not_false] at ht) | (with_reducible refine RReg.br (fun ht => ?_) (fun ht => ?_) <;> try simp only [decide_eq_true_eq, decide_eq_false_iff_not, Bool.not_eq_eq_eq_not, Bool.not_true, Bool.not_false] at ht))
  refine RCall.pure (states_nil hT l hs) ?_
  repeat' (first | with_reducible refine RK.seq ?_ | with_reducible refine RK.block ?_ | with_reducible refine RK.skip ?_ | with_reducible refine RK.ret ?_ | with_reducible refine RK.exit ?_ | with_reducible refine RK.regionK g9 ?_ | with_reducible refine RK.drawnK g9 ?_ | with_reducible refine RK.cnd ?_ | (simp (implicitDefEqProofs := false) (disch := omega) only [go_sem, ↓reduceIte, Nat.reduceEqDiff, Nat.reduceLT, Nat.reduceLeDiff, Nat.reduceAdd, Nat.reduceSub, Nat.reduceMul, reduceCtorEq, Int.reduceBEq, Int.reduceBNe, Int.reduceLT, Int.reduceLE, Int.reduceToNat, g9, dT, dF, callsPV, newPV]) | (with_reducible refine RCond.mk (fun ht => ?_) (fun ht => ?_) <;> try simp only [decide_eq_true_eq, decide_eq_false_iff_not, Bool.not_eq_eq_eq_not, Bool.not_true, Bool.not_false] at ht) | (with_reducible refine RReg.br (fun ht => ?_) (fun ht => ?_) <;> try simp only [decide_eq_true_eq, decide_eq_false_iff_not, Bool.not_eq_eq_eq_not, Bool.not_true, Bool.not_false] at ht))
  refine RK.lp [34, 33, 14, 11, 7] (fun k vs h => vs = [i64 0, i64 0, .un, .ptr 2 0 0, .ptr 0 0 0] ∧ h[0]? = some (.cells 0 [.lst 0 true []])) 0 ⟨rfl, rfl⟩ ?_
  rintro k _ h ⟨rfl, hb⟩
  simp only [fzip, a9_l0]
  repeat' (first | with_reducible refine RK.seq ?_ | with_reducible refine RK.block ?_ | with_reducible refine RK.skip ?_ | with_reducible refine RK.ret ?_ | with_reducible refine RK.exit ?_ | with_reducible refine RK.regionK g9 ?_ | with_reducible refine RK.drawnK g9 ?_ | with_reducible refine RK.cnd ?_ | (simp (implicitDefEqProofs := false) (disch := omega) only [go_sem, ↓reduceIte, Nat.reduceEqDiff, Nat.reduceLT, Nat.reduceLeDiff, Nat.reduceAdd, Nat.reduceSub, Nat.reduceMul, reduceCtorEq, Int.reduceBEq, Int.reduceBNe, Int.reduceLT, Int.reduceLE, Int.reduceToNat, g9, Int.lt_irrefl]) | (with_reducible refine RCond.mk (fun ht => ?_) (fun ht => ?_) <;> try simp only [decide_eq_true_eq, decide_eq_false_iff_not, Bool.not_eq_eq_eq_not, Bool.not_true, Bool.not_false] at ht) | (with_reducible refine RReg.br (fun ht => ?_) (fun ht => ?_) <;> try simp only [decide_eq_true_eq, decide_eq_false_iff_not, Bool.not_eq_eq_eq_not, Bool.not_true, Bool.not_false] at ht))
  refine RCall.of (all_nil hT _ 0 h hb) ?_
  rintro _ _ ⟨rfl, rfl⟩
  repeat' (first | with_reducible refine RK.seq ?_ | with_reducible refine RK.block ?_ | with_reducible refine RK.skip ?_ | with_reducible refine RK.ret ?_ | with_reducible refine RK.exit ?_ | with_reducible refine RK.regionK g9 ?_ | with_reducible refine RK.drawnK g9 ?_ | with_reducible refine RK.cnd ?_ | (simp (implicitDefEqProofs := false) (disch := omega) only [go_sem, ↓reduceIte, Nat.reduceEqDiff, Nat.reduceLT, Nat.reduceLeDiff, Nat.reduceAdd, Nat.reduceSub, Nat.reduceMul, reduceCtorEq, Int.reduceBEq, Int.reduceBNe, Int.reduceLT, Int.reduceLE, Int.reduceToNat, g9]) | (with_reducible refine RCond.mk (fun ht => ?_) (fun ht => ?_) <;> try simp only [decide_eq_true_eq, decide_eq_false_iff_not, Bool.not_eq_eq_eq_not, Bool.not_true, Bool.not_false] at ht) | (with_reducible refine RReg.br (fun ht => ?_) (fun ht => ?_) <;> try simp only [decide_eq_true_eq, decide_eq_false_iff_not, Bool.not_eq_eq_eq_not, Bool.not_true, Bool.not_false] at ht))
  refine RCall.of (all_nil hT _ 0 _ hb) ?_
  rintro _ _ ⟨rfl, rfl⟩
  repeat' (first | with_reducible refine RK.seq ?_ | with_reducible refine RK.block ?_ | with_reducible refine RK.skip ?_ | with_reducible refine RK.ret ?_ | with_reducible refine RK.exit ?_ | with_reducible refine RK.regionK g9 ?_ | with_reducible refine RK.drawnK g9 ?_ | with_reducible refine RK.cnd ?_ | (simp (implicitDefEqProofs := false) (disch := omega) only [go_sem, ↓reduceIte, Nat.reduceEqDiff, Nat.reduceLT, Nat.reduceLeDiff, Nat.reduceAdd, Nat.reduceSub, Nat.reduceMul, reduceCtorEq, Int.reduceBEq, Int.reduceBNe, Int.reduceLT, Int.reduceLE, Int.reduceToNat, g9]) | (with_reducible refine RCond.mk (fun ht => ?_) (fun ht => ?_) <;> try simp only [decide_eq_true_eq, decide_eq_false_iff_not, Bool.not_eq_eq_eq_not, Bool.not_true, Bool.not_false] at ht) | (with_reducible refine RReg.br (fun ht => ?_) (fun ht => ?_) <;> try simp only [decide_eq_true_eq, decide_eq_false_iff_not, Bool.not_eq_eq_eq_not, Bool.not_true, Bool.not_false] at ht))
  refine RCall.of (all_nil hT _ 0 _ hb) ?_
  rintro _ _ ⟨rfl, rfl⟩
  repeat' (first | with_reducible refine RK.seq ?_ | with_reducible refine RK.block ?_ | with_reducible refine RK.skip ?_ | with_reducible refine RK.ret ?_ | with_reducible refine RK.exit ?_ | with_reducible refine RK.regionK g9 ?_ | with_reducible refine RK.drawnK g9 ?_ | with_reducible refine RK.cnd ?_ | (simp (implicitDefEqProofs := false) (disch := omega) only [go_sem, ↓reduceIte, Nat.reduceEqDiff, Nat.reduceLT, Nat.reduceLeDiff, Nat.reduceAdd, Nat.reduceSub, Nat.reduceMul, reduceCtorEq, Int.reduceBEq, Int.reduceBNe, Int.reduceLT, Int.reduceLE, Int.reduceToNat, g9]) | (with_reducible refine RCond.mk (fun ht => ?_) (fun ht => ?_) <;> try simp only [decide_eq_true_eq, decide_eq_false_iff_not, Bool.not_eq_eq_eq_not, Bool.not_true, Bool.not_false] at ht) | (with_reducible refine RReg.br (fun ht => ?_) (fun ht => ?_) <;> try simp only [decide_eq_true_eq, decide_eq_false_iff_not, Bool.not_eq_eq_eq_not, Bool.not_true, Bool.not_false] at ht))
  exact FnQ.ret rfl (hR _)

/-- A call that is not there. -/
theorem ccall_ok {T : Tbl} (hT : Tb T) (l : List (List CallD)) (hs : Sized l) (id at_ : Int) (b : Nat) (H : PH) (cs : List PV) (hb : H[b]? = some (.cells 0 (callsPV l :: cs))) :
    PEv T (.fn 30) [.ptr b 0 0, .agg (evCells id at_)] H fun r _ => r = .ok (.tup [((callAt l id at_).getD noCall).pv, .bool (callAt l id at_).isSome]) := by
  refine e30 hT (by simp) ?_
  have hh := (List.getElem?_eq_some_iff.1 hb).1
  simp only [finit, evCells]
  repeat' (first | with_reducible refine RK.seq ?_ | with_reducible refine RK.block ?_ | with_reducible refine RK.skip ?_ | with_reducible refine RK.ret ?_ | with_reducible refine RK.exit ?_ | with_reducible refine RK.regionK g30 ?_ | with_reducible refine RK.drawnK g30 ?_ | with_reducible refine RK.cnd ?_ | (simp (implicitDefEqProofs := false) (disch := omega) only [go_sem, ↓reduceIte, Nat.reduceEqDiff, Nat.reduceLT, Nat.reduceLeDiff, Nat.reduceAdd, Nat.reduceSub, Nat.reduceMul, reduceCtorEq, Int.reduceBEq, Int.reduceBNe, Int.reduceLT, Int.reduceLE, Int.reduceToNat, g30, hb]) | (with_reducible refine RCond.mk (fun ht => ?_) (fun ht => ?_) <;> try simp only [decide_eq_true_eq, decide_eq_false_iff_not, Bool.not_eq_eq_eq_not, Bool.not_true, Bool.not_false] at ht) | (with_reducible refine RReg.br (fun ht => ?_) (fun ht => ?_) <;> try simp only [decide_eq_true_eq, decide_eq_false_iff_not, Bool.not_eq_eq_eq_not, Bool.not_true, Bool.not_false] at ht))
  refine RCall.pure (call_ok hT l hs id at_) ?_
  repeat' (first | with_reducible refine RK.seq ?_ | with_reducible refine RK.block ?_ | with_reducible refine RK.skip ?_ | with_reducible refine RK.ret ?_ | with_reducible refine RK.exit ?_ | with_reducible refine RK.regionK g30 ?_ | with_reducible refine RK.drawnK g30 ?_ | with_reducible refine RK.cnd ?_ | (simp (implicitDefEqProofs := false) (disch := omega) only [go_sem, ↓reduceIte, Nat.reduceEqDiff, Nat.reduceLT, Nat.reduceLeDiff, Nat.reduceAdd, Nat.reduceSub, Nat.reduceMul, reduceCtorEq, Int.reduceBEq, Int.reduceBNe, Int.reduceLT, Int.reduceLE, Int.reduceToNat, g30, CallD.pv, CallD.cs]) | (with_reducible refine RCond.mk (fun ht => ?_) (fun ht => ?_) <;> try simp only [decide_eq_true_eq, decide_eq_false_iff_not, Bool.not_eq_eq_eq_not, Bool.not_true, Bool.not_false] at ht) | (with_reducible refine RReg.br (fun ht => ?_) (fun ht => ?_) <;> try simp only [decide_eq_true_eq, decide_eq_false_iff_not, Bool.not_eq_eq_eq_not, Bool.not_true, Bool.not_false] at ht))
  refine FnQ.ret ?_ rfl
  simp (implicitDefEqProofs := false) (disch := omega) only [go_sem, ↓reduceIte, Nat.reduceEqDiff, Nat.reduceLT, Nat.reduceLeDiff, Nat.reduceAdd, Nat.reduceSub, Nat.reduceMul, reduceCtorEq, Int.reduceBEq, Int.reduceBNe, Int.reduceLT, Int.reduceLE, Int.reduceToNat, CallD.pv, CallD.cs]

theorem answered_none {T : Tbl} (hT : Tb T) (l : List (List CallD)) (hs : Sized l) (id at_ : Int) (hc : callAt l id at_ = none) (b : Nat) (H : PH) (cs : List PV) (hb : H[b]? = some (.cells 0 (callsPV l :: cs))) :
    PEv T (.fn 18) [.ptr b 0 0, .agg (evCells id at_)] H fun r _ => r = .ok (.bool false) := by
  refine e18 hT (by simp) ?_
  have hh := (List.getElem?_eq_some_iff.1 hb).1
  simp only [finit, evCells]
  repeat' (first | with_reducible refine RK.seq ?_ | with_reducible refine RK.block ?_ | with_reducible refine RK.skip ?_ | with_reducible refine RK.ret ?_ | with_reducible refine RK.exit ?_ | with_reducible refine RK.regionK g18 ?_ | with_reducible refine RK.drawnK g18 ?_ | with_reducible refine RK.cnd ?_ | (simp (implicitDefEqProofs := false) (disch := omega) only [go_sem, ↓reduceIte, Nat.reduceEqDiff, Nat.reduceLT, Nat.reduceLeDiff, Nat.reduceAdd, Nat.reduceSub, Nat.reduceMul, reduceCtorEq, Int.reduceBEq, Int.reduceBNe, Int.reduceLT, Int.reduceLE, Int.reduceToNat, g18, hb]) | (with_reducible refine RCond.mk (fun ht => ?_) (fun ht => ?_) <;> try simp only [decide_eq_true_eq, decide_eq_false_iff_not, Bool.not_eq_eq_eq_not, Bool.not_true, Bool.not_false] at ht) | (with_reducible refine RReg.br (fun ht => ?_) (fun ht => ?_) <;> try simp only [decide_eq_true_eq, decide_eq_false_iff_not, Bool.not_eq_eq_eq_not, Bool.not_true, Bool.not_false] at ht))
  refine RCall.of (ccall_ok hT l hs id at_ b _ cs (by rw [get_lo _ _ _ hh]; exact hb)) ?_
  rintro _ H' rfl
  rw [hc]
  repeat' (first | with_reducible refine RK.seq ?_ | with_reducible refine RK.block ?_ | with_reducible refine RK.skip ?_ | with_reducible refine RK.ret ?_ | with_reducible refine RK.exit ?_ | with_reducible refine RK.regionK g18 ?_ | with_reducible refine RK.drawnK g18 ?_ | with_reducible refine RK.cnd ?_ | (simp (implicitDefEqProofs := false) (disch := omega) only [go_sem, ↓reduceIte, Nat.reduceEqDiff, Nat.reduceLT, Nat.reduceLeDiff, Nat.reduceAdd, Nat.reduceSub, Nat.reduceMul, reduceCtorEq, Int.reduceBEq, Int.reduceBNe, Int.reduceLT, Int.reduceLE, Int.reduceToNat, g18, CallD.pv, CallD.cs, Option.getD_none, Option.isSome_none, noCall]) | (with_reducible refine RCond.mk (fun ht => ?_) (fun ht => ?_) <;> try simp only [decide_eq_true_eq, decide_eq_false_iff_not, Bool.not_eq_eq_eq_not, Bool.not_true, Bool.not_false] at ht) | (with_reducible refine RReg.br (fun ht => ?_) (fun ht => ?_) <;> try simp only [decide_eq_true_eq, decide_eq_false_iff_not, Bool.not_eq_eq_eq_not, Bool.not_true, Bool.not_false] at ht))
  exact FnQ.ret rfl rfl

set_option maxRecDepth 4000 in
theorem all_one {T : Tbl} (hT : Tb T) (l : List (List CallD)) (hs : Sized l) (id at_ : Int) (hc : callAt l id at_ = none) (b c : Nat) (H : PH) (cs : List PV) (hcc : H[c]? = some (.cells 0 (callsPV l :: cs))) (hb : H[b]? = some (.cells 0 [.lst 10 true [.agg (evCells id at_)]])) :
    PEv T (.fn 17) [.fn 18 [.ptr c 0 0] [], .ptr b 0 0] H fun r _ => r = .ok (.bool false) := by
  refine e17 hT (by simp) ?_
  have hh := (List.getElem?_eq_some_iff.1 hcc).1
  simp only [finit]
  repeat' (first | with_reducible refine RK.seq ?_ | with_reducible refine RK.block ?_ | with_reducible refine RK.skip ?_ | with_reducible refine RK.ret ?_ | with_reducible refine RK.exit ?_ | with_reducible refine RK.regionK g17 ?_ | with_reducible refine RK.drawnK g17 ?_ | with_reducible refine RK.cnd ?_ | (simp (implicitDefEqProofs := false) (disch := omega) only [go_sem, ↓reduceIte, Nat.reduceEqDiff, Nat.reduceLT, Nat.reduceLeDiff, Nat.reduceAdd, Nat.reduceSub, Nat.reduceMul, reduceCtorEq, Int.reduceBEq, Int.reduceBNe, Int.reduceLT, Int.reduceLE, Int.reduceToNat, g17, hb]) | (with_reducible refine RCond.mk (fun ht => ?_) (fun ht => ?_) <;> try simp only [decide_eq_true_eq, decide_eq_false_iff_not, Bool.not_eq_eq_eq_not, Bool.not_true, Bool.not_false] at ht) | (with_reducible refine RReg.br (fun ht => ?_) (fun ht => ?_) <;> try simp only [decide_eq_true_eq, decide_eq_false_iff_not, Bool.not_eq_eq_eq_not, Bool.not_true, Bool.not_false] at ht))
  refine RK.lp [8, 7, 6, 3, 0] (fun k vs h => vs = [i64 0, i64 1, .lst 10 true [.agg (evCells id at_)], .bool false, .fn 18 [.ptr c 0 0] []] ∧ h = H) 0 ⟨rfl, rfl⟩ ?_
  rintro k _ _ ⟨rfl, rfl⟩
  simp only [fzip, a17_l0, evCells]
  repeat' (first | with_reducible refine RK.seq ?_ | with_reducible refine RK.block ?_ | with_reducible refine RK.skip ?_ | with_reducible refine RK.ret ?_ | with_reducible refine RK.exit ?_ | with_reducible refine RK.regionK g17 ?_ | with_reducible refine RK.drawnK g17 ?_ | with_reducible refine RK.cnd ?_ | (simp (implicitDefEqProofs := false) (disch := omega) only [go_sem, ↓reduceIte, Nat.reduceEqDiff, Nat.reduceLT, Nat.reduceLeDiff, Nat.reduceAdd, Nat.reduceSub, Nat.reduceMul, reduceCtorEq, Int.reduceBEq, Int.reduceBNe, Int.reduceLT, Int.reduceLE, Int.reduceToNat, g17]) | (with_reducible refine RCond.mk (fun ht => ?_) (fun ht => ?_) <;> try simp only [decide_eq_true_eq, decide_eq_false_iff_not, Bool.not_eq_eq_eq_not, Bool.not_true, Bool.not_false] at ht) | (with_reducible refine RReg.br (fun ht => ?_) (fun ht => ?_) <;> try simp only [decide_eq_true_eq, decide_eq_false_iff_not, Bool.not_eq_eq_eq_not, Bool.not_true, Bool.not_false] at ht))
  refine RCall.of (answered_none hT l hs id at_ hc c _ cs (by rw [get_lo _ _ _ hh]; exact hcc)) ?_
  rintro _ H' rfl
  repeat' (first | with_reducible refine RK.seq ?_ | with_reducible refine RK.block ?_ | with_reducible refine RK.skip ?_ | with_reducible refine RK.ret ?_ | with_reducible refine RK.exit ?_ | with_reducible refine RK.regionK g17 ?_ | with_reducible refine RK.drawnK g17 ?_ | with_reducible refine RK.cnd ?_ | (simp (implicitDefEqProofs := false) (disch := omega) only [go_sem, ↓reduceIte, Nat.reduceEqDiff, Nat.reduceLT, Nat.reduceLeDiff, Nat.reduceAdd, Nat.reduceSub, Nat.reduceMul, reduceCtorEq, Int.reduceBEq, Int.reduceBNe, Int.reduceLT, Int.reduceLE, Int.reduceToNat, g17]) | (with_reducible refine RCond.mk (fun ht => ?_) (fun ht => ?_) <;> try simp only [decide_eq_true_eq, decide_eq_false_iff_not, Bool.not_eq_eq_eq_not, Bool.not_true, Bool.not_false] at ht) | (with_reducible refine RReg.br (fun ht => ?_) (fun ht => ?_) <;> try simp only [decide_eq_true_eq, decide_eq_false_iff_not, Bool.not_eq_eq_eq_not, Bool.not_true, Bool.not_false] at ht))
  exact FnQ.ret rfl rfl

theorem judge_none {T : Tbl} (hT : Tb T) (l : List (List CallD)) (hs : Sized l) (id at_ : Int) (hc : callAt l id at_ = none) : Pur T 9 [callsPV l, .lst 0 true [], .lst 1 true [i64 0], .lst 10 true [.agg (evCells id at_)]] (i64 3) := by
  refine Pur.of (by simp [isDL, isD_calls, isD, evCells]) (by simp [isD]) fun R hR => e9 hT (by simp) ?_
  simp only [finit]
  repeat' (first | with_reducible refine RK.seq ?_ | with_reducible refine RK.block ?_ | with_reducible refine RK.skip ?_ | with_reducible refine RK.ret ?_ | with_reducible refine RK.exit ?_ | with_reducible refine RK.regionK g9 ?_ | with_reducible refine RK.drawnK g9 ?_ | with_reducible refine RK.cnd ?_ | (simp (implicitDefEqProofs := false) (disch := omega) only [go_sem, ↓reduceIte, Nat.reduceEqDiff, Nat.reduceLT, Nat.reduceLeDiff, Nat.reduceAdd, Nat.reduceSub, Nat.reduceMul, reduceCtorEq, Int.reduceBEq, Int.reduceBNe, Int.reduceLT, Int.reduceLE, Int.reduceToNat, g9]) | (with_reducible refine RCond.mk (fun ht => ?_) (fun ht => ?_) <;> try simp only [decide_eq_true_eq, decide_eq_false_iff_not, Bool.not_eq_eq_eq_not, Bool.not_true, Bool.not_false] at ht) | (with_reducible refine RReg.br (fun ht => ?_) (fun ht => ?_) <;> try simp only [decide_eq_true_eq, decide_eq_false_iff_not, Bool.not_eq_eq_eq_not, Bool.not_true, Bool.not_false] at ht))
  refine RCall.pure (states_nil hT l hs) ?_
  repeat' (first | with_reducible refine RK.seq ?_ | with_reducible refine RK.block ?_ | with_reducible refine RK.skip ?_ | with_reducible refine RK.ret ?_ | with_reducible refine RK.exit ?_ | with_reducible refine RK.regionK g9 ?_ | with_reducible refine RK.drawnK g9 ?_ | with_reducible refine RK.cnd ?_ | (simp (implicitDefEqProofs := false) (disch := omega) only [go_sem, ↓reduceIte, Nat.reduceEqDiff, Nat.reduceLT, Nat.reduceLeDiff, Nat.reduceAdd, Nat.reduceSub, Nat.reduceMul, reduceCtorEq, Int.reduceBEq, Int.reduceBNe, Int.reduceLT, Int.reduceLE, Int.reduceToNat, g9, dT, dF, callsPV, newPV]) | (with_reducible refine RCond.mk (fun ht => ?_) (fun ht => ?_) <;> try simp only [decide_eq_true_eq, decide_eq_false_iff_not, Bool.not_eq_eq_eq_not, Bool.not_true, Bool.not_false] at ht) | (with_reducible refine RReg.br (fun ht => ?_) (fun ht => ?_) <;> try simp only [decide_eq_true_eq, decide_eq_false_iff_not, Bool.not_eq_eq_eq_not, Bool.not_true, Bool.not_false] at ht))
  refine RK.lp [34, 33, 14, 11, 7] (fun k vs h => vs = [i64 0, i64 0, .un, .ptr 2 0 0, .ptr 0 0 0] ∧ h[0]? = some (.cells 0 [.lst 10 true [.agg (evCells id at_)]]) ∧ ∃ cs, h[2]? = some (.cells 0 (callsPV l :: cs))) 0 ⟨rfl, rfl, _, rfl⟩ ?_
  rintro k _ h ⟨rfl, hb, cs, hc2⟩
  simp only [fzip, a9_l0]
  repeat' (first | with_reducible refine RK.seq ?_ | with_reducible refine RK.block ?_ | with_reducible refine RK.skip ?_ | with_reducible refine RK.ret ?_ | with_reducible refine RK.exit ?_ | with_reducible refine RK.regionK g9 ?_ | with_reducible refine RK.drawnK g9 ?_ | with_reducible refine RK.cnd ?_ | (simp (implicitDefEqProofs := false) (disch := omega) only [go_sem, ↓reduceIte, Nat.reduceEqDiff, Nat.reduceLT, Nat.reduceLeDiff, Nat.reduceAdd, Nat.reduceSub, Nat.reduceMul, reduceCtorEq, Int.reduceBEq, Int.reduceBNe, Int.reduceLT, Int.reduceLE, Int.reduceToNat, g9, Int.lt_irrefl]) | (with_reducible refine RCond.mk (fun ht => ?_) (fun ht => ?_) <;> try simp only [decide_eq_true_eq, decide_eq_false_iff_not, Bool.not_eq_eq_eq_not, Bool.not_true, Bool.not_false] at ht) | (with_reducible refine RReg.br (fun ht => ?_) (fun ht => ?_) <;> try simp only [decide_eq_true_eq, decide_eq_false_iff_not, Bool.not_eq_eq_eq_not, Bool.not_true, Bool.not_false] at ht))
  refine RCall.of (all_one hT l hs id at_ hc 0 2 h cs hc2 hb) ?_
  rintro _ H' rfl
  repeat' (first | with_reducible refine RK.seq ?_ | with_reducible refine RK.block ?_ | with_reducible refine RK.skip ?_ | with_reducible refine RK.ret ?_ | with_reducible refine RK.exit ?_ | with_reducible refine RK.regionK g9 ?_ | with_reducible refine RK.drawnK g9 ?_ | with_reducible refine RK.cnd ?_ | (simp (implicitDefEqProofs := false) (disch := omega) only [go_sem, ↓reduceIte, Nat.reduceEqDiff, Nat.reduceLT, Nat.reduceLeDiff, Nat.reduceAdd, Nat.reduceSub, Nat.reduceMul, reduceCtorEq, Int.reduceBEq, Int.reduceBNe, Int.reduceLT, Int.reduceLE, Int.reduceToNat, g9]) | (with_reducible refine RCond.mk (fun ht => ?_) (fun ht => ?_) <;> try simp only [decide_eq_true_eq, decide_eq_false_iff_not, Bool.not_eq_eq_eq_not, Bool.not_true, Bool.not_false] at ht) | (with_reducible refine RReg.br (fun ht => ?_) (fun ht => ?_) <;> try simp only [decide_eq_true_eq, decide_eq_false_iff_not, Bool.not_eq_eq_eq_not, Bool.not_true, Bool.not_false] at ht))
  exact FnQ.ret rfl (hR _)

theorem nc1 : ((1 : Nat) : Int) = 1 := rfl

theorem judge_call {T : Tbl} (hT : Tb T) (l : List (List CallD)) (hs : Sized l) (id at_ : Int) (hc : callAt l id at_ = none) :
    PEv T (.fn 9) [callsPV l, .lst 0 true [], .sl 0 0 0 1 (.k 1), .sl 1 0 0 1 (.k 1)] [.cells 0 [i64 0], .cells 0 (evCells id at_)] fun r _ => r = .ok (i64 3) :=
  PEv.gh (Gh.frz 0 0 rfl (.cons (.same _) (.cons (.same _) (.cons (.slk (xs := [i64 0]) (sz := 1) rfl (by simp) (by simp [ecs]) (by simp [ecs])) (.cons (.same _) .nil))))
    (PEv.gh (Gh.frz 1 0 rfl (.cons (.same _) (.cons (.same _) (.cons (.same _) (.cons (.slk (xs := [.agg (evCells id at_)]) (sz := 10) rfl (by simp [evCells]) (by simp [ecs, evCells]) (by simp [ecs, evCells])) .nil))))
      ((judge_none hT l hs id at_ hc _).mono fun r _ h => h.1))))

set_option maxRecDepth 4000 in
theorem law_none {T : Tbl} (hT : Tb T) (h7 : T 7 = some (.prim (closed (.bool true)))) (l : List (List CallD)) (hs : Sized l) (id at_ : Int) : PEv T (.fn 4) [callsPV l, i64 id, i64 at_] [] fun r _ => r = .ok (.bool true) := by
  refine e4 hT (by simp) ?_
  have hlen := hs.len
  simp only [finit]
  repeat' (first | with_reducible refine RK.seq ?_ | with_reducible refine RK.block ?_ | with_reducible refine RK.skip ?_ | with_reducible refine RK.ret ?_ | with_reducible refine RK.exit ?_ | with_reducible refine RK.regionK g4 ?_ | with_reducible refine RK.drawnK g4 ?_ | with_reducible refine RK.cnd ?_ | (simp (implicitDefEqProofs := false) (disch := omega) only [go_sem, ↓reduceIte, Nat.reduceEqDiff, Nat.reduceLT, Nat.reduceLeDiff, Nat.reduceAdd, Nat.reduceSub, Nat.reduceMul, reduceCtorEq, Int.reduceBEq, Int.reduceBNe, Int.reduceLT, Int.reduceLE, Int.reduceToNat, g4]) | (with_reducible refine RCond.mk (fun ht => ?_) (fun ht => ?_) <;> try simp only [decide_eq_true_eq, decide_eq_false_iff_not, Bool.not_eq_eq_eq_not, Bool.not_true, Bool.not_false] at ht) | (with_reducible refine RReg.br (fun ht => ?_) (fun ht => ?_) <;> try simp only [decide_eq_true_eq, decide_eq_false_iff_not, Bool.not_eq_eq_eq_not, Bool.not_true, Bool.not_false] at ht))
  refine RCall.pure (few_ok hT l hs) ?_
  repeat' (first | with_reducible refine RK.seq ?_ | with_reducible refine RK.block ?_ | with_reducible refine RK.skip ?_ | with_reducible refine RK.ret ?_ | with_reducible refine RK.exit ?_ | with_reducible refine RK.regionK g4 ?_ | with_reducible refine RK.drawnK g4 ?_ | with_reducible refine RK.cnd ?_ | (simp (implicitDefEqProofs := false) (disch := omega) only [go_sem, ↓reduceIte, Nat.reduceEqDiff, Nat.reduceLT, Nat.reduceLeDiff, Nat.reduceAdd, Nat.reduceSub, Nat.reduceMul, reduceCtorEq, Int.reduceBEq, Int.reduceBNe, Int.reduceLT, Int.reduceLE, Int.reduceToNat, g4]) | (with_reducible refine RCond.mk (fun ht => ?_) (fun ht => ?_) <;> try simp only [decide_eq_true_eq, decide_eq_false_iff_not, Bool.not_eq_eq_eq_not, Bool.not_true, Bool.not_false] at ht) | (with_reducible refine RReg.br (fun ht => ?_) (fun ht => ?_) <;> try simp only [decide_eq_true_eq, decide_eq_false_iff_not, Bool.not_eq_eq_eq_not, Bool.not_true, Bool.not_false] at ht))
  · refine RCall.pure (closed_pur h7) ?_
    repeat' (first | with_reducible refine RK.seq ?_ | with_reducible refine RK.block ?_ | with_reducible refine RK.skip ?_ | with_reducible refine RK.ret ?_ | with_reducible refine RK.exit ?_ | with_reducible refine RK.regionK g4 ?_ | with_reducible refine RK.drawnK g4 ?_ | with_reducible refine RK.cnd ?_ | (simp (implicitDefEqProofs := false) (disch := omega) only [go_sem, ↓reduceIte, Nat.reduceEqDiff, Nat.reduceLT, Nat.reduceLeDiff, Nat.reduceAdd, Nat.reduceSub, Nat.reduceMul, reduceCtorEq, Int.reduceBEq, Int.reduceBNe, Int.reduceLT, Int.reduceLE, Int.reduceToNat, g4]) | (with_reducible refine RCond.mk (fun ht => ?_) (fun ht => ?_) <;> try simp only [decide_eq_true_eq, decide_eq_false_iff_not, Bool.not_eq_eq_eq_not, Bool.not_true, Bool.not_false] at ht) | (with_reducible refine RReg.br (fun ht => ?_) (fun ht => ?_) <;> try simp only [decide_eq_true_eq, decide_eq_false_iff_not, Bool.not_eq_eq_eq_not, Bool.not_true, Bool.not_false] at ht))
    refine RCall.pureLe (LeL.cons (Le.refl _) (LeL.refl _)) (states_nil hT l hs) ?_
    repeat' (first | with_reducible refine RK.seq ?_ | with_reducible refine RK.block ?_ | with_reducible refine RK.skip ?_ | with_reducible refine RK.ret ?_ | with_reducible refine RK.exit ?_ | with_reducible refine RK.regionK g4 ?_ | with_reducible refine RK.drawnK g4 ?_ | with_reducible refine RK.cnd ?_ | (simp (implicitDefEqProofs := false) (disch := omega) only [go_sem, ↓reduceIte, Nat.reduceEqDiff, Nat.reduceLT, Nat.reduceLeDiff, Nat.reduceAdd, Nat.reduceSub, Nat.reduceMul, reduceCtorEq, Int.reduceBEq, Int.reduceBNe, Int.reduceLT, Int.reduceLE, Int.reduceToNat, g4, newPV, nc1]) | (with_reducible refine RCond.mk (fun ht => ?_) (fun ht => ?_) <;> try simp only [decide_eq_true_eq, decide_eq_false_iff_not, Bool.not_eq_eq_eq_not, Bool.not_true, Bool.not_false] at ht) | (with_reducible refine RReg.br (fun ht => ?_) (fun ht => ?_) <;> try simp only [decide_eq_true_eq, decide_eq_false_iff_not, Bool.not_eq_eq_eq_not, Bool.not_true, Bool.not_false] at ht))
    refine RCall.pure (judge_nil hT l hs) ?_
    by_cases h1 : 0 ≤ id ∧ id < l.length
    · obtain ⟨r, hr, hrm, _⟩ := get_some (l := l) (i := id.toNat) (by omega)
      have hrl := hs.rows r hrm
      repeat' (first | with_reducible refine RK.seq ?_ | with_reducible refine RK.block ?_ | with_reducible refine RK.skip ?_ | with_reducible refine RK.ret ?_ | with_reducible refine RK.exit ?_ | with_reducible refine RK.regionK g4 ?_ | with_reducible refine RK.drawnK g4 ?_ | with_reducible refine RK.cnd ?_ | (simp (implicitDefEqProofs := false) (disch := omega) only [go_sem, ↓reduceIte, Nat.reduceEqDiff, Nat.reduceLT, Nat.reduceLeDiff, Nat.reduceAdd, Nat.reduceSub, Nat.reduceMul, reduceCtorEq, Int.reduceBEq, Int.reduceBNe, Int.reduceLT, Int.reduceLE, Int.reduceToNat, g4, callsPV, hr, rowPV, dT, dF, nc1]) | (with_reducible refine RCond.mk (fun ht => ?_) (fun ht => ?_) <;> try simp only [decide_eq_true_eq, decide_eq_false_iff_not, Bool.not_eq_eq_eq_not, Bool.not_true, Bool.not_false] at ht) | (with_reducible refine RReg.br (fun ht => ?_) (fun ht => ?_) <;> try simp only [decide_eq_true_eq, decide_eq_false_iff_not, Bool.not_eq_eq_eq_not, Bool.not_true, Bool.not_false] at ht))
      any_goals exact FnQ.ret rfl rfl
      all_goals
        refine RCall.of (judge_call hT l hs id at_ (callAt_row hr (by omega))) ?_
        rintro _ H' rfl
        repeat' (first | with_reducible refine RK.seq ?_ | with_reducible refine RK.block ?_ | with_reducible refine RK.skip ?_ | with_reducible refine RK.ret ?_ | with_reducible refine RK.exit ?_ | with_reducible refine RK.regionK g4 ?_ | with_reducible refine RK.drawnK g4 ?_ | with_reducible refine RK.cnd ?_ | (simp (implicitDefEqProofs := false) (disch := omega) only [go_sem, ↓reduceIte, Nat.reduceEqDiff, Nat.reduceLT, Nat.reduceLeDiff, Nat.reduceAdd, Nat.reduceSub, Nat.reduceMul, reduceCtorEq, Int.reduceBEq, Int.reduceBNe, Int.reduceLT, Int.reduceLE, Int.reduceToNat, g4]) | (with_reducible refine RCond.mk (fun ht => ?_) (fun ht => ?_) <;> try simp only [decide_eq_true_eq, decide_eq_false_iff_not, Bool.not_eq_eq_eq_not, Bool.not_true, Bool.not_false] at ht) | (with_reducible refine RReg.br (fun ht => ?_) (fun ht => ?_) <;> try simp only [decide_eq_true_eq, decide_eq_false_iff_not, Bool.not_eq_eq_eq_not, Bool.not_true, Bool.not_false] at ht))
        exact FnQ.ret rfl rfl
    · repeat' (first | with_reducible refine RK.seq ?_ | with_reducible refine RK.block ?_ | with_reducible refine RK.skip ?_ | with_reducible refine RK.ret ?_ | with_reducible refine RK.exit ?_ | with_reducible refine RK.regionK g4 ?_ | with_reducible refine RK.drawnK g4 ?_ | with_reducible refine RK.cnd ?_ | (simp (implicitDefEqProofs := false) (disch := omega) only [go_sem, ↓reduceIte, Nat.reduceEqDiff, Nat.reduceLT, Nat.reduceLeDiff, Nat.reduceAdd, Nat.reduceSub, Nat.reduceMul, reduceCtorEq, Int.reduceBEq, Int.reduceBNe, Int.reduceLT, Int.reduceLE, Int.reduceToNat, g4, callsPV, dT, dF, nc1]) | (with_reducible refine RCond.mk (fun ht => ?_) (fun ht => ?_) <;> try simp only [decide_eq_true_eq, decide_eq_false_iff_not, Bool.not_eq_eq_eq_not, Bool.not_true, Bool.not_false] at ht) | (with_reducible refine RReg.br (fun ht => ?_) (fun ht => ?_) <;> try simp only [decide_eq_true_eq, decide_eq_false_iff_not, Bool.not_eq_eq_eq_not, Bool.not_true, Bool.not_false] at ht))
      all_goals
        refine RCall.of (judge_call hT l hs id at_ (callAt_none (by omega))) ?_
        rintro _ H' rfl
        repeat' (first | with_reducible refine RK.seq ?_ | with_reducible refine RK.block ?_ | with_reducible refine RK.skip ?_ | with_reducible refine RK.ret ?_ | with_reducible refine RK.exit ?_ | with_reducible refine RK.regionK g4 ?_ | with_reducible refine RK.drawnK g4 ?_ | with_reducible refine RK.cnd ?_ | (simp (implicitDefEqProofs := false) (disch := omega) only [go_sem, ↓reduceIte, Nat.reduceEqDiff, Nat.reduceLT, Nat.reduceLeDiff, Nat.reduceAdd, Nat.reduceSub, Nat.reduceMul, reduceCtorEq, Int.reduceBEq, Int.reduceBNe, Int.reduceLT, Int.reduceLE, Int.reduceToNat, g4]) | (with_reducible refine RCond.mk (fun ht => ?_) (fun ht => ?_) <;> try simp only [decide_eq_true_eq, decide_eq_false_iff_not, Bool.not_eq_eq_eq_not, Bool.not_true, Bool.not_false] at ht) | (with_reducible refine RReg.br (fun ht => ?_) (fun ht => ?_) <;> try simp only [decide_eq_true_eq, decide_eq_false_iff_not, Bool.not_eq_eq_eq_not, Bool.not_true, Bool.not_false] at ht))
        exact FnQ.ret rfl rfl
  · refine RCall.pure (closed_pur h7) ?_
    repeat' (first | with_reducible refine RK.seq ?_ | with_reducible refine RK.block ?_ | with_reducible refine RK.skip ?_ | with_reducible refine RK.ret ?_ | with_reducible refine RK.exit ?_ | with_reducible refine RK.regionK g4 ?_ | with_reducible refine RK.drawnK g4 ?_ | with_reducible refine RK.cnd ?_ | (simp (implicitDefEqProofs := false) (disch := omega) only [go_sem, ↓reduceIte, Nat.reduceEqDiff, Nat.reduceLT, Nat.reduceLeDiff, Nat.reduceAdd, Nat.reduceSub, Nat.reduceMul, reduceCtorEq, Int.reduceBEq, Int.reduceBNe, Int.reduceLT, Int.reduceLE, Int.reduceToNat, g4]) | (with_reducible refine RCond.mk (fun ht => ?_) (fun ht => ?_) <;> try simp only [decide_eq_true_eq, decide_eq_false_iff_not, Bool.not_eq_eq_eq_not, Bool.not_true, Bool.not_false] at ht) | (with_reducible refine RReg.br (fun ht => ?_) (fun ht => ?_) <;> try simp only [decide_eq_true_eq, decide_eq_false_iff_not, Bool.not_eq_eq_eq_not, Bool.not_true, Bool.not_false] at ht))
    exact FnQ.ret rfl rfl
end Go.Proofs.YtcpadbcapeiicaaGreat

/- The law's arguments as data. -/
namespace Go.Proofs.YtcpadbcapeiicaaGreat
open Go Go.Proofs.Am Go.Proofs.Pm

def opTD : List TD := [.int .i64, .int .i64, .int .i64, .int .i64, .str, .str]
def callTD : List TD := [.int .i64, .slice opTD, .int .i64, .int .i64, .int .i64, .str]
def callsTD : TD := .slice [.slice callTD]
def entTD : List TD := [.int .u64, .int .i64, .int .i64]
def logTD : TD := .slice entTD

theorem ty_op {x : List PV} (h : TyL opTD x) : ∃ o : OpD, PV.agg x = o.pv ∧ True := by
  obtain ⟨v1, x, rfl, h1, h⟩ := h.cons
  obtain ⟨v2, x, rfl, h2, h⟩ := h.cons
  obtain ⟨v3, x, rfl, h3, h⟩ := h.cons
  obtain ⟨v4, x, rfl, h4, h⟩ := h.cons
  obtain ⟨v5, x, rfl, h5, h⟩ := h.cons
  obtain ⟨v6, x, rfl, h6, h⟩ := h.cons
  obtain rfl := h.nil
  obtain ⟨n1, rfl, _⟩ := h1.int_inv
  obtain ⟨n2, rfl, _⟩ := h2.int_inv
  obtain ⟨n3, rfl, _⟩ := h3.int_inv
  obtain ⟨n4, rfl, _⟩ := h4.int_inv
  obtain ⟨s5, rfl, _⟩ := h5.str_inv
  obtain ⟨s6, rfl, _⟩ := h6.str_inv
  exact ⟨⟨n1, n2, n3, n4, s5, s6⟩, rfl, trivial⟩

theorem ty_call {x : List PV} (h : TyL callTD x) : ∃ c : CallD, PV.agg x = c.pv ∧ c.ops.length < 200000000000000 := by
  obtain ⟨v1, x, rfl, h1, h⟩ := h.cons
  obtain ⟨v2, x, rfl, h2, h⟩ := h.cons
  obtain ⟨v3, x, rfl, h3, h⟩ := h.cons
  obtain ⟨v4, x, rfl, h4, h⟩ := h.cons
  obtain ⟨v5, x, rfl, h5, h⟩ := h.cons
  obtain ⟨v6, x, rfl, h6, h⟩ := h.cons
  obtain rfl := h.nil
  obtain ⟨n1, rfl, _⟩ := h1.int_inv
  obtain ⟨ops, rfl, hl, _⟩ := Ty.structs (f := OpD.pv) (P := fun _ => True) (by decide) (fun x hx => ty_op hx) h2
  obtain ⟨n3, rfl, _⟩ := h3.int_inv
  obtain ⟨n4, rfl, _⟩ := h4.int_inv
  obtain ⟨n5, rfl, _⟩ := h5.int_inv
  obtain ⟨s6, rfl, _⟩ := h6.str_inv
  have : reachBytes = 140737488351232 := by decide
  exact ⟨⟨n1, ops, ⟨n3, n4, n5, s6⟩⟩, rfl, by simp only; omega⟩

theorem ty_row {p : PV} (h : Ty (.slice callTD) p) : ∃ r : List CallD, p = rowPV r ∧ (r.length < 200000000000000 ∧ ∀ c ∈ r, c.ops.length < 200000000000000) := by
  obtain ⟨r, rfl, hl, hc⟩ := Ty.structs (f := CallD.pv) (P := fun c => c.ops.length < 200000000000000) (by decide) (fun x hx => ty_call hx) h
  have : reachBytes = 140737488351232 := by decide
  exact ⟨r, rfl, by omega, hc⟩

theorem ty_calls {p : PV} (h : Ty callsTD p) : ∃ l : List (List CallD), p = callsPV l ∧ Sized l := by
  obtain ⟨l, rfl, hl, hc⟩ := Ty.singles (f := rowPV) (P := fun r => r.length < 200000000000000 ∧ ∀ c ∈ r, c.ops.length < 200000000000000) (fun x hx => ty_row hx) h
  have : reachBytes = 140737488351232 := by decide
  exact ⟨l, rfl, ⟨by omega, fun r hr => (hc r hr).1, fun r hr => (hc r hr).2⟩⟩

theorem ty_ent {x : List PV} (h : TyL entTD x) : ∃ c : EntD, PV.agg x = c.pv ∧ (0 ≤ c.item ∧ c.item < 18446744073709551616) := by
  obtain ⟨v1, x, rfl, h1, h⟩ := h.cons
  obtain ⟨v2, x, rfl, h2, h⟩ := h.cons
  obtain ⟨v3, x, rfl, h3, h⟩ := h.cons
  obtain rfl := h.nil
  obtain ⟨n1, rfl, h4, h5⟩ := h1.int_inv
  obtain ⟨n2, rfl, _⟩ := h2.int_inv
  obtain ⟨n3, rfl, _⟩ := h3.int_inv
  have e1 : IntKind.min .u64 = 0 := by decide
  have e2 : IntKind.max .u64 = 18446744073709551615 := by decide
  exact ⟨⟨n1, n2, n3⟩, rfl, by simp only; omega⟩

theorem ty_log {p : PV} (h : Ty logTD p) : ∃ l : List EntD, p = logPV l ∧ l.length < 200000000000000 ∧ ∀ x ∈ l, 0 ≤ x.item ∧ x.item < 18446744073709551616 := by
  obtain ⟨l, rfl, hl, hc⟩ := Ty.structs (f := EntD.pv) (P := fun c => 0 ≤ c.item ∧ c.item < 18446744073709551616) (by decide) (fun x hx => ty_ent hx) h
  have : reachBytes = 140737488351232 := by decide
  exact ⟨l, rfl, by omega, hc⟩

end Go.Proofs.YtcpadbcapeiicaaGreat

namespace Go.Proofs.YtcpadbcapeiicaaGreat
open Go Go.Proofs.Am Go.Proofs.Pm

theorem ordered_mem {l : List (List CallD)} : ∀ {L : List EntD} {m : MapD}, orderedG l L m = true → ∀ x ∈ L, mget m (x.item / 65536) ≤ x.item % 65536
  | [], m, _, x, hx => by simp at hx
  | y :: L, m, h, x, hx => by
    simp only [orderedG] at h
    split at h
    · simp only [Bool.and_eq_true, decide_eq_true_eq] at h
      obtain ⟨⟨_, h1⟩, h2⟩ := h
      rcases List.mem_cons.1 hx with rfl | hx
      · omega
      · have := ordered_mem h2 x hx
        rw [mget_put] at this
        split at this
        · rename_i e; rw [e]; omega
        · exact this
    · cases h

theorem ordered_split {l : List (List CallD)} : ∀ {A B : List EntD} {m : MapD}, orderedG l (A ++ B) m = true → ∃ m', orderedG l B m' = true
  | [], B, m, h => ⟨m, h⟩
  | y :: A, B, m, h => by
    simp only [List.cons_append, orderedG] at h
    split at h
    · simp only [Bool.and_eq_true] at h
      exact ordered_split h.2
    · cases h

theorem ordered_dup {l : List (List CallD)} {A B : List EntD} {x y : EntD} {m : MapD} (hy : y ∈ B) (e : y.item = x.item) : orderedG l (A ++ x :: B) m = false := by
  cases h : orderedG l (A ++ x :: B) m with
  | false => rfl
  | true =>
    obtain ⟨m', h'⟩ := ordered_split h
    simp only [orderedG] at h'
    split at h'
    · simp only [Bool.and_eq_true] at h'
      have := ordered_mem h'.2 y hy
      rw [e, mget_put, if_pos rfl] at this; omega
    · cases h'

theorem more_dup {l : List (List CallD)} {log : List EntD} {i k : Nat} {x : EntD} (hx : log[i]? = some x) : orderedG l (log.take k ++ x :: log.drop k) [] = false := by
  by_cases h : i < k
  · have hm : x ∈ log.take k := List.mem_iff_getElem?.2 ⟨i, by rw [List.getElem?_take, if_pos h]; exact hx⟩
    obtain ⟨A1, A2, e⟩ := List.append_of_mem hm
    rw [e, List.append_assoc]
    exact ordered_dup (y := x) (by simp) rfl
  · have hm : x ∈ log.drop k := List.mem_iff_getElem?.2 ⟨i - k, by rw [List.getElem?_drop, show k + (i - k) = i by omega]; exact hx⟩
    exact ordered_dup hm rfl

theorem states_bad {T : Tbl} (hT : Tb T) (l : List (List CallD)) (hs : Sized l) (log : List EntD) (hlog : log.length < 200000000000000) (hitem : ∀ x ∈ log, 0 ≤ x.item ∧ x.item < 18446744073709551616) (ho : orderedG l log [] = false) : Pur T 8 [callsPV l, logPV log] (.tup [.lst 0 true [], i64 1]) := by
  refine Pur.of (by simp [isDL, isD_calls, isD_log]) (by simp [isD, isDL]) fun R hR => e8 hT (by simp) ?_
  simp only [finit]
  repeat' (first | with_reducible refine RK.seq ?_ | with_reducible refine RK.block ?_ | with_reducible refine RK.skip ?_ | with_reducible refine RK.ret ?_ | with_reducible refine RK.exit ?_ | with_reducible refine RK.regionK g8 ?_ | with_reducible refine RK.drawnK g8 ?_ | with_reducible refine RK.cnd ?_ | (simp (implicitDefEqProofs := false) (disch := omega) only [go_sem, ↓reduceIte, Nat.reduceEqDiff, Nat.reduceLT, Nat.reduceLeDiff, Nat.reduceAdd, Nat.reduceSub, Nat.reduceMul, reduceCtorEq, Int.reduceBEq, Int.reduceBNe, Int.reduceLT, Int.reduceLE, Int.reduceToNat, g8]) | (with_reducible refine RCond.mk (fun ht => ?_) (fun ht => ?_) <;> try simp only [decide_eq_true_eq, decide_eq_false_iff_not, Bool.not_eq_eq_eq_not, Bool.not_true, Bool.not_false] at ht) | (with_reducible refine RReg.br (fun ht => ?_) (fun ht => ?_) <;> try simp only [decide_eq_true_eq, decide_eq_false_iff_not, Bool.not_eq_eq_eq_not, Bool.not_true, Bool.not_false] at ht))
  refine RCall.pure (ordered_ok hT l hs log hlog hitem) ?_
  rw [ho]
  repeat' (first | with_reducible refine RK.seq ?_ | with_reducible refine RK.block ?_ | with_reducible refine RK.skip ?_ | with_reducible refine RK.ret ?_ | with_reducible refine RK.exit ?_ | with_reducible refine RK.regionK g8 ?_ | with_reducible refine RK.drawnK g8 ?_ | with_reducible refine RK.cnd ?_ | (simp (implicitDefEqProofs := false) (disch := omega) only [go_sem, ↓reduceIte, Nat.reduceEqDiff, Nat.reduceLT, Nat.reduceLeDiff, Nat.reduceAdd, Nat.reduceSub, Nat.reduceMul, reduceCtorEq, Int.reduceBEq, Int.reduceBNe, Int.reduceLT, Int.reduceLE, Int.reduceToNat, g8]) | (with_reducible refine RCond.mk (fun ht => ?_) (fun ht => ?_) <;> try simp only [decide_eq_true_eq, decide_eq_false_iff_not, Bool.not_eq_eq_eq_not, Bool.not_true, Bool.not_false] at ht) | (with_reducible refine RReg.br (fun ht => ?_) (fun ht => ?_) <;> try simp only [decide_eq_true_eq, decide_eq_false_iff_not, Bool.not_eq_eq_eq_not, Bool.not_true, Bool.not_false] at ht))
  exact FnQ.ret rfl (hR _)

theorem judge_bad {T : Tbl} (hT : Tb T) (l : List (List CallD)) (hs : Sized l) (log : List EntD) (hlog : log.length < 200000000000000) (hitem : ∀ x ∈ log, 0 ≤ x.item ∧ x.item < 18446744073709551616) (ho : orderedG l log [] = false) : Pur T 9 [callsPV l, logPV log, .lst 0 true [], .lst 0 true []] (i64 1) := by
  refine Pur.of (by simp [isDL, isD_calls, isD_log, isD]) (by simp [isD]) fun R hR => e9 hT (by simp) ?_
  simp only [finit]
  repeat' (first | with_reducible refine RK.seq ?_ | with_reducible refine RK.block ?_ | with_reducible refine RK.skip ?_ | with_reducible refine RK.ret ?_ | with_reducible refine RK.exit ?_ | with_reducible refine RK.regionK g9 ?_ | with_reducible refine RK.drawnK g9 ?_ | with_reducible refine RK.cnd ?_ | (simp (implicitDefEqProofs := false) (disch := omega) only [go_sem, ↓reduceIte, Nat.reduceEqDiff, Nat.reduceLT, Nat.reduceLeDiff, Nat.reduceAdd, Nat.reduceSub, Nat.reduceMul, reduceCtorEq, Int.reduceBEq, Int.reduceBNe, Int.reduceLT, Int.reduceLE, Int.reduceToNat, g9]) | (with_reducible refine RCond.mk (fun ht => ?_) (fun ht => ?_) <;> try simp only [decide_eq_true_eq, decide_eq_false_iff_not, Bool.not_eq_eq_eq_not, Bool.not_true, Bool.not_false] at ht) | (with_reducible refine RReg.br (fun ht => ?_) (fun ht => ?_) <;> try simp only [decide_eq_true_eq, decide_eq_false_iff_not, Bool.not_eq_eq_eq_not, Bool.not_true, Bool.not_false] at ht))
  refine RCall.pure (states_bad hT l hs log hlog hitem ho) ?_
  repeat' (first | with_reducible refine RK.seq ?_ | with_reducible refine RK.block ?_ | with_reducible refine RK.skip ?_ | with_reducible refine RK.ret ?_ | with_reducible refine RK.exit ?_ | with_reducible refine RK.regionK g9 ?_ | with_reducible refine RK.drawnK g9 ?_ | with_reducible refine RK.cnd ?_ | (simp (implicitDefEqProofs := false) (disch := omega) only [go_sem, ↓reduceIte, Nat.reduceEqDiff, Nat.reduceLT, Nat.reduceLeDiff, Nat.reduceAdd, Nat.reduceSub, Nat.reduceMul, reduceCtorEq, Int.reduceBEq, Int.reduceBNe, Int.reduceLT, Int.reduceLE, Int.reduceToNat, g9]) | (with_reducible refine RCond.mk (fun ht => ?_) (fun ht => ?_) <;> try simp only [decide_eq_true_eq, decide_eq_false_iff_not, Bool.not_eq_eq_eq_not, Bool.not_true, Bool.not_false] at ht) | (with_reducible refine RReg.br (fun ht => ?_) (fun ht => ?_) <;> try simp only [decide_eq_true_eq, decide_eq_false_iff_not, Bool.not_eq_eq_eq_not, Bool.not_true, Bool.not_false] at ht))
  exact FnQ.ret rfl (hR _)

theorem ents_len (L : List EntD) : ∀ x, x ∈ L.map EntD.pv → (ecs x).length = 3 := by
  intro x hx
  obtain ⟨e, _, rfl⟩ := List.mem_map.1 hx
  rfl

theorem ents_pone (L : List EntD) : ((L.map EntD.pv).flatMap ecs).all pone = true := by
  induction L with
  | nil => rfl
  | cons x L ih => simp only [List.map_cons, List.flatMap_cons, List.all_append, ih, Bool.and_true]; rfl

theorem twice_end {T : Tbl} (hT : Tb T) (l : List (List CallD)) (hs : Sized l) (more : List EntD) (hlog : more.length < 200000000000000) (hitem : ∀ x ∈ more, 0 ≤ x.item ∧ x.item < 18446744073709551616) (ho : orderedG l more [] = false)
    (g n : Nat) (c : Cap) (hc : ∀ sz', c = .x sz' ∨ c = .u sz' → sz' = 3) (hn : n = more.length) (cs : List PV) (hcs : cs = (more.map EntD.pv).flatMap ecs) (rest : PH) (p10 p9 p30 p8 p1 p2 p3 : PV) :
    RK T false 72 (FnQ [.tmp 8] fun r _ => r = .ok (.bool true)) (.seq (.region false a3_r5 [] []) (.seq (.region false a3_r6 [] []) .ret)) [] [(11, .sl 0 g 0 n c), (10, p10), (9, p9), (30, p30), (8, p8), (0, callsPV l), (1, p1), (2, p2), (3, p3)] (.cells g cs :: rest) := by
  subst hn
  refine RK.gh (Gh.frz 0 g (cs := cs) (by simp [slot]) (.cons (.sl (xs := more.map EntD.pv) (sz := 3) (by simp) ?_ (ents_len _) hc ?_) (FzL.refl _)) ?_)
  · rw [hcs, flat_len (ents_len _)]; simp
  · rw [hcs, List.drop_zero, List.take_of_length_le (by rw [flat_len (ents_len _)]; simp)]
  simp only [List.map_cons, List.map_nil, List.zip_cons_cons, List.zip_nil_right]
  repeat' (first | with_reducible refine RK.seq ?_ | with_reducible refine RK.block ?_ | with_reducible refine RK.skip ?_ | with_reducible refine RK.ret ?_ | with_reducible refine RK.exit ?_ | with_reducible refine RK.regionK g3 ?_ | with_reducible refine RK.drawnK g3 ?_ | with_reducible refine RK.cnd ?_ | (simp (implicitDefEqProofs := false) (disch := omega) only [go_sem, ↓reduceIte, Nat.reduceEqDiff, Nat.reduceLT, Nat.reduceLeDiff, Nat.reduceAdd, Nat.reduceSub, Nat.reduceMul, reduceCtorEq, Int.reduceBEq, Int.reduceBNe, Int.reduceLT, Int.reduceLE, Int.reduceToNat, g3]) | (with_reducible refine RCond.mk (fun ht => ?_) (fun ht => ?_) <;> try simp only [decide_eq_true_eq, decide_eq_false_iff_not, Bool.not_eq_eq_eq_not, Bool.not_true, Bool.not_false] at ht) | (with_reducible refine RReg.br (fun ht => ?_) (fun ht => ?_) <;> try simp only [decide_eq_true_eq, decide_eq_false_iff_not, Bool.not_eq_eq_eq_not, Bool.not_true, Bool.not_false] at ht))
  refine RCall.pure (states_bad hT l hs more hlog hitem ho) ?_
  repeat' (first | with_reducible refine RK.seq ?_ | with_reducible refine RK.block ?_ | with_reducible refine RK.skip ?_ | with_reducible refine RK.ret ?_ | with_reducible refine RK.exit ?_ | with_reducible refine RK.regionK g3 ?_ | with_reducible refine RK.drawnK g3 ?_ | with_reducible refine RK.cnd ?_ | (simp (implicitDefEqProofs := false) (disch := omega) only [go_sem, ↓reduceIte, Nat.reduceEqDiff, Nat.reduceLT, Nat.reduceLeDiff, Nat.reduceAdd, Nat.reduceSub, Nat.reduceMul, reduceCtorEq, Int.reduceBEq, Int.reduceBNe, Int.reduceLT, Int.reduceLE, Int.reduceToNat, g3]) | (with_reducible refine RCond.mk (fun ht => ?_) (fun ht => ?_) <;> try simp only [decide_eq_true_eq, decide_eq_false_iff_not, Bool.not_eq_eq_eq_not, Bool.not_true, Bool.not_false] at ht) | (with_reducible refine RReg.br (fun ht => ?_) (fun ht => ?_) <;> try simp only [decide_eq_true_eq, decide_eq_false_iff_not, Bool.not_eq_eq_eq_not, Bool.not_true, Bool.not_false] at ht))
  refine RCall.pure (judge_bad hT l hs more hlog hitem ho) ?_
  repeat' (first | with_reducible refine RK.seq ?_ | with_reducible refine RK.block ?_ | with_reducible refine RK.skip ?_ | with_reducible refine RK.ret ?_ | with_reducible refine RK.exit ?_ | with_reducible refine RK.regionK g3 ?_ | with_reducible refine RK.drawnK g3 ?_ | with_reducible refine RK.cnd ?_ | (simp (implicitDefEqProofs := false) (disch := omega) only [go_sem, ↓reduceIte, Nat.reduceEqDiff, Nat.reduceLT, Nat.reduceLeDiff, Nat.reduceAdd, Nat.reduceSub, Nat.reduceMul, reduceCtorEq, Int.reduceBEq, Int.reduceBNe, Int.reduceLT, Int.reduceLE, Int.reduceToNat, g3]) | (with_reducible refine RCond.mk (fun ht => ?_) (fun ht => ?_) <;> try simp only [decide_eq_true_eq, decide_eq_false_iff_not, Bool.not_eq_eq_eq_not, Bool.not_true, Bool.not_false] at ht) | (with_reducible refine RReg.br (fun ht => ?_) (fun ht => ?_) <;> try simp only [decide_eq_true_eq, decide_eq_false_iff_not, Bool.not_eq_eq_eq_not, Bool.not_true, Bool.not_false] at ht))
  exact FnQ.ret rfl rfl

set_option maxRecDepth 4000 in
set_option maxHeartbeats 1600000 in
theorem law_twice {T : Tbl} (hT : Tb T) (h7 : T 7 = some (.prim (closed (.bool true)))) (l : List (List CallD)) (hs : Sized l) (log : List EntD) (hlog : log.length < 200000000000000) (hitem : ∀ x ∈ log, 0 ≤ x.item ∧ x.item < 18446744073709551616) (a b : Int) (ha : 0 ≤ a ∧ a ≤ 255) (hb : 0 ≤ b ∧ b ≤ 255) :
    PEv T (.fn 3) [callsPV l, logPV log, .int .u8 a, .int .u8 b] [] fun r _ => r = .ok (.bool true) := by
  refine e3 hT (by simp) ?_
  have hlen := hs.len
  simp only [finit, logPV]
  repeat' (first | with_reducible refine RK.seq ?_ | with_reducible refine RK.block ?_ | with_reducible refine RK.skip ?_ | with_reducible refine RK.ret ?_ | with_reducible refine RK.exit ?_ | with_reducible refine RK.regionK g3 ?_ | with_reducible refine RK.drawnK g3 ?_ | with_reducible refine RK.cnd ?_ | (simp (implicitDefEqProofs := false) (disch := omega) only [go_sem, ↓reduceIte, Nat.reduceEqDiff, Nat.reduceLT, Nat.reduceLeDiff, Nat.reduceAdd, Nat.reduceSub, Nat.reduceMul, reduceCtorEq, Int.reduceBEq, Int.reduceBNe, Int.reduceLT, Int.reduceLE, Int.reduceToNat, g3]) | (with_reducible refine RCond.mk (fun ht => ?_) (fun ht => ?_) <;> try simp only [decide_eq_true_eq, decide_eq_false_iff_not, Bool.not_eq_eq_eq_not, Bool.not_true, Bool.not_false] at ht) | (with_reducible refine RReg.br (fun ht => ?_) (fun ht => ?_) <;> try simp only [decide_eq_true_eq, decide_eq_false_iff_not, Bool.not_eq_eq_eq_not, Bool.not_true, Bool.not_false] at ht))
  refine RCall.pure (few_ok hT l hs) ?_
  repeat' (first | with_reducible refine RK.seq ?_ | with_reducible refine RK.block ?_ | with_reducible refine RK.skip ?_ | with_reducible refine RK.ret ?_ | with_reducible refine RK.exit ?_ | with_reducible refine RK.regionK g3 ?_ | with_reducible refine RK.drawnK g3 ?_ | with_reducible refine RK.cnd ?_ | (simp (implicitDefEqProofs := false) (disch := omega) only [go_sem, ↓reduceIte, Nat.reduceEqDiff, Nat.reduceLT, Nat.reduceLeDiff, Nat.reduceAdd, Nat.reduceSub, Nat.reduceMul, reduceCtorEq, Int.reduceBEq, Int.reduceBNe, Int.reduceLT, Int.reduceLE, Int.reduceToNat, g3]) | (with_reducible refine RCond.mk (fun ht => ?_) (fun ht => ?_) <;> try simp only [decide_eq_true_eq, decide_eq_false_iff_not, Bool.not_eq_eq_eq_not, Bool.not_true, Bool.not_false] at ht) | (with_reducible refine RReg.br (fun ht => ?_) (fun ht => ?_) <;> try simp only [decide_eq_true_eq, decide_eq_false_iff_not, Bool.not_eq_eq_eq_not, Bool.not_true, Bool.not_false] at ht))
  rotate_left
  iterate 3
    · refine RCall.pure (closed_pur h7) ?_
      repeat' (first | with_reducible refine RK.seq ?_ | with_reducible refine RK.block ?_ | with_reducible refine RK.skip ?_ | with_reducible refine RK.ret ?_ | with_reducible refine RK.exit ?_ | with_reducible refine RK.regionK g3 ?_ | with_reducible refine RK.drawnK g3 ?_ | with_reducible refine RK.cnd ?_ | (simp (implicitDefEqProofs := false) (disch := omega) only [go_sem, ↓reduceIte, Nat.reduceEqDiff, Nat.reduceLT, Nat.reduceLeDiff, Nat.reduceAdd, Nat.reduceSub, Nat.reduceMul, reduceCtorEq, Int.reduceBEq, Int.reduceBNe, Int.reduceLT, Int.reduceLE, Int.reduceToNat, g3]) | (with_reducible refine RCond.mk (fun ht => ?_) (fun ht => ?_) <;> try simp only [decide_eq_true_eq, decide_eq_false_iff_not, Bool.not_eq_eq_eq_not, Bool.not_true, Bool.not_false] at ht) | (with_reducible refine RReg.br (fun ht => ?_) (fun ht => ?_) <;> try simp only [decide_eq_true_eq, decide_eq_false_iff_not, Bool.not_eq_eq_eq_not, Bool.not_true, Bool.not_false] at ht))
      exact FnQ.ret rfl rfl
  have hne : log.length ≠ 0 := by simpa using ht
  obtain ⟨i, hi, hil⟩ : ∃ i : Nat, a.tmod (log.length : Int) = (i : Int) ∧ i < log.length := by
    have e : a.tmod (log.length : Int) = a % (log.length : Int) := Int.tmod_eq_emod_of_nonneg ha.1
    have h1 := Int.emod_nonneg a (show (log.length : Int) ≠ 0 by omega)
    have h2 := Int.emod_lt_of_pos a (show (0 : Int) < (log.length : Int) by omega)
    exact ⟨(a % (log.length : Int)).toNat, by rw [e]; omega, by omega⟩
  obtain ⟨k, hk, hkl⟩ : ∃ k : Nat, b.tmod ((log.length : Int) + 1) = (k : Int) ∧ k ≤ log.length := by
    have e : b.tmod ((log.length : Int) + 1) = b % ((log.length : Int) + 1) := Int.tmod_eq_emod_of_nonneg hb.1
    have h1 := Int.emod_nonneg b (show (log.length : Int) + 1 ≠ 0 by omega)
    have h2 := Int.emod_lt_of_pos b (show (0 : Int) < (log.length : Int) + 1 by omega)
    exact ⟨(b % ((log.length : Int) + 1)).toNat, by rw [e]; omega, by omega⟩
  obtain ⟨x, hx, hxm, _⟩ := get_some hil
  refine RCall.pure (closed_pur h7) ?_
  repeat' (first | with_reducible refine RK.seq ?_ | with_reducible refine RK.block ?_ | with_reducible refine RK.skip ?_ | with_reducible refine RK.ret ?_ | with_reducible refine RK.exit ?_ | with_reducible refine RK.regionK g3 ?_ | with_reducible refine RK.drawnK g3 ?_ | with_reducible refine RK.cnd ?_ | (simp (implicitDefEqProofs := false) (disch := omega) only [go_sem, ↓reduceIte, Nat.reduceEqDiff, Nat.reduceLT, Nat.reduceLeDiff, Nat.reduceAdd, Nat.reduceSub, Nat.reduceMul, reduceCtorEq, Int.reduceBEq, Int.reduceBNe, Int.reduceLT, Int.reduceLE, Int.reduceToNat, g3, hi, hk]) | (with_reducible refine RCond.mk (fun ht => ?_) (fun ht => ?_) <;> try simp only [decide_eq_true_eq, decide_eq_false_iff_not, Bool.not_eq_eq_eq_not, Bool.not_true, Bool.not_false] at ht) | (with_reducible refine RReg.br (fun ht => ?_) (fun ht => ?_) <;> try simp only [decide_eq_true_eq, decide_eq_false_iff_not, Bool.not_eq_eq_eq_not, Bool.not_true, Bool.not_false] at ht))
  have hlt : (log.take k).length = k := by simp; omega
  have hld : (log.drop k).length = log.length - k := by simp
  have chk : ∀ (F F' : Fr) (H : PH), fget F 1 = .lst 3 false (log.map EntD.pv) → pkn (fget F' 51) = true → ∀ p, p ∈ [(8, 4)] → ChkP 72 (a3_r4.take 9) F F' H p := by
    intro F F' H e1 e2 p hp
    simp at hp; subst hp
    refine ⟨51, .loadN 3 (.t 50), none, some 3, 50, rfl, rfl, by decide, by decide, by decide, e2, .inr ⟨by decide, 1, by decide, ?_⟩⟩
    rw [e1]
    simp only [baseP, ne_eq, List.map_eq_nil_iff]
    rintro rfl; exact hne rfl
  have hitem2 : ∀ y ∈ log.take k ++ x :: log.drop k, 0 ≤ y.item ∧ y.item < 18446744073709551616 := by
    intro y hy
    rcases List.mem_append.1 hy with hy | hy
    · exact hitem y (List.mem_of_mem_take hy)
    · rcases List.mem_cons.1 hy with rfl | hy
      · exact hitem y hxm
      · exact hitem y (List.mem_of_mem_drop hy)
  have hml : (log.take k ++ x :: log.drop k).length = log.length + 1 := by
    rw [List.length_append, List.length_cons, hlt, hld]; omega
  have fin := twice_end hT l hs (log.take k ++ x :: log.drop k) (by omega) hitem2 (more_dup hx)
  have htd : List.take (log.length - k) (List.drop k log) = List.drop k log := List.take_of_length_le (by omega)
  have hf1 : (List.flatMap ecs (List.map EntD.pv (List.take k log))).length = k * 3 := by rw [flat_len (ents_len _), List.length_map, hlt]
  have hf2 : List.take (k * 3) (List.flatMap ecs (List.map EntD.pv (List.take k log))) = List.flatMap ecs (List.map EntD.pv (List.take k log)) := List.take_of_length_le (by omega)
  have hf3 : List.take ((k + 1) * 3) (List.flatMap ecs (List.map EntD.pv (List.take k log)) ++ [u64 x.item, i64 x.e, i64 x.place]) = List.flatMap ecs (List.map EntD.pv (List.take k log)) ++ [u64 x.item, i64 x.e, i64 x.place] := List.take_of_length_le (by rw [List.length_append, hf1]; simp only [List.length_cons, List.length_nil]; omega)
  by_cases hk0 : k = 0
  · subst hk0
    apply RK.drawnR g3 (a3_r4.take 9) (a3_r4.drop 9) (ops := a3_r4) rfl
    · simp (implicitDefEqProofs := false) (disch := omega) only [go_sem, ↓reduceIte, Nat.reduceEqDiff, Nat.reduceLT, Nat.reduceLeDiff, Nat.reduceAdd, Nat.reduceSub, Nat.reduceMul, reduceCtorEq, Int.reduceBEq, Int.reduceBNe, Int.reduceLT, Int.reduceLE, Int.reduceToNat, hx, true_or, false_and, ← List.map_take, ents_pone, hlt, Nat.zero_add, Nat.zero_mul, Nat.le_refl, EntD.pv, EntD.cs, dT, Int.natCast_zero, List.take_take, Nat.min_self]
      exact ⟨rfl, rfl⟩
    · exact chk _ _ _ rfl rfl
    have hne' : ¬ log.length = 0 := hne
    simp (implicitDefEqProofs := false) (disch := omega) only [go_sem, ↓reduceIte, Nat.reduceEqDiff, Nat.reduceLT, Nat.reduceLeDiff, Nat.reduceAdd, Nat.reduceSub, Nat.reduceMul, reduceCtorEq, Int.reduceBEq, Int.reduceBNe, Int.reduceLT, Int.reduceLE, Int.reduceToNat, true_or, ← List.map_drop, ← List.map_take, List.take_length, ents_pone, Nat.zero_add, Nat.zero_mul, Nat.le_refl, EntD.pv, EntD.cs, dT, Int.natCast_zero, Nat.sub_zero, g3]
    exact fin 2 _ _ (by rintro _ (h | h) <;> cases h; rfl) (by simp; omega) _ (by simp [EntD.pv, EntD.cs, ecs]) _ _ _ _ _ _ _ _
  · apply RK.drawnR g3 (a3_r4.take 9) (a3_r4.drop 9) (ops := a3_r4) rfl
    · simp (implicitDefEqProofs := false) (disch := omega) only [go_sem, ↓reduceIte, Nat.reduceEqDiff, Nat.reduceLT, Nat.reduceLeDiff, Nat.reduceAdd, Nat.reduceSub, Nat.reduceMul, reduceCtorEq, Int.reduceBEq, Int.reduceBNe, Int.reduceLT, Int.reduceLE, Int.reduceToNat, hx, true_or, false_and, ← List.map_take, ents_pone, hlt, Nat.zero_add, Nat.zero_mul, Nat.le_refl, EntD.pv, EntD.cs, dT, List.take_take, Nat.min_self]
      exact ⟨rfl, rfl⟩
    · exact chk _ _ _ rfl rfl
    by_cases hke : k = log.length
    · simp (implicitDefEqProofs := false) (disch := omega) only [go_sem, ↓reduceIte, Nat.reduceEqDiff, Nat.reduceLT, Nat.reduceLeDiff, Nat.reduceAdd, Nat.reduceSub, Nat.reduceMul, reduceCtorEq, Int.reduceBEq, Int.reduceBNe, Int.reduceLT, Int.reduceLE, Int.reduceToNat, true_or, ← List.map_drop, ← List.map_take, List.take_length, ents_pone, hld, Nat.zero_add, Nat.zero_mul, Nat.le_refl, EntD.pv, EntD.cs, dT, hf1, hf2, g3]
      exact fin 2 _ _ (by rintro _ (h | h) <;> cases h; rfl) (by omega) _ (by rw [List.drop_eq_nil_of_le (by omega)]; simp [EntD.pv, EntD.cs, ecs]) _ _ _ _ _ _ _ _
    · simp (implicitDefEqProofs := false) (disch := omega) only [go_sem, ↓reduceIte, Nat.reduceEqDiff, Nat.reduceLT, Nat.reduceLeDiff, Nat.reduceAdd, Nat.reduceSub, Nat.reduceMul, reduceCtorEq, Int.reduceBEq, Int.reduceBNe, Int.reduceLT, Int.reduceLE, Int.reduceToNat, true_or, ← List.map_drop, ← List.map_take, List.take_length, ents_pone, hld, Nat.zero_add, Nat.zero_mul, Nat.le_refl, EntD.pv, EntD.cs, dT, htd, hf1, hf2, hf3, g3]
      exact fin 3 _ _ (by rintro _ (h | h) <;> cases h; rfl) (by omega) _ (by simp [EntD.pv, EntD.cs, ecs]) _ _ _ _ _ _ _ _
end Go.Proofs.YtcpadbcapeiicaaGreat
