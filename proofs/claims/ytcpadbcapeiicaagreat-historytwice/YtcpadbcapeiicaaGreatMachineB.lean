/- The small machine: regions that draw their order, code, calls, inputs (second part). No conditions. -/
import Derived.Test.YtcpadbcapeiicaaGreatMachineA
import Derived.WalkKit
import Derived.ProofKit
import Derived.OpenShut
import Derived.ShutString
import Derived.ChangeOld
import Derived.SizedLaws
set_option linter.unusedVariables false
set_option linter.unusedSimpArgs false
/- Regions that draw their order: kinds of operations, the run in the text's order. -/
namespace Go.Proofs.Am
open Go Go.RowKit

mutual
theorem veq_eq : ∀ {v v' : Value}, veq v v' = true → v = v'
  | .int k a, v', h => by cases v' <;> simp [veq] at h; obtain ⟨rfl, rfl⟩ := h; rfl
  | .bool a, v', h => by cases v' <;> simp [veq] at h; subst h; rfl
  | .string a, v', h => by
    cases v' <;> simp [veq] at h
    rename_i b
    obtain ⟨⟨a⟩⟩ := a; obtain ⟨⟨b⟩⟩ := b
    simp at h; subst h; rfl
  | .pointer a, v', h => by cases v' <;> simp [veq] at h; subst h; rfl
  | .slice a n c, v', h => by cases v' <;> simp [veq] at h; obtain ⟨⟨rfl, rfl⟩, rfl⟩ := h; rfl
  | .map a, v', h => by cases v' <;> simp [veq] at h; subst h; rfl
  | .nilFunc, v', h => by cases v' <;> simp [veq] at h; rfl
  | .nilIface, v', h => by cases v' <;> simp [veq] at h; rfl
  | .func f ⟨a⟩ ⟨b⟩, v', h => by
    cases v' <;> simp [veq] at h
    rename_i g c d
    obtain ⟨c⟩ := c; obtain ⟨d⟩ := d
    simp at h
    obtain ⟨⟨rfl, h1⟩, h2⟩ := h
    rw [veqL_eq h1, veqL_eq h2]
  | .iface t v, v', h => by
    cases v' <;> simp [veq] at h
    obtain ⟨rfl, h1⟩ := h
    rw [veq_eq h1]
  | .agg ⟨a⟩, v', h => by
    cases v' <;> simp [veq] at h
    rename_i c
    obtain ⟨c⟩ := c
    simp at h
    rw [veqL_eq h]
  | .tuple ⟨a⟩, v', h => by
    cases v' <;> simp [veq] at h
    rename_i c
    obtain ⟨c⟩ := c
    simp at h
    rw [veqL_eq h]
  | .float _ _, v', h => by simp [veq] at h
  | .complex _ _ _, v', h => by simp [veq] at h
  | .chan _, v', h => by simp [veq] at h
theorem veqL_eq : ∀ {vs vs' : List Value}, veqL vs vs' = true → vs = vs'
  | [], [], _ => rfl
  | [], _ :: _, h => by simp [veqL] at h
  | _ :: _, [], h => by simp [veqL] at h
  | x :: xs, y :: ys, h => by
    simp [veqL] at h
    rw [veq_eq h.1, veqL_eq h.2]
end

theorem aop_alloc {ao : AOp} (hk : allocs ao = true) {e : AX → Value} {H H' : Mem} {r : AR} (h : aop ao e H = some (r, H')) :
    ∃ v c, r = .val v ∧ c.isW = true ∧ H' = H ++ [c] ∧ ∀ H2 : Mem, H2.length = H.length → aop ao e H2 = some (.val v, H2 ++ [c]) := by
  cases ao <;> simp only [allocs, Bool.false_eq_true] at hk <;> simp only [aop] at h ⊢
  case new t z =>
    cases h
    exact ⟨_, _, rfl, rfl, rfl, fun H2 hl => by simp [hl]⟩
  case makeMap =>
    cases h
    exact ⟨_, _, rfl, rfl, rfl, fun H2 hl => by simp [hl]⟩
  case box t x =>
    simp only [Option.map_eq_some_iff, Prod.mk.injEq] at h
    obtain ⟨cs, h1, rfl, rfl⟩ := h
    exact ⟨_, _, rfl, rfl, rfl, fun H2 hl => by simp [h1, hl]⟩
  case row t len z ps =>
    simp only [Option.map_eq_some_iff, Prod.mk.injEq] at h
    obtain ⟨cs, h1, rfl, rfl⟩ := h
    exact ⟨_, _, rfl, rfl, rfl, fun H2 hl => by simp [h1, hl]⟩
  case bytesOf t x =>
    split at h
    · split at h
      · rename_i s es hs
        cases h
        exact ⟨_, _, rfl, rfl, rfl, fun H2 hl => by simp [es, hs, hl]⟩
      · cases h
    · cases h
  case makeSlice t bytes z len cap =>
    split at h
    · split at h
      · rename_i k1 l k2 c h1 h2 hs
        cases h
        exact ⟨_, _, rfl, rfl, rfl, fun H2 hl => by simp [h1, h2, hs, hl]⟩
      · cases h
    · cases h

theorem aop_pure {ao : AOp} (h1 : acts ao = false) (h2 : allocs ao = false) (h3 : looks ao = false) {e : AX → Value} {H H' : Mem} {r : AR} (h : aop ao e H = some (r, H')) :
    ∃ v, r = .val v ∧ H' = H ∧ ∀ H2 : Mem, aop ao e H2 = some (.val v, H2) := by
  cases ao <;> simp only [acts, allocs, looks, Bool.true_eq_false] at h1 h2 h3 <;> simp only [aop] at h ⊢
  all_goals
    revert h
    (repeat' split) <;> intro h <;> first
      | (cases h; done)
      | (cases h; exact ⟨_, rfl, rfl, fun _ => rfl⟩)
      | (simp only [Option.map_eq_some_iff, Prod.mk.injEq] at h; obtain ⟨x, hx, rfl, rfl⟩ := h; exact ⟨_, rfl, rfl, fun _ => by simp only [Option.map_eq_some_iff, Prod.mk.injEq]; exact ⟨_, hx, rfl, trivial⟩⟩)

theorem rd1_mono {H X : Mem} {b o : Nat} {v : Value} (h : rd1 H b o = some v) : rd1 (H ++ X) b o = some v := by
  unfold rd1 at h ⊢
  split at h
  · rename_i cs t ro e
    have : (H ++ X)[b]? = some (.cells cs t ro) := by
      rw [List.getElem?_append_left]; · exact e
      · exact (List.getElem?_eq_some_iff.1 e).1
    rw [this]; exact h
  · cases h

theorem get_mono {H X : Mem} {b : Nat} {x : Blk} (h : H[b]? = some x) : (H ++ X)[b]? = some x := by
  rw [List.getElem?_append_left]; · exact h
  · exact (List.getElem?_eq_some_iff.1 h).1

theorem rdN_mono {H X : Mem} {b o n : Nat} {v : List Value} (h : rdN H b o n = some v) : rdN (H ++ X) b o n = some v := by
  unfold rdN at h ⊢
  split at h
  · rename_i cs t ro e
    rw [get_mono e]; exact h
  · cases h

theorem loadA_mono {H X : Mem} {n : Option Nat} {p v : Value} (h : loadA H n p = some v) : loadA (H ++ X) n p = some v := by
  unfold loadA at h ⊢
  split at h
  · split at h
    · exact rd1_mono h
    · simp only [Option.map_eq_some_iff] at h ⊢
      obtain ⟨cs, h1, h2⟩ := h
      exact ⟨cs, rdN_mono h1, h2⟩
  · cases h

theorem sliceCells_mono {H X : Mem} {m size : Nat} {p : Value} {v : List Value} (h : sliceCells H m size p = some v) : sliceCells (H ++ X) m size p = some v := by
  unfold sliceCells at h ⊢
  split at h
  · split at h
    · rename_i hm; simp only [hm, if_true]; exact h
    · split at h
      · rename_i hm hn; simp only [hm, hn, if_true, if_false]; exact rdN_mono h
      · cases h
  · exact h
  · exact h
  · cases h

theorem aop_look {ao : AOp} (h1 : looks ao = true) {e : AX → Value} {H H' : Mem} {r : AR} (h : aop ao e H = some (r, H')) :
    ∃ v, r = .val v ∧ H' = H ∧ ∀ X : Mem, aop ao e (H ++ X) = some (.val v, H ++ X) := by
  cases ao <;> simp only [looks, Bool.false_eq_true] at h1 <;> simp only [aop] at h ⊢
  case load a =>
    simp only [Option.map_eq_some_iff, Prod.mk.injEq] at h
    obtain ⟨x, hx, rfl, rfl⟩ := h
    exact ⟨_, rfl, rfl, fun X => by simp [loadA_mono hx]⟩
  case loadN n a =>
    simp only [Option.map_eq_some_iff, Prod.mk.injEq] at h
    obtain ⟨x, hx, rfl, rfl⟩ := h
    exact ⟨_, rfl, rfl, fun X => by simp [loadA_mono hx]⟩
  case strOf x =>
    split at h
    · split at h
      · rename_i cs hx
        split at h
        · rename_i hall
          cases h
          exact ⟨_, rfl, rfl, fun X => by simp only [sliceCells_mono hx, hall, if_true]⟩
        · cases h
      · cases h
    · cases h
  case lookup kt ok z m k =>
    split at h
    · cases h
    · rename_i ek
      split at h
      · rename_i em
        cases h
        exact ⟨_, rfl, rfl, fun X => by simp only [ek, em]⟩
      · rename_i r0 em
        split at h
        · rename_i es cl er
          split at h <;> first | (cases h; done) | skip
          · rename_i ef
            cases h
            exact ⟨_, rfl, rfl, fun X => by simp only [ek, em, get_mono er, ef]⟩
          · rename_i ef
            cases h
            exact ⟨_, rfl, rfl, fun X => by simp only [ek, em, get_mono er, ef]⟩
        · cases h
      · cases h
  case lenMap x =>
    split at h
    · rename_i em
      cases h
      exact ⟨_, rfl, rfl, fun X => by simp only [em]⟩
    · rename_i em
      split at h
      · rename_i er
        cases h
        exact ⟨_, rfl, rfl, fun X => by simp only [em, get_mono er]⟩
      · cases h
    · cases h

theorem fillA_congr {e e' : AX → Value} : ∀ {ps : List (Nat × Nat × AX)}, (∀ x ∈ ps.map (·.2.2), e x = e' x) → ∀ (cs : List Value), fillA e cs ps = fillA e' cs ps
  | [], _, _ => rfl
  | (off, size, x) :: ps, h, cs => by
    have h1 : e x = e' x := h x (by simp)
    simp only [fillA, h1]
    split
    · split
      · exact fillA_congr (fun y hy => h y (by simp at hy ⊢; exact .inr hy)) _
      · rfl
    · rfl

theorem bndO_congr {e e' : AX → Value} {y d : Nat} {x : Option AX} (h : ∀ z ∈ x.toList, e z = e' z) : bndO e y d x = bndO e' y d x := by
  cases x with
  | none => rfl
  | some x => simp only [bndO, h x (by simp)]

theorem asliced_congr {size : Nat} {e e' : AX → Value} {a : Option Addr} {n c : Nat} {lo hi mx : Option AX} (h : ∀ z ∈ lo.toList ++ hi.toList ++ mx.toList, e z = e' z) : asliced size e a n c lo hi mx = asliced size e' a n c lo hi mx := by
  have hlo : ∀ y d, bndO e y d lo = bndO e' y d lo := fun y d => bndO_congr fun z hz => h z (by simp at hz ⊢; exact .inl hz)
  have hhi : ∀ y d, bndO e y d hi = bndO e' y d hi := fun y d => bndO_congr fun z hz => h z (by simp at hz ⊢; exact .inr (.inl hz))
  cases mx with
  | none => simp only [asliced, hlo, hhi]
  | some x =>
    have hx : e x = e' x := h x (by simp)
    cases hi with
    | none => unfold asliced; simp only [hlo]; rw [hx]; cases bnd n (e' x) <;> cases bnd c (e' x) <;> rfl
    | some y =>
      have hy : e y = e' y := h y (by simp)
      unfold asliced; simp only [hlo]; rw [hx]; cases bnd n (e' x) <;> cases bnd c (e' x) <;> simp only [hy]

theorem map_congr' {e e' : AX → Value} {l : List AX} (h : ∀ x ∈ l, e x = e' x) : l.map e = l.map e' := List.map_congr_left h

theorem aop_congr {ao : AOp} {e e' : AX → Value} (h : ∀ x ∈ axs ao, e x = e' x) (H : Mem) : aop ao e H = aop ao e' H := by
  cases ao
  case build z ps => simp only [axs] at h; simp only [aop, fillA_congr h]
  case row t len z ps => simp only [axs] at h; simp only [aop, fillA_congr h]
  case slice size x lo hi mx =>
    have hx : e x = e' x := h x (by simp [axs])
    simp only [aop, hx, asliced_congr (fun z hz => h z (by simp only [axs]; exact List.mem_cons_of_mem _ hz))]
  case sliceStr x lo hi =>
    have hx : e x = e' x := h x (by simp [axs])
    have hlo : ∀ y d, bndO e y d lo = bndO e' y d lo := fun y d => bndO_congr fun z hz => h z (by simp [axs] at hz ⊢; exact .inr (.inl hz))
    have hhi : ∀ y d, bndO e y d hi = bndO e' y d hi := fun y d => bndO_congr fun z hz => h z (by simp [axs] at hz ⊢; exact .inr (.inr hz))
    simp only [aop, hx, hlo, hhi]
  case sliceArr n size x lo hi =>
    have hx : e x = e' x := h x (by simp [axs])
    have hlo : ∀ y d, bndO e y d lo = bndO e' y d lo := fun y d => bndO_congr fun z hz => h z (by simp [axs] at hz ⊢; exact .inr (.inl hz))
    have hhi : ∀ y d, bndO e y d hi = bndO e' y d hi := fun y d => bndO_congr fun z hz => h z (by simp [axs] at hz ⊢; exact .inr (.inr hz))
    simp only [aop, hx, hlo, hhi]
  case func fn first cap =>
    simp only [axs, List.mem_append] at h
    simp only [aop, map_congr' (fun x hx => h x (.inl hx)), map_congr' (fun x hx => h x (.inr hx))]
  case call f args =>
    have hx : e f = e' f := h f (by simp [axs])
    have ha : args.map e = args.map e' := map_congr' (fun x hx => h x (by simp [axs, hx]))
    simp only [aop, hx, ha]
  case new => rfl
  case makeMap => rfl
  all_goals
    simp only [axs, List.mem_cons, List.not_mem_nil, or_false, forall_eq_or_imp, forall_eq] at h
    simp only [aop, h]

end Go.Proofs.Am

/- Regions that draw their order: the run in the text's order; what stands ahead of what. -/
namespace Go.Proofs.Am
open Go Go.RowKit

/-- One operation's step in the text's order. -/
def Step (i : Inv) (all : List AOper) (o : AOper) (f : List Value) (H : Mem) (f' : List Value) (H' : Mem) : Prop :=
  (wantedA all f o = some false ∧ f' = put f o.dst undef ∧ H' = H) ∨
  (wantedA all f o = some true ∧ ∃ v, step1 i o.op (ev f) H = some (.ok v, H') ∧ f' = put f o.dst v)

theorem exOps_run (i : Inv) (all : List AOper) : ∀ (suf : List AOper) (fr : List Value) (H : Mem) (tr : List (List Value × Mem)) (out : AOut) (fr' : List Value) (H' : Mem) (tr' : List (List Value × Mem)),
    exOps i all suf fr H tr = some (out, fr', H', tr') → ∃ (f : Nat → List Value) (G : Nat → Mem) (T : Nat), f 0 = fr ∧ G 0 = H ∧ f T = fr' ∧ G T = H' ∧ tr' = ((List.range T).map fun j => (f j, G j)).reverse ++ tr ∧
      ((out = .normal ∧ T = suf.length ∧ ∀ j o, suf[j]? = some o → Step i all o (f j) (G j) (f (j + 1)) (G (j + 1))) ∨
       (∃ v m o, out = .panic v ∧ T = m + 1 ∧ suf[m]? = some o ∧ wantedA all (f m) o = some true ∧ step1 i o.op (ev (f m)) (G m) = some (.error v, G (m + 1)) ∧ f (m + 1) = f m ∧
         ∀ j o, j < m → suf[j]? = some o → Step i all o (f j) (G j) (f (j + 1)) (G (j + 1))))
  | [], fr, H, tr, out, fr', H', tr', h => by
    simp only [exOps, Option.some.injEq, Prod.mk.injEq] at h
    obtain ⟨rfl, rfl, rfl, rfl⟩ := h
    exact ⟨fun _ => fr, fun _ => H, 0, rfl, rfl, rfl, rfl, by simp, .inl ⟨rfl, rfl, fun j o e => by simp at e⟩⟩
  | o :: suf, fr, H, tr, out, fr', H', tr', h => by
    have tail : ∀ (f1 : List Value) (H1 : Mem), Step i all o fr H f1 H1 → exOps i all suf f1 H1 ((fr, H) :: tr) = some (out, fr', H', tr') →
        ∃ (f : Nat → List Value) (G : Nat → Mem) (T : Nat), f 0 = fr ∧ G 0 = H ∧ f T = fr' ∧ G T = H' ∧ tr' = ((List.range T).map fun j => (f j, G j)).reverse ++ tr ∧
      ((out = .normal ∧ T = (o :: suf).length ∧ ∀ j o', (o :: suf)[j]? = some o' → Step i all o' (f j) (G j) (f (j + 1)) (G (j + 1))) ∨
       (∃ v m o', out = .panic v ∧ T = m + 1 ∧ (o :: suf)[m]? = some o' ∧ wantedA all (f m) o' = some true ∧ step1 i o'.op (ev (f m)) (G m) = some (.error v, G (m + 1)) ∧ f (m + 1) = f m ∧
         ∀ j o', j < m → (o :: suf)[j]? = some o' → Step i all o' (f j) (G j) (f (j + 1)) (G (j + 1)))) := by
      intro f1 H1 hs h1
      obtain ⟨f, G, T, h0, h0', hT, hT', htr, hrest⟩ := exOps_run i all suf f1 H1 ((fr, H) :: tr) out fr' H' tr' h1
      refine ⟨fun | 0 => fr | j + 1 => f j, fun | 0 => H | j + 1 => G j, T + 1, rfl, rfl, hT, hT', ?_, ?_⟩
      · rw [htr]
        simp [List.range_succ_eq_map, Function.comp_def]
      · rcases hrest with ⟨ho, hl, hst⟩ | ⟨v, m, o', ho, hm, e, hw, hs1, hf1, hst⟩
        · refine .inl ⟨ho, by simp [hl], fun j o' e => ?_⟩
          cases j with
          | zero => simp at e; subst e; simp only [h0, h0']; exact hs
          | succ j => exact hst j o' (by simpa using e)
        · refine .inr ⟨v, m + 1, o', ho, by omega, by simpa using e, hw, hs1, hf1, fun j o'' hj e' => ?_⟩
          cases j with
          | zero => simp at e'; subst e'; simp only [h0, h0']; exact hs
          | succ j => exact hst j o'' (by omega) (by simpa using e')
    simp only [exOps] at h
    split at h
    · rename_i hw
      split at h
      · rename_i v H1 hs
        exact tail _ _ (.inr ⟨hw, v, hs, rfl⟩) h
      · rename_i v H1 hs
        simp only [Option.some.injEq, Prod.mk.injEq] at h
        obtain ⟨rfl, rfl, rfl, rfl⟩ := h
        exact ⟨fun _ => fr, fun | 0 => H | _ + 1 => H1, 1, rfl, rfl, rfl, rfl, by simp, .inr ⟨v, 0, o, rfl, rfl, rfl, hw, hs, rfl, fun j o' hj => by omega⟩⟩
      · cases h
    · rename_i hw
      exact tail _ _ (.inl ⟨hw, rfl, rfl⟩) h
    · cases h

theorem getD_take {α : Type} {l : List (List α)} {n k : Nat} {x : α} (h : x ∈ (l.take n).getD k []) : k < n ∧ x ∈ l.getD k [] := by
  rw [List.getD_eq_getElem?_getD, List.getElem?_take] at h
  split at h
  · rename_i hk
    exact ⟨hk, by rw [List.getD_eq_getElem?_getD]; exact h⟩
  · simp at h

theorem befs_prefix : ∀ (os : List Oper) (acc : List (List Nat)) (k : Nat), k < acc.length → (befs os acc)[k]? = acc[k]?
  | [], acc, k, _ => rfl
  | o :: os, acc, k, h => by
    rw [befs, befs_prefix os _ k (by simp; omega), List.getElem?_append_left h]

theorem befs_spec : ∀ (os : List Oper) (acc : List (List Nat)) (j : Nat) (o : Oper), os[j]? = some o → ∀ x ∈ (befs os acc).getD (acc.length + j) [], ∃ e ∈ o.after.toList, Region.binds .any e = true ∧ (x = e.on ∨ (e.on < acc.length + j ∧ x ∈ (befs os acc).getD e.on []))
  | [], acc, j, o, h, x, hx => by simp at h
  | o :: os, acc, 0, o', h, x, hx => by
    simp at h; subst h
    rw [List.getD_eq_getElem?_getD, befs, befs_prefix _ _ _ (by simp)] at hx
    simp only [Nat.add_zero, List.getElem?_append_right (Nat.le_refl _), Nat.sub_self, List.getElem?_cons_zero, Option.getD_some, List.mem_flatMap, List.mem_filter] at hx
    obtain ⟨e, ⟨he, hb⟩, hx⟩ := hx
    refine ⟨e, he, hb, ?_⟩
    rw [List.mem_cons] at hx
    rcases hx with hx | hx
    · exact .inl hx
    · right
      by_cases hlt : e.on < acc.length
      · refine ⟨by omega, ?_⟩
        rw [List.getD_eq_getElem?_getD, befs, befs_prefix _ _ _ (by simp; omega), List.getElem?_append_left hlt, ← List.getD_eq_getElem?_getD]
        exact hx
      · rw [List.getD_eq_getElem?_getD, List.getElem?_eq_none_iff.2 (by omega)] at hx
        simp at hx
  | o :: os, acc, j + 1, o', h, x, hx => by
    have := befs_spec os (acc ++ [(o.after.toList.filter (Region.binds .any ·)).flatMap fun e => e.on :: acc.getD e.on []]) j o' (by simpa using h) x
    rw [show (acc ++ [(o.after.toList.filter (Region.binds .any ·)).flatMap fun e => e.on :: acc.getD e.on []]).length + j = acc.length + (j + 1) from by simp; omega] at this
    exact this hx

/-- What is done with holds what stood ahead. -/
def Closed (os : List Oper) (L : Nat → Prop) : Prop := ∀ j o, L j → os[j]? = some o → ∀ e ∈ o.after.toList, Region.binds .any e = true → L e.on

theorem befs_closed {os : List Oper} {L : Nat → Prop} (hL : Closed os L) : ∀ (j : Nat) (o : Oper), os[j]? = some o → (∀ e ∈ o.after.toList, Region.binds .any e = true → L e.on) → ∀ x ∈ (befs os []).getD j [], L x := by
  intro j
  induction j using Nat.strongRecOn with
  | ind j ih =>
    intro o h he x hx
    obtain ⟨e, hm, hb, hx⟩ := befs_spec os [] j o h x (by simpa using hx)
    rcases hx with rfl | ⟨hlt, hx⟩
    · exact he e hm hb
    · simp at hlt
      have hl := he e hm hb
      have hin : e.on < os.length := Nat.lt_trans hlt (List.getElem?_eq_some_iff.1 h).1
      exact ih e.on hlt _ (List.getElem?_eq_getElem hin) (hL _ _ hl (List.getElem?_eq_getElem hin)) x hx

theorem drawOk_edges {os : List Oper} {as : List AOper} {bs : List (List Nat)} (h : drawOk os as bs = true) {j : Nat} {o : Oper} (ho : os[j]? = some o) {e : Edge} (he : e ∈ o.after.toList) (hb : Region.binds .any e = true) : e.on < j := by
  simp only [drawOk, Bool.and_eq_true, List.all_eq_true] at h
  have := h.1 (o, j) (by rw [List.mem_iff_getElem?]; exact ⟨j, by simp [List.getElem?_zipIdx, ho]⟩) e he
  simpa [hb] using this

theorem drawOk_pair {os : List Oper} {as : List AOper} {bs : List (List Nat)} (h : drawOk os as bs = true) {i j : Nat} (hij : i < j) (hj : j < os.length) : pairOk as bs (i, j) = true := by
  simp only [drawOk, Bool.and_eq_true, List.all_eq_true] at h
  refine h.2 (i, j) ?_
  simp only [pairsOf, List.mem_flatMap, List.mem_range, List.mem_map, Prod.mk.injEq]
  exact ⟨j, hj, i, hij, rfl, rfl⟩

/-- Two operations of which neither waits for the other. -/
theorem pair_free {as : List AOper} {bs : List (List Nat)} {i j : Nat} (h : pairOk as bs (i, j) = true) {ai aj : AOper} (hi : as[i]? = some ai) (hj : as[j]? = some aj) (hn : i ∉ bs.getD j []) :
    (∀ d, ai.dst = some d → d ∉ namesOf as aj ∧ aj.dst ≠ some d) ∧ (∀ d, aj.dst = some d → d ∉ namesOf as ai) ∧ ¬ (acts ai.op = true ∧ acts aj.op = true) := by
  simp only [pairOk, hi, hj, Bool.or_eq_true, Bool.and_eq_true, Bool.not_eq_true'] at h
  rcases h with h | h
  · exact absurd (by simpa using h) hn
  · obtain ⟨⟨h1, h2⟩, h3⟩ := h
    refine ⟨fun d e => ?_, fun d e => ?_, ?_⟩
    · rw [e] at h1
      simpa using h1
    · rw [e] at h2
      simpa using h2
    · rintro ⟨a, b⟩; rw [a, b] at h3; cases h3

theorem mem_chkOf {as : List AOper} {bs : List (List Nat)} {i j : Nat} (hij : i < j) {ai aj : AOper} (hi : as[i]? = some ai) (hj : as[j]? = some aj) (hn : i ∉ bs.getD j []) :
    (looks ai.op = true → acts aj.op = true → (i, j) ∈ chkOf as bs) ∧ (acts ai.op = true → looks aj.op = true → looks ai.op = false → (j, i) ∈ chkOf as bs) := by
  have hp : (i, j) ∈ pairsOf as.length := by
    simp only [pairsOf, List.mem_flatMap, List.mem_range, List.mem_map, Prod.mk.injEq]
    exact ⟨j, (List.getElem?_eq_some_iff.1 hj).1, i, hij, rfl, rfl⟩
  have hnb : (bs.getD j []).contains i = false := by simpa using hn
  constructor
  · intro h1 h2
    simp only [chkOf, List.mem_flatMap]
    refine ⟨(i, j), hp, ?_⟩
    simp only [hi, hj, hnb, h1, h2]
    simp
  · intro h1 h2 h3
    simp only [chkOf, List.mem_flatMap]
    refine ⟨(i, j), hp, ?_⟩
    simp only [hi, hj, hnb, h1, h2, h3]
    simp

end Go.Proofs.Am

/- Regions that draw their order: what stands in the midst of one. -/
namespace Go.Proofs.Am
open Go Go.RowKit

def IsAct (as : List AOper) (f : Nat → List Value) (k : Nat) : Prop := ∃ o, as[k]? = some o ∧ acts o.op = true ∧ wantedA as (f k) o = some true
def IsNew (as : List AOper) (f : Nat → List Value) (k : Nat) : Prop := ∃ o, as[k]? = some o ∧ allocs o.op = true ∧ wantedA as (f k) o = some true

/-- What the run in the text's order showed. -/
structure Reg (K : Ctx) (i : Inv) (os : List Oper) (as : List AOper) (f : Nat → List Value) (G : Nat → Mem) (N fin : Nat) (pan : Option Value) : Prop where
  hi : InvOK K i
  hc : cOpers K.P os = some as
  draw : drawOk os as (befs os []) = true
  step : ∀ j o, j < N → as[j]? = some o → Step i as o (f j) (G j) (f (j + 1)) (G (j + 1))
  nle : N ≤ as.length
  nrm : pan = none → N = as.length ∧ fin = N
  pn : ∀ v, pan = some v → fin = N + 1 ∧ ∃ o, as[N]? = some o ∧ wantedA as (f N) o = some true ∧ step1 i o.op (ev (f N)) (G N) = some (.error v, G (N + 1))
  pw : pan ≠ none → ∀ j, N < j → j < as.length → N ∈ (befs os []).getD j []
  chk : ∀ k q ok oq, k < N → q < N → k ≠ q → as[k]? = some ok → as[q]? = some oq → looks ok.op = true → acts oq.op = true → wantedA as (f k) ok = some true → wantedA as (f q) oq = some true →
    (k < q → k ∉ (befs os []).getD q []) → (q < k → q ∉ (befs os []).getD k []) → ∃ v, aop ok.op (ev (f k)) (G q) = some (.val v, G q) ∧ aop ok.op (ev (f k)) (G (q + 1)) = some (.val v, G (q + 1))

theorem act_new {ao : AOp} (h : allocs ao = true) : acts ao = false := by cases ao <;> simp_all [allocs, acts]
theorem act_look {ao : AOp} (h : looks ao = true) : acts ao = false := by cases ao <;> simp_all [looks, acts]
theorem new_look {ao : AOp} (h : looks ao = true) : allocs ao = false := by cases ao <;> simp_all [looks, allocs]

theorem aop_quiet {ao : AOp} (h1 : acts ao = false) {e : AX → Value} {H H' : Mem} {r : AR} (h : aop ao e H = some (r, H')) : ∃ v, r = .val v := by
  by_cases h2 : allocs ao = true
  · obtain ⟨v, _, rfl, _⟩ := aop_alloc h2 h; exact ⟨v, rfl⟩
  · by_cases h3 : looks ao = true
    · obtain ⟨v, rfl, _⟩ := aop_look h3 h; exact ⟨v, rfl⟩
    · obtain ⟨v, rfl, _⟩ := aop_pure h1 (by simpa using h2) (by simpa using h3) h; exact ⟨v, rfl⟩

theorem step1_val {i : Inv} {ao : AOp} (h1 : acts ao = false) {e : AX → Value} {H H' : Mem} {r : Except Value Value} (h : step1 i ao e H = some (r, H')) : ∃ v, r = .ok v ∧ aop ao e H = some (.val v, H') := by
  unfold step1 at h
  split at h
  · rename_i v H1 he; cases h; exact ⟨_, rfl, he⟩
  · rename_i v H1 he; obtain ⟨_, e⟩ := aop_quiet h1 he; cases e
  · rename_i g args H1 he; obtain ⟨_, e⟩ := aop_quiet h1 he; cases e
  · cases h

section
variable {K : Ctx} {i : Inv} {os : List Oper} {as : List AOper} {f : Nat → List Value} {G : Nat → Mem} {N fin : Nat} {pan : Option Value}

theorem Reg.get (R : Reg K i os as f G N fin pan) {j : Nat} {ao : AOper} (h : as[j]? = some ao) : ∃ o, os[j]? = some o ∧ cOper K.P o = some ao := by
  have hl := cOpers_length R.hc
  have : j < os.length := by rw [← hl]; exact (List.getElem?_eq_some_iff.1 h).1
  obtain ⟨ao', h', hc⟩ := cOpers_get R.hc (List.getElem?_eq_getElem this)
  rw [h] at h'; cases h'; exact ⟨_, List.getElem?_eq_getElem this, hc⟩

theorem Reg.aget (R : Reg K i os as f G N fin pan) {j : Nat} (h : j < N) : ∃ o, as[j]? = some o := ⟨_, List.getElem?_eq_getElem (Nat.lt_of_lt_of_le h R.nle)⟩

theorem Reg.nfin (R : Reg K i os as f G N fin pan) : N ≤ fin := by
  cases pan with
  | none => exact Nat.le_of_eq (R.nrm rfl).2.symm
  | some v => rw [(R.pn v rfl).1]; omega

theorem Reg.len1 (R : Reg K i os as f G N fin pan) {j : Nat} (hj : j < fin) : (G j).length ≤ (G (j + 1)).length := by
  by_cases hN : j < N
  · obtain ⟨ao, ha⟩ := R.aget hN
    obtain ⟨o, ho, hc⟩ := R.get ha
    rcases R.step j ao hN ha with ⟨_, _, e⟩ | ⟨_, v, h, _⟩
    · rw [e]; exact Nat.le_refl _
    · exact step1_len (o := o) R.hi (cOper_spec hc).2.2 h
  · cases pan with
    | none => have := (R.nrm rfl).2; omega
    | some v =>
      obtain ⟨e, ao, ha, _, h⟩ := R.pn v rfl
      obtain rfl : j = N := by omega
      obtain ⟨o, ho, hc⟩ := R.get ha
      exact step1_len (o := o) R.hi (cOper_spec hc).2.2 h

theorem Reg.len (R : Reg K i os as f G N fin pan) {j k : Nat} (h : j ≤ k) (hk : k ≤ fin) : (G j).length ≤ (G k).length := by
  induction k with
  | zero => obtain rfl : j = 0 := by omega
            exact Nat.le_refl _
  | succ k ih =>
    by_cases e : j = k + 1
    · subst e; exact Nat.le_refl _
    · exact Nat.le_trans (ih (by omega) (by omega)) (R.len1 (by omega))

theorem put_length (fr : List Value) (d : Option Nat) (v : Value) : (put fr d v).length = fr.length := by cases d <;> simp [put]

theorem put_get (fr : List Value) (d : Option Nat) (v : Value) (t : Nat) : (put fr d v)[t]? = if d = some t then (if t < fr.length then some v else none) else fr[t]? := by
  cases d with
  | none => simp [put]
  | some d =>
    simp only [put, Option.some.injEq, List.getElem?_set]
    by_cases e : d = t
    · subst e; simp
    · simp [e]

theorem Reg.flen (R : Reg K i os as f G N fin pan) {j : Nat} (h : j ≤ N) : (f j).length = (f 0).length := by
  induction j with
  | zero => rfl
  | succ j ih =>
    obtain ⟨ao, ha⟩ := R.aget (show j < N by omega)
    rcases R.step j ao (by omega) ha with ⟨_, e, _⟩ | ⟨_, v, _, e⟩ <;> rw [e, put_length, ih (by omega)]

theorem Reg.stable (R : Reg K i os as f G N fin pan) {q k t : Nat} (h : q ≤ k) (hk : k ≤ N) (hw : ∀ j o, q ≤ j → j < k → as[j]? = some o → o.dst ≠ some t) : (f q)[t]? = (f k)[t]? := by
  induction k with
  | zero => obtain rfl : q = 0 := by omega
            rfl
  | succ k ih =>
    by_cases e : q = k + 1
    · subst e; rfl
    · obtain ⟨ao, ha⟩ := R.aget (show k < N by omega)
      have hne := hw k ao (by omega) (by omega) ha
      rw [ih (by omega) (by omega) fun j o h1 h2 => hw j o h1 (by omega)]
      rcases R.step k ao (by omega) ha with ⟨_, e, _⟩ | ⟨_, v, _, e⟩ <;> rw [e, put_get, if_neg hne]

theorem Reg.same (R : Reg K i os as f G N fin pan) {j : Nat} (h : j < N) (h1 : ¬ IsAct as f j) (h2 : ¬ IsNew as f j) : G (j + 1) = G j := by
  obtain ⟨ao, ha⟩ := R.aget h
  rcases R.step j ao h ha with ⟨_, _, e⟩ | ⟨hw, v, hs, _⟩
  · exact e
  · have a1 : acts ao.op = false := by
      cases e : acts ao.op
      · rfl
      · exact absurd ⟨ao, ha, e, hw⟩ h1
    have a2 : allocs ao.op = false := by
      cases e : allocs ao.op
      · rfl
      · exact absurd ⟨ao, ha, e, hw⟩ h2
    obtain ⟨v', _, he⟩ := step1_val a1 hs
    by_cases h3 : looks ao.op = true
    · exact (aop_look h3 he).choose_spec.2.1
    · exact (aop_pure a1 a2 (by simpa using h3) he).choose_spec.2.1

theorem Reg.newAt (R : Reg K i os as f G N fin pan) {j : Nat} (h : j < N) {ao : AOper} (ha : as[j]? = some ao) (hk : allocs ao.op = true) (hw : wantedA as (f j) ao = some true) :
    ∃ v c, c.isW = true ∧ G (j + 1) = G j ++ [c] ∧ f (j + 1) = put (f j) ao.dst v ∧ ∀ H2 : Mem, H2.length = (G j).length → aop ao.op (ev (f j)) H2 = some (.val v, H2 ++ [c]) := by
  rcases R.step j ao h ha with ⟨hw', _⟩ | ⟨_, v, hs, hf⟩
  · rw [hw] at hw'; cases hw'
  · obtain ⟨v', e, he⟩ := step1_val (act_new hk) hs
    cases e
    obtain ⟨v', c, e, hc, hH, hall⟩ := aop_alloc hk he
    cases e
    exact ⟨v, c, hc, hH, hf, hall⟩

theorem Reg.newLen (R : Reg K i os as f G N fin pan) {j : Nat} (h : j < N) (hn : IsNew as f j) : (G (j + 1)).length = (G j).length + 1 := by
  obtain ⟨ao, ha, hk, hw⟩ := hn
  obtain ⟨v, c, _, e, _⟩ := R.newAt h ha hk hw
  rw [e]; simp

theorem not_act_new {k : Nat} (h : IsAct as f k) : ¬ IsNew as f k := by
  rintro ⟨o, e, h1, _⟩
  obtain ⟨o', e', h2, _⟩ := h
  rw [e] at e'; cases e'
  rw [act_new h1] at h2; cases h2

/-- Frames. -/
structure Fm (as : List AOper) (f : Nat → List Value) (N : Nat) (L : Nat → Prop) (cur : List Value) : Prop where
  clen : cur.length = (f 0).length
  tmp : ∀ t, ∃ q, q ≤ N ∧ (∀ k o, L k → as[k]? = some o → o.dst = some t → k < q) ∧ (q = 0 ∨ ∃ k o, q = k + 1 ∧ L k ∧ as[k]? = some o ∧ o.dst = some t) ∧ cur[t]? = (f q)[t]?

/-- What is asked of the operation that comes next. -/
structure Rdy (os : List Oper) (as : List AOper) (N : Nat) (L : Nat → Prop) (k : Nat) : Prop where
  cl : Closed os L
  llt : ∀ j, L j → j < as.length → j < N
  klt : k < as.length
  nl : ¬ L k
  bs : ∀ x ∈ (befs os []).getD k [], L x
  kN : k ≤ N

theorem Rdy.bef {L : Nat → Prop} {k : Nat} (r : Rdy os as N L k) (hl : as.length = os.length) {j : Nat} (hj : j < as.length) (h : L j) : ∀ x ∈ (befs os []).getD j [], L x :=
  befs_closed r.cl j _ (List.getElem?_eq_getElem (by omega)) fun e he hb => r.cl j _ h (List.getElem?_eq_getElem (by omega)) e he hb

/-- Operation j, done, does not name the place of k; k, not done, waits not for j. -/
theorem Rdy.above (R : Reg K i os as f G N fin pan) {L : Nat → Prop} {k : Nat} (r : Rdy os as N L k) {j : Nat} {ao aj : AOper} (hk : as[k]? = some ao) (hj : as[j]? = some aj) (hL : L j) (hlt : k < j) :
    (∀ d, ao.dst = some d → d ∉ namesOf as aj ∧ aj.dst ≠ some d) ∧ (∀ d, aj.dst = some d → d ∉ namesOf as ao) ∧ ¬ (acts ao.op = true ∧ acts aj.op = true) := by
  have hl := cOpers_length R.hc
  have hjl := (List.getElem?_eq_some_iff.1 hj).1
  exact pair_free (drawOk_pair R.draw hlt (by omega)) hk hj fun hm => r.nl (r.bef hl hjl hL _ hm)

theorem Fm.names (R : Reg K i os as f G N fin pan) {L : Nat → Prop} {cur : List Value} (F : Fm as f N L cur) {k : Nat} (r : Rdy os as N L k) {ao : AOper} (hk : as[k]? = some ao) {t : Nat} (ht : t ∈ namesOf as ao) : cur[t]? = (f k)[t]? := by
  have hl := cOpers_length R.hc
  obtain ⟨q, hq, hlt, hor, e⟩ := F.tmp t
  rw [e]
  refine R.stable ?_ r.kN fun j o h1 h2 hj hd => ?_
  · rcases hor with rfl | ⟨k', o, rfl, hL, hk', hd⟩
    · omega
    · rcases Nat.lt_trichotomy k' k with h | rfl | h
      · omega
      · exact absurd hL r.nl
      · exact absurd ht ((r.above R hk hk' hL h).2.1 t hd)
  · by_cases hm : j ∈ (befs os []).getD k []
    · have := hlt j o (r.bs _ hm) hj hd; omega
    · exact absurd ht ((pair_free (drawOk_pair R.draw h2 (by have := r.klt; omega)) hj hk hm).1 t hd).1

theorem Fm.step (R : Reg K i os as f G N fin pan) {L L' : Nat → Prop} {cur : List Value} (F : Fm as f N L cur) {k : Nat} (r : Rdy os as N L k) (hL' : ∀ j, L' j ↔ L j ∨ j = k) (hkN : k < N) {ao : AOper} (hk : as[k]? = some ao) {v : Value} (hf : f (k + 1) = put (f k) ao.dst v) : Fm as f N L' (put cur ao.dst v) where
  clen := by rw [put_length]; exact F.clen
  tmp t := by
    by_cases hd : ao.dst = some t
    · refine ⟨k + 1, hkN, fun j o hj e e' => ?_, .inr ⟨k, ao, rfl, (hL' k).2 (.inr rfl), hk, hd⟩, ?_⟩
      · rcases (hL' j).1 hj with hj | rfl
        · by_cases h : k < j
          · exact absurd e' ((r.above R hk e hj h).1 t hd).2
          · omega
        · omega
      · rw [hf, put_get, put_get, if_pos hd, if_pos hd, F.clen, R.flen (Nat.le_of_lt hkN)]
    · obtain ⟨q, hq, hlt, hor, e⟩ := F.tmp t
      refine ⟨q, hq, fun j o hj e1 e2 => ?_, ?_, ?_⟩
      · rcases (hL' j).1 hj with hj | rfl
        · exact hlt j o hj e1 e2
        · rw [hk] at e1; cases e1; exact absurd e2 hd
      · rcases hor with h | ⟨k', o, h1, h2, h3⟩
        · exact .inl h
        · exact .inr ⟨k', o, h1, (hL' k').2 (.inl h2), h3⟩
      · rw [put_get, if_neg hd, e]

theorem Fm.done (R : Reg K i os as f G N fin none) {L : Nat → Prop} {cur : List Value} (F : Fm as f N L cur) (hall : ∀ j, j < as.length → L j) : cur = f N := by
  apply List.ext_getElem?
  intro t
  obtain ⟨q, hq, hlt, hor, e⟩ := F.tmp t
  rw [e]
  refine R.stable hq (Nat.le_refl _) fun j o h1 h2 hj hd => ?_
  have := hlt j o (hall j (List.getElem?_eq_some_iff.1 hj).1) hj hd
  omega

theorem wanted_cur {cur fk : List Value} {ao : AOper} (h : ∀ t ∈ namesOf as ao, cur[t]? = fk[t]?) : wantedA as cur ao = wantedA as fk ao := by
  unfold wantedA
  cases hg : ao.guard with
  | none => rfl
  | some p =>
    obtain ⟨j, b⟩ := p
    simp only
    cases hd : (as[j]?).bind (·.dst) with
    | none => rfl
    | some d =>
      have := h d (by simp [namesOf, hg, hd])
      simp only [this]

theorem ev_cur {cur fk : List Value} {ao : AOper} (h : ∀ t ∈ namesOf as ao, cur[t]? = fk[t]?) : ∀ x ∈ axs ao.op, ev cur x = ev fk x := by
  intro x hx
  cases x with
  | t n =>
    have := h n (by simp only [namesOf, tmpsOf, List.mem_append, List.mem_filterMap]; exact .inl ⟨_, hx, rfl⟩)
    simp only [ev, List.getD_eq_getElem?_getD, this]
  | c v => rfl
  | f id => rfl

end
end Go.Proofs.Am

/- Regions that draw their order: the memory in the midst of one. -/
namespace Go.Proofs.Am
open Go Go.RowKit

/-- The memory, operations of L done, all that act ahead of p done and none from p on. -/
structure Mm (K : Ctx) (as : List AOper) (f : Nat → List Value) (G : Nat → Mem) (N fin : Nat) (ρ0 : Ren) (w0 : World) (L : Nat → Prop) (p : Nat) (ρ : Ren) (w : World) : Prop where
  ple : p ≤ N
  pbel : ∀ k, k < p → IsAct as f k → L k
  pabv : ∀ k, p ≤ k → IsAct as f k → ¬ L k
  hr : HR K ρ (G p) w
  unl : ∀ k, k < p → ¬ L k → IsNew as f k → (G p)[(G k).length]? = (G (k + 1))[(G k).length]?
  ear : ∀ k, p ≤ k → k < N → L k → IsNew as f k → ∀ c, (G (k + 1))[(G k).length]? = some c → ∀ A s M, ρ (G k).length = some (A, s, M) → BR K ρ c A s M w ∧ w0.heap.size ≤ A ∧ A < w.heap.size ∧ ∀ b x, ρ b = some (A, x) → b = (G k).length
  own : ∀ b, (G 0).length ≤ b → b < (G fin).length → ρ b ≠ none → ∃ k, k < N ∧ L k ∧ (G k).length ≤ b ∧ b < (G (k + 1)).length
  ext : ∀ b, b < (G 0).length ∨ (G fin).length ≤ b → ρ b = ρ0 b
  fr : ∀ A, A < w0.heap.size → (∀ b s, ρ0 b = some (A, s) → ¬ wrt (G 0) b) → w.heap[A]? = w0.heap[A]?
  afr : ∀ b, b < (G 0).length → ρ0 b = none → (G p)[b]? = (G 0)[b]?
  wr : ∀ b, b < (G 0).length → wrt (G p) b → wrt (G 0) b
  wlen : w0.heap.size ≤ w.heap.size
  img : ∀ b A s, ρ b = some (A, s) → wrt (G p) b → w0.heap.size ≤ A ∨ ∃ b0 s0, ρ0 b0 = some (A, s0) ∧ wrt (G 0) b0
  new : ∀ b A s, ρ b = some (A, s) → ρ0 b = some (A, s) ∨ w0.heap.size ≤ A ∨ ∃ b0 s0, b0 < (G fin).length ∧ ρ0 b0 = some (A, s0)

section
variable {K : Ctx} {i : Inv} {os : List Oper} {as : List AOper} {f : Nat → List Value} {G : Nat → Mem} {N fin : Nat} {pan : Option Value} {ρ0 ρ ρ' : Ren} {w0 w w' : World} {L L' : Nat → Prop} {p : Nat}

theorem Mm.start (hr : HR K ρ0 (G 0) w0) (hfree : Free ρ0 (G 0).length (G fin).length) (hL : ∀ k, k < as.length → ¬ L k) : Mm K as f G N fin ρ0 w0 L 0 ρ0 w0 where
  ple := Nat.zero_le _
  pbel k h := by omega
  pabv k _ h hl := by
    obtain ⟨o, e, _⟩ := h
    exact hL k (List.getElem?_eq_some_iff.1 e).1 hl
  hr := hr
  unl k h := by omega
  ear k _ _ hl h := by
    obtain ⟨o, e, _⟩ := h
    exact absurd hl (hL k (List.getElem?_eq_some_iff.1 e).1)
  own b h1 h2 h3 := absurd (hfree b h1 h2) h3
  ext _ _ := rfl
  fr _ _ _ := rfl
  afr _ _ _ := rfl
  wr _ _ h := h
  wlen := Nat.le_refl _
  img b A s e h := .inr ⟨b, s, e, h⟩
  new b A s e := .inl e

/-- An operation that has to do with no memory is done. -/
theorem Mm.list (M : Mm K as f G N fin ρ0 w0 L p ρ w) {k : Nat} (hL' : ∀ j, L' j ↔ L j ∨ j = k) (h1 : ¬ IsAct as f k) (h2 : ¬ IsNew as f k) : Mm K as f G N fin ρ0 w0 L' p ρ w :=
  { M with
    pbel := fun j hj ha => (hL' j).2 (.inl (M.pbel j hj ha))
    pabv := fun j hj ha hl => by
      rcases (hL' j).1 hl with h | rfl
      · exact M.pabv j hj ha h
      · exact h1 ha
    unl := fun j hj hl => M.unl j hj fun h => hl ((hL' j).2 (.inl h))
    ear := fun j hj hN hl hn => by
      rcases (hL' j).1 hl with h | rfl
      · exact M.ear j hj hN h hn
      · exact absurd hn h2
    own := fun b hb1 hb2 hb3 => by
      obtain ⟨j, hj, hl, r⟩ := M.own b hb1 hb2 hb3
      exact ⟨j, hj, (hL' j).2 (.inl hl), r⟩ }

theorem Mm.earLt (R : Reg K i os as f G N fin pan) (M : Mm K as f G N fin ρ0 w0 L p ρ w) {k : Nat} (h1 : p ≤ k) (h2 : k < N) : (G p).length ≤ (G k).length := R.len h1 (by have := R.nfin; omega)

theorem not_wrt_ge {H : Mem} {b : Nat} (h : H.length ≤ b) : ¬ wrt H b := fun hw => by have := wrt_lt hw; omega

/-- A step that leaves the small memory. -/
theorem Mm.world (R : Reg K i os as f G N fin pan) (M : Mm K as f G N fin ρ0 w0 L p ρ w) (hs : Stp K ρ (G p) w ρ (G p) w') : Mm K as f G N fin ρ0 w0 L p ρ w' :=
  { M with
    hr := hs.hr
    ear := fun k h1 h2 h3 h4 c h5 A s m h6 => by
      obtain ⟨b1, b2, b3, b4⟩ := M.ear k h1 h2 h3 h4 c h5 A s m h6
      refine ⟨b1.world (hs.fr A b3 fun b s e hw => ?_), b2, Nat.lt_of_lt_of_le b3 hs.wlen, b4⟩
      have := b4 b s e
      exact not_wrt_ge (by rw [this]; exact M.earLt R h1 h2) hw
    fr := fun A hA hn => by
      rw [hs.fr A (Nat.lt_of_lt_of_le hA M.wlen) fun b s e hw => ?_, M.fr A hA hn]
      rcases M.img b A s e hw with h | ⟨b0, s0, e0, hw0⟩
      · omega
      · exact hn b0 s0 e0 hw0
    wlen := Nat.le_trans M.wlen hs.wlen }

/-- A block that is made, at whatever place in the order. -/
theorem Mm.alloc (R : Reg K i os as f G N fin pan) (M : Mm K as f G N fin ρ0 w0 L p ρ w) {k : Nat} (hL' : ∀ j, L' j ↔ L j ∨ j = k) (hk : k < N) (hnl : ¬ L k) (hn : IsNew as f k) {c : Blk} (hc : c.isW = true) (hG : G (k + 1) = G k ++ [c])
    (hs : Stp K ρ (List.replicate (G k).length .gone) w ρ' (List.replicate (G k).length .gone ++ [c]) w') : Mm K as f G N fin ρ0 w0 L' p ρ' w' := by
  have hfin := R.nfin
  have h0k := R.len (j := 0) (k := k) (by omega) (by omega)
  have hkf := R.len (j := k + 1) (k := fin) (by omega) (by omega)
  have hlen1 : (G (k + 1)).length = (G k).length + 1 := by rw [hG]; simp
  generalize hβ : (G k).length = β at *
  have hnone : ρ β = none := by
    cases e : ρ β with
    | none => rfl
    | some x =>
      obtain ⟨j, hj, hl, h1, h2⟩ := M.own β (by omega) (by omega) (by rw [e]; simp)
      rcases Nat.lt_trichotomy j k with h | h | h
      · have := R.len (j := j + 1) (k := k) (by omega) (by omega); omega
      · subst h; exact absurd hl hnl
      · have := R.len (j := k + 1) (k := j) (by omega) (by omega); omega
  have hne : ∀ b, b ≠ β → ρ' b = ρ b := fun b hb => hs.ext b (by simp; omega)
  have hsub : Sub ρ ρ' := fun b x e => by
    by_cases hb : b = β
    · subst hb; rw [hnone] at e; cases e
    · rw [hne b hb]; exact e
  have hold : ∀ A, A < w.heap.size → w'.heap[A]? = w.heap[A]? := fun A hA => hs.fr A hA fun b s e => by
    rintro ⟨blk, h1, h2⟩
    have := (List.getElem?_eq_some_iff.1 h1)
    obtain ⟨hlt, e1⟩ := this
    simp at e1; subst e1; cases h2
  have hfresh : ∀ A s, ρ' β = some (A, s) → w.heap.size ≤ A := fun A s e => by
    rcases hs.img β A s e ⟨c, by simp, hc⟩ with h | ⟨b0, s0, _, blk, h1, h2⟩
    · exact h
    · obtain ⟨hlt, e1⟩ := List.getElem?_eq_some_iff.1 h1
      simp at e1; subst e1; cases h2
  have hlt' : ∀ A s, ρ' β = some (A, s) → A < w'.heap.size := fun A s e => hs.hr.lt β A s e
  have hbr : ∀ A s m, ρ' β = some (A, s, m) → BR K ρ' c A s m w' := fun A s m e => hs.hr.blk β c A s m (by simp) e
  have hnotin : ¬ (k < p) → (G p)[β]? = none := fun h => by
    rw [List.getElem?_eq_none_iff, ← hβ]; exact R.len (by omega) (by omega)
  refine { ple := M.ple, pbel := ?_, pabv := ?_, hr := ⟨?_, ?_, hs.hr.lt, hs.hr.below, hs.hr.base⟩, unl := ?_, ear := ?_, own := ?_, ext := ?_, fr := ?_, afr := M.afr, wr := M.wr, wlen := Nat.le_trans M.wlen hs.wlen, img := ?_, new := ?_ }
  · exact fun j hj ha => (hL' j).2 (.inl (M.pbel j hj ha))
  · intro j hj ha hl
    rcases (hL' j).1 hl with h | rfl
    · exact M.pabv j hj ha h
    · exact not_act_new ha hn
  · intro b blk A s m hb e
    by_cases h : b = β
    · subst h
      have hkp : k < p := by
        by_cases h : k < p
        · exact h
        · rw [hnotin h] at hb; cases hb
      have := M.unl k hkp hnl hn
      rw [hβ, hb, hG, ← hβ] at this
      simp at this; subst this
      exact hbr A s m e
    · rw [hne b h] at e
      exact ((M.hr.blk b blk A s m hb e).mono hsub).world (hold A (M.hr.lt b A _ e))
  · intro b b' A s s' hbb e e' hw
    by_cases h : b = β
    · subst h
      rw [hne b' (Ne.symm hbb)] at e'
      have := hfresh A s e
      have := M.hr.lt b' A s' e'
      omega
    · by_cases h' : b' = β
      · subst h'
        rw [hne b h] at e
        have := hfresh A s' e'
        have := M.hr.lt b A s e
        omega
      · rw [hne b h] at e; rw [hne b' h'] at e'
        exact M.hr.inj b b' A s s' hbb e e' hw
  · exact fun j hj hl => M.unl j hj fun h => hl ((hL' j).2 (.inl h))
  · intro j h1 h2 hl hnj c' h5 A s m h6
    rcases (hL' j).1 hl with h | rfl
    · have hjk : (G j).length ≠ β := by
        intro e
        have l1 := R.newLen h2 hnj
        rcases Nat.lt_trichotomy j k with h' | h' | h'
        · have := R.len (j := j + 1) (k := k) (by omega) (by omega); omega
        · subst h'; exact hnl h
        · have := R.len (j := k + 1) (k := j) (by omega) (by omega); omega
      rw [hne _ hjk] at h6
      obtain ⟨b1, b2, b3, b4⟩ := M.ear j h1 h2 h hnj c' h5 A s m h6
      refine ⟨(b1.mono hsub).world (hold A b3), b2, Nat.lt_of_lt_of_le b3 hs.wlen, fun b x e => ?_⟩
      by_cases hb : b = β
      · subst hb
        have := hfresh A x e; omega
      · rw [hne b hb] at e; exact b4 b x e
    · rw [hβ] at h6
      have : c' = c := by
        rw [hG] at h5; simp at h5; exact h5.symm
      subst this
      refine ⟨hbr A s m h6, Nat.le_trans M.wlen (hfresh A _ h6), hlt' A _ h6, fun b x e => ?_⟩
      rw [hβ]
      by_cases hb : b = β
      · exact hb
      · rw [hne b hb] at e
        have := M.hr.lt b A x e
        have := hfresh A _ h6
        omega
  · intro b h1 h2 h3
    by_cases hb : b = β
    · subst hb
      exact ⟨k, hk, (hL' k).2 (.inr rfl), by omega, by omega⟩
    · rw [hne b hb] at h3
      obtain ⟨j, hj, hl, r⟩ := M.own b h1 h2 h3
      exact ⟨j, hj, (hL' j).2 (.inl hl), r⟩
  · intro b hb
    rw [hne b (by omega)]; exact M.ext b hb
  · intro A hA hn'
    rw [hold A (Nat.lt_of_lt_of_le hA M.wlen)]; exact M.fr A hA hn'
  · intro b A s e hw
    by_cases hb : b = β
    · subst hb; exact .inl (Nat.le_trans M.wlen (hfresh A s e))
    · rw [hne b hb] at e; exact M.img b A s e hw
  · intro b A s e
    by_cases hb : b = β
    · subst hb; exact .inr (.inl (Nat.le_trans M.wlen (hfresh A s e)))
    · rw [hne b hb] at e; exact M.new b A s e

/-- The place p goes on past an operation that does not act. -/
theorem Mm.advance (R : Reg K i os as f G N fin pan) (M : Mm K as f G N fin ρ0 w0 L p ρ w) (hp : p < N) (ha : ¬ IsAct as f p) : Mm K as f G N fin ρ0 w0 L (p + 1) ρ w := by
  have hfin := R.nfin
  have base : (∀ k, k < p + 1 → IsAct as f k → L k) ∧ (∀ k, p + 1 ≤ k → IsAct as f k → ¬ L k) := by
    refine ⟨fun k hk h => ?_, fun k hk => M.pabv k (by omega)⟩
    by_cases e : k = p
    · subst e; exact absurd h ha
    · exact M.pbel k (by omega) h
  by_cases hn : IsNew as f p
  · obtain ⟨ao, hao, hall, hw⟩ := id hn
    obtain ⟨v, c, hc, hG, _⟩ := R.newAt hp hao hall hw
    have hl : (G (p + 1)).length = (G p).length + 1 := by rw [hG]; simp
    have h0p := R.len (j := 0) (k := p) (by omega) (by omega)
    have hpf := R.len (j := p + 1) (k := fin) (by omega) (by omega)
    have hget : ∀ b, b < (G p).length → (G (p + 1))[b]? = (G p)[b]? := fun b hb => by rw [hG, List.getElem?_append_left hb]
    have hlast : (G (p + 1))[(G p).length]? = some c := by rw [hG]; simp
    have hwrt : ∀ b, wrt (G (p + 1)) b → wrt (G p) b ∨ b = (G p).length := fun b hb => by
      rw [hG] at hb
      rcases wrt_append hb with h | ⟨h, _⟩
      · exact .inl h
      · exact .inr h
    have hLp : ∀ x, ρ (G p).length = some x → L p := fun x e => by
      obtain ⟨k, hk, hl', h1, h2⟩ := M.own (G p).length h0p (by omega) (by rw [e]; simp)
      rcases Nat.lt_trichotomy k p with h | h | h
      · have := R.len (j := k + 1) (k := p) (by omega) (by omega); omega
      · subst h; exact hl'
      · have := R.len (j := p + 1) (k := k) (by omega) (by omega); omega
    have hear : ∀ A s m, ρ (G p).length = some (A, s, m) → BR K ρ c A s m w ∧ w0.heap.size ≤ A ∧ A < w.heap.size ∧ ∀ b x, ρ b = some (A, x) → b = (G p).length :=
      fun A s m e => M.ear p (Nat.le_refl _) hp (hLp _ e) hn c hlast A s m e
    refine { M with ple := hp, pbel := base.1, pabv := base.2, hr := ⟨?_, ?_, M.hr.lt, M.hr.below, M.hr.base⟩, unl := ?_, ear := fun k hk => M.ear k (by omega), afr := ?_, wr := ?_, img := ?_ }
    · intro b blk A s m hb e
      by_cases h : b < (G p).length
      · rw [hget b h] at hb; exact M.hr.blk b blk A s m hb e
      · have h1 := (List.getElem?_eq_some_iff.1 hb).1
        obtain rfl : b = (G p).length := by omega
        rw [hlast] at hb; cases hb
        exact (hear A s m e).1
    · intro b b' A s s' hbb e e' hw'
      rcases hwrt b hw' with h | rfl
      · have hg := M.hr.inj b b' A s s' hbb e e' h
        rw [hget b' (List.getElem?_eq_some_iff.1 hg).1]; exact hg
      · obtain ⟨s1, s2⟩ := s
        exact absurd ((hear A s1 s2 e).2.2.2 b' s' e').symm hbb
    · intro k hk hl' hnk
      by_cases h : k = p
      · subst h; rfl
      · have l1 := R.newLen (show k < N by omega) hnk
        have l2 := R.len (j := k + 1) (k := p) (by omega) (by omega)
        rw [hget _ (by omega)]
        exact M.unl k (by omega) hl' hnk
    · intro b hb e
      rw [hget b (by omega)]; exact M.afr b hb e
    · intro b hb hw'
      rcases hwrt b hw' with h | h
      · exact M.wr b hb h
      · omega
    · intro b A s e hw'
      rcases hwrt b hw' with h | rfl
      · exact M.img b A s e h
      · obtain ⟨s1, s2⟩ := s
        exact .inl (hear A s1 s2 e).2.1
  · have hG := R.same hp ha hn
    refine { M with ple := hp, pbel := base.1, pabv := base.2, hr := by rw [hG]; exact M.hr, unl := ?_, ear := fun k hk => M.ear k (by omega), afr := by rw [hG]; exact M.afr, wr := by rw [hG]; exact M.wr, img := by rw [hG]; exact M.img }
    intro k hk hl hnk
    by_cases h : k = p
    · subst h; exact absurd hnk hn
    · rw [hG]; exact M.unl k (by omega) hl hnk

theorem Mm.toAct (R : Reg K i os as f G N fin pan) : ∀ (d : Nat) {p : Nat}, Mm K as f G N fin ρ0 w0 L p ρ w → d = N - p → ∃ p', p ≤ p' ∧ Mm K as f G N fin ρ0 w0 L p' ρ w ∧ (p' = N ∨ p' < N ∧ IsAct as f p')
  | 0, p, M, e => ⟨p, Nat.le_refl _, M, .inl (by have := M.ple; omega)⟩
  | d + 1, p, M, e => by
    by_cases h : IsAct as f p
    · exact ⟨p, Nat.le_refl _, M, .inr ⟨by omega, h⟩⟩
    · obtain ⟨p', h1, h2⟩ := Mm.toAct R d (M.advance R (by omega) h) (by omega)
      exact ⟨p', by omega, h2⟩

/-- The operation at p, that acts, is done. -/
theorem Mm.act (R : Reg K i os as f G N fin pan) (M : Mm K as f G N fin ρ0 w0 L p ρ w) (hL' : ∀ j, L' j ↔ L j ∨ j = p) (hp : p < N) (hact : IsAct as f p) (hs : Stp K ρ (G p) w ρ' (G (p + 1)) w') (hsub : Sub ρ ρ') : Mm K as f G N fin ρ0 w0 L' (p + 1) ρ' w' := by
  have hfin := R.nfin
  have h0p := R.len (j := 0) (k := p) (by omega) (by omega)
  have hp1 := R.len1 (j := p) (by omega)
  have hpf := R.len (j := p + 1) (k := fin) (by omega) (by omega)
  refine { ple := hp, pbel := ?_, pabv := ?_, hr := hs.hr, unl := ?_, ear := ?_, own := ?_, ext := ?_, fr := ?_, afr := ?_, wr := ?_, wlen := Nat.le_trans M.wlen hs.wlen, img := ?_, new := ?_ }
  · intro k hk h
    by_cases e : k = p
    · subst e; exact (hL' k).2 (.inr rfl)
    · exact (hL' k).2 (.inl (M.pbel k (by omega) h))
  · intro k hk h hl
    rcases (hL' k).1 hl with h' | rfl
    · exact M.pabv k (by omega) h h'
    · omega
  · intro k hk hl hn
    have hkp : k ≠ p := fun e => by subst e; exact not_act_new hact hn
    have hl0 : ¬ L k := fun h => hl ((hL' k).2 (.inl h))
    have l1 := R.newLen (show k < N by omega) hn
    have l2 := R.len (j := k + 1) (k := p) (by omega) (by omega)
    have l0 := R.len (j := 0) (k := k) (by omega) (by omega)
    have hnone : ρ (G k).length = none := by
      cases e : ρ (G k).length with
      | none => rfl
      | some x =>
        obtain ⟨j, hj, hlj, h1, h2⟩ := M.own (G k).length l0 (by omega) (by rw [e]; simp)
        rcases Nat.lt_trichotomy j k with h | h | h
        · have := R.len (j := j + 1) (k := k) (by omega) (by omega); omega
        · subst h; exact absurd hlj hl0
        · have := R.len (j := k + 1) (k := j) (by omega) (by omega); omega
    rw [hs.afr _ (by omega) hnone]
    exact M.unl k (by omega) hl0 hn
  · intro k hk hkN hl hn c hc A s m e
    have hlk : L k := by
      rcases (hL' k).1 hl with h | rfl
      · exact h
      · omega
    have l1 := R.len (j := p + 1) (k := k) (by omega) (by omega)
    rw [hs.ext _ (.inr l1)] at e
    obtain ⟨b1, b2, b3, b4⟩ := M.ear k (by omega) hkN hlk hn c hc A s m e
    refine ⟨(b1.mono hsub).world (hs.fr A b3 fun b s e hw => not_wrt_ge (by rw [b4 b s e]; omega) hw), b2, Nat.lt_of_lt_of_le b3 hs.wlen, fun b x e' => ?_⟩
    rcases hs.new b A x e' with h | h | ⟨b0, s0, hb0, e0⟩
    · exact b4 b x h
    · omega
    · have := b4 b0 s0 e0; omega
  · intro b h1 h2 h3
    by_cases hb : b < (G p).length ∨ (G (p + 1)).length ≤ b
    · rw [hs.ext b hb] at h3
      obtain ⟨j, hj, hl, r⟩ := M.own b h1 h2 h3
      exact ⟨j, hj, (hL' j).2 (.inl hl), r⟩
    · exact ⟨p, hp, (hL' p).2 (.inr rfl), by omega, by omega⟩
  · intro b hb
    rw [hs.ext b (by omega)]; exact M.ext b hb
  · intro A hA hn
    rw [hs.fr A (Nat.lt_of_lt_of_le hA M.wlen) fun b s e hw => ?_, M.fr A hA hn]
    rcases M.img b A s e hw with h | ⟨b0, s0, e0, hw0⟩
    · omega
    · exact hn b0 s0 e0 hw0
  · intro b hb e
    rw [hs.afr b (by omega) (by rw [M.ext b (.inl hb)]; exact e)]; exact M.afr b hb e
  · intro b hb hw
    exact M.wr b hb (hs.wr b (by omega) hw)
  · intro b A s e hw
    rcases hs.img b A s e hw with h | ⟨b0, s0, e0, hw0⟩
    · exact .inl (Nat.le_trans M.wlen h)
    · exact M.img b0 A s0 e0 hw0
  · intro b A s e
    rcases hs.new b A s e with h | h | ⟨b0, s0, hb0, e0⟩
    · exact M.new b A s h
    · exact .inr (.inl (Nat.le_trans M.wlen h))
    · rcases M.new b0 A s0 e0 with h1 | h1 | h1
      · exact .inr (.inr ⟨b0, s0, by omega, h1⟩)
      · exact .inr (.inl h1)
      · exact .inr (.inr h1)

/-- At the end: a step of the whole. -/
theorem Mm.stp (R : Reg K i os as f G N fin pan) (M : Mm K as f G N fin ρ0 w0 L N ρ w) (hfin : fin = N) : Stp K ρ0 (G 0) w0 ρ (G N) w := by
  subst hfin
  exact ⟨M.ext, M.hr, M.fr, M.afr, M.wr, R.len (Nat.zero_le _) (Nat.le_refl _), M.wlen, M.img, M.new⟩

/-- At a panic: a step of the whole. -/
theorem Mm.stpPanic (R : Reg K i os as f G N fin pan) (M : Mm K as f G N fin ρ0 w0 L N ρ w) (hfin : fin = N + 1) (hs : Stp K ρ (G N) w ρ' (G (N + 1)) w') : Stp K ρ0 (G 0) w0 ρ' (G (N + 1)) w' := by
  subst hfin
  have h0p := R.len (j := 0) (k := N) (by omega) (by omega)
  have hp1 := R.len1 (j := N) (by omega)
  refine ⟨?_, hs.hr, ?_, ?_, ?_, by omega, Nat.le_trans M.wlen hs.wlen, ?_, ?_⟩
  · intro b hb
    rw [hs.ext b (by omega)]; exact M.ext b hb
  · intro A hA hn
    rw [hs.fr A (Nat.lt_of_lt_of_le hA M.wlen) fun b s e hw => ?_, M.fr A hA hn]
    rcases M.img b A s e hw with h | ⟨b0, s0, e0, hw0⟩
    · omega
    · exact hn b0 s0 e0 hw0
  · intro b hb e
    rw [hs.afr b (by omega) (by rw [M.ext b (.inl hb)]; exact e)]; exact M.afr b hb e
  · intro b hb hw
    exact M.wr b hb (hs.wr b (by omega) hw)
  · intro b A s e hw
    rcases hs.img b A s e hw with h | ⟨b0, s0, e0, hw0⟩
    · exact .inl (Nat.le_trans M.wlen h)
    · exact M.img b0 A s0 e0 hw0
  · intro b A s e
    rcases hs.new b A s e with h | h | ⟨b0, s0, hb0, e0⟩
    · exact M.new b A s h
    · exact .inr (.inl (Nat.le_trans M.wlen h))
    · rcases M.new b0 A s0 e0 with h1 | h1 | h1
      · exact .inr (.inr ⟨b0, s0, by omega, h1⟩)
      · exact .inr (.inl h1)
      · exact .inr (.inr h1)

end
end Go.Proofs.Am

/- Regions that draw their order: each operation at its turn. -/
namespace Go.Proofs.Am
open Go Go.RowKit

section
variable {K : Ctx} {i : Inv} {os : List Oper} {as : List AOper} {f : Nat → List Value} {G : Nat → Mem} {N fin : Nat} {pan : Option Value} {ρ0 ρ ρ' : Ren} {w0 w w' : World} {L L' : Nat → Prop} {p : Nat}

theorem Mm.freeAt (R : Reg K i os as f G N fin pan) (M : Mm K as f G N fin ρ0 w0 L p ρ w) {k : Nat} (hk : k < fin) (hl : ¬ L k) : Free ρ (G k).length (G (k + 1)).length := by
  have hfin := R.nfin
  intro b h1 h2
  cases e : ρ b with
  | none => rfl
  | some x =>
    have h0 := R.len (j := 0) (k := k) (by omega) (by omega)
    have hf := R.len (j := k + 1) (k := fin) (by omega) (by omega)
    obtain ⟨j, hj, hlj, h3, h4⟩ := M.own b (by omega) (by omega) (by rw [e]; simp)
    rcases Nat.lt_trichotomy j k with h | h | h
    · have := R.len (j := j + 1) (k := k) (by omega) (by omega); omega
    · subst h; exact absurd hlj hl
    · have := R.len (j := k + 1) (k := j) (by omega) (by omega); omega

theorem look_next (R : Reg K i os as f G N fin pan) {r : Nat} (hr : r < N) (ha : ¬ IsAct as f r) {ao : AOp} (hl : looks ao = true) {e : AX → Value} {v : Value} (h : aop ao e (G r) = some (.val v, G r)) : aop ao e (G (r + 1)) = some (.val v, G (r + 1)) := by
  by_cases hn : IsNew as f r
  · obtain ⟨o, e1, e2, e3⟩ := hn
    obtain ⟨_, c, _, hG, _⟩ := R.newAt hr e1 e2 e3
    obtain ⟨v', e4, _, hall⟩ := aop_look hl h
    cases e4
    rw [hG]; exact hall [c]
  · rw [R.same hr ha hn]; exact h

/-- A look, whenever its turn comes, sees what it sees in the text's order. -/
theorem look_at (R : Reg K i os as f G N fin pan) (M : Mm K as f G N fin ρ0 w0 L p ρ w) (hp : p = N ∨ p < N ∧ IsAct as f p) {k : Nat} (r : Rdy os as N L k) (hk : k < N) {ao : AOper} (ha : as[k]? = some ao) (hl : looks ao.op = true) (hw : wantedA as (f k) ao = some true)
    {v : Value} (h : aop ao.op (ev (f k)) (G k) = some (.val v, G k)) : aop ao.op (ev (f k)) (G p) = some (.val v, G p) := by
  have hlen := cOpers_length R.hc
  have hnk : ¬ IsAct as f k := by
    rintro ⟨o, e, h1, _⟩
    rw [ha] at e; cases e
    rw [act_look hl] at h1; cases h1
  have hchk : ∀ q, q < N → q ≠ k → IsAct as f q → (k < q → k ∉ (befs os []).getD q []) → (q < k → q ∉ (befs os []).getD k []) → ∃ v, aop ao.op (ev (f k)) (G q) = some (.val v, G q) ∧ aop ao.op (ev (f k)) (G (q + 1)) = some (.val v, G (q + 1)) := by
    rintro q hq hne ⟨oq, e1, e2, e3⟩ h1 h2
    exact R.chk k q ao oq hk hq (Ne.symm hne) ha e1 hl e2 hw e3 h1 h2
  by_cases hkp : k ≤ p
  · have key : ∀ d, k + d ≤ p → aop ao.op (ev (f k)) (G (k + d)) = some (.val v, G (k + d)) := by
      intro d
      induction d with
      | zero => intro _; exact h
      | succ d ih =>
        intro hd
        have h1 := ih (by omega)
        have hrN : k + d < N := by have := M.ple; omega
        by_cases hact : IsAct as f (k + d)
        · have hne : k + d ≠ k := fun e => by rw [e] at hact; exact hnk hact
          have hLr := M.pbel (k + d) (by omega) hact
          obtain ⟨v', h2, h3⟩ := hchk (k + d) hrN hne hact (fun _ hm => r.nl (r.bef hlen (by have := R.nle; omega) hLr _ hm)) (fun hlt => by omega)
          rw [h1] at h2; cases h2
          exact h3
        · exact look_next R hrN hact hl h1
    have := key (p - k) (by omega)
    rwa [show k + (p - k) = p from by omega] at this
  · have hpk : p < k := by omega
    rcases hp with rfl | ⟨hpN, hpa⟩
    · omega
    · have hnLp : ¬ L p := M.pabv p (Nat.le_refl _) hpa
      obtain ⟨v', h1, h2⟩ := hchk p hpN (by omega) hpa (fun hlt => by omega) (fun _ hm => hnLp (r.bs _ hm))
      have key : ∀ d, p + 1 + d ≤ k → aop ao.op (ev (f k)) (G (p + 1 + d)) = some (.val v', G (p + 1 + d)) := by
        intro d
        induction d with
        | zero => intro _; exact h2
        | succ d ih =>
          intro hd
          have h3 := ih (by omega)
          by_cases hact : IsAct as f (p + 1 + d)
          · have hnL : ¬ L (p + 1 + d) := M.pabv _ (by omega) hact
            obtain ⟨v'', h4, h5⟩ := hchk (p + 1 + d) (by omega) (by omega) hact (fun hlt => by omega) (fun _ hm => hnL (r.bs _ hm))
            rw [h3] at h4; cases h4
            exact h5
          · exact look_next R (by omega) hact hl h3
      have := key (k - (p + 1)) (by omega)
      rw [show p + 1 + (k - (p + 1)) = k from by omega, h] at this
      cases this
      exact h1

/-- The only operation that acts and whose turn may come is the one at p. -/
theorem act_here (R : Reg K i os as f G N fin pan) (M : Mm K as f G N fin ρ0 w0 L p ρ w) (hp : p = N ∨ p < N ∧ IsAct as f p) {k : Nat} (r : Rdy os as N L k) (hk : IsAct as f k) : k = p := by
  have hlen := cOpers_length R.hc
  rcases Nat.lt_trichotomy k p with h | h | h
  · exact absurd (M.pbel k h hk) r.nl
  · exact h
  · rcases hp with rfl | ⟨hpN, hpa⟩
    · have := r.kN; omega
    · have hnLp : ¬ L p := M.pabv p (Nat.le_refl _) hpa
      obtain ⟨o1, a1, a2, _⟩ := hpa
      obtain ⟨o2, b1, b2, _⟩ := hk
      have := (pair_free (drawOk_pair R.draw h (by have := r.klt; omega)) a1 b1 fun hm => hnLp (r.bs _ hm)).2.2
      exact absurd ⟨a2, b2⟩ this

theorem hr_gone (h : HR K ρ (G p) w) (n : Nat) : HR K ρ (List.replicate n .gone) w where
  blk b blk A s N hb e := by
    obtain ⟨hlt, e1⟩ := List.getElem?_eq_some_iff.1 hb
    simp at e1; subst e1; trivial
  inj b b' A s s' _ _ _ hw := by
    obtain ⟨blk, h1, h2⟩ := hw
    obtain ⟨hlt, e1⟩ := List.getElem?_eq_some_iff.1 h1
    simp at e1; subst e1; cases h2
  lt := h.lt
  below := h.below
  base := h.base

theorem Stp.same_ren {H : Mem} (h : Stp K ρ H w ρ' H w') : ρ' = ρ := by
  funext b
  exact h.ext b (by omega)

theorem count_set {l : Array Bool} {k : Nat} (hk : k < l.size) (h : l.getD k true ≠ true) : (l.setIfInBounds k true).toList.count false + 1 = l.toList.count false := by
  obtain ⟨l⟩ := l
  simp at hk h ⊢
  have e : l[k] = false := by simpa [List.getElem?_eq_getElem hk] using h
  induction l generalizing k with
  | nil => simp at hk
  | cons x l ih =>
    cases k with
    | zero => simp at e; subst e; simp
    | succ k =>
      simp at hk e h
      have := ih hk (by simpa using h) e
      simp only [List.set_cons_succ, List.count_cons]
      omega

theorem mem_ready {ops : Array Oper} {listed : Array Bool} {k : Nat} : k ∈ Region.ready .any ops listed ↔ ∃ o, ops[k]? = some o ∧ listed.getD k true = false ∧ ∀ e ∈ o.after.toList, Region.binds .any e = true → listed.getD e.on false = true := by
  simp only [Region.ready, List.mem_filter, List.mem_range, Bool.and_eq_true, Bool.not_eq_true']
  constructor
  · rintro ⟨hlt, h1, h2⟩
    refine ⟨ops[k], by simp [hlt], h1, fun e he hb => ?_⟩
    rw [show ops[k]? = some ops[k] from by simp [hlt]] at h2
    simp only [Option.map_some, Option.getD_some, Array.all_eq_true_iff_forall_mem, Bool.or_eq_true, Bool.not_eq_true'] at h2
    rcases h2 e (by simpa using he) with h | h
    · rw [hb] at h; cases h
    · exact h
  · rintro ⟨o, ho, h1, h2⟩
    have hlt := (Array.getElem?_eq_some_iff.1 ho).1
    refine ⟨hlt, h1, ?_⟩
    rw [ho]
    simp only [Option.map_some, Option.getD_some, Array.all_eq_true_iff_forall_mem, Bool.or_eq_true, Bool.not_eq_true']
    intro e he
    cases hb : Region.binds .any e
    · exact .inl rfl
    · exact .inr (h2 e (by simpa using he) hb)

theorem getD_of_false {l : Array Bool} {j : Nat} (h : l.getD j false = true) : l.getD j true = true ∧ j < l.size := by
  by_cases hj : j < l.size
  · simp [Array.getD, hj] at h ⊢; exact h
  · simp [Array.getD, hj] at h

end
end Go.Proofs.Am

/- Regions that draw their order are sound. -/
namespace Go.Proofs.Am
open Go Go.RowKit

section
variable {K : Ctx} {bd : Nat} {i : Inv} {os : List Oper} {as : List AOper} {f : Nat → List Value} {G : Nat → Mem} {N fin : Nat} {pan : Option Value} {ρ0 : Ren} {w0 : World}

/-- What is done. -/
def Ls (l : Array Bool) (j : Nat) : Prop := l.getD j true = true

theorem Ls_set {l : Array Bool} {k : Nat} (hk : k < l.size) (j : Nat) : Ls (l.setIfInBounds k true) j ↔ Ls l j ∨ j = k := by
  unfold Ls
  by_cases e : j = k
  · subst e; simp [Array.getD, hk]
  · by_cases h : j < l.size
    · simp [Array.getD, h, e, Array.getElem_setIfInBounds, Ne.symm e]
    · simp [Array.getD, h, e]

theorem drawn_loop (R : Reg K i os as f G N fin pan) {ro : Option Nat} {Q : Exit → Act → World → Prop} {ds : List Deferred} {out : AOut} (hout : (pan = none ∧ out = .normal) ∨ ∃ v, pan = some v ∧ out = .panic v)
    (ht : Takes K bd ρ0 (G 0) w0 ds out (f N) (G fin) Q) : ∀ (fuel : Nat) (listed : Array Bool) (cur : List Value) (p : Nat) (ρ : Ren) (a : Act) (w : World), listed.size = os.length → listed.toList.count false ≤ fuel →
      Closed os (Ls listed) → (∀ j, Ls listed j → j < as.length → j < N) → Fm as f N (Ls listed) cur → Mm K as f G N fin ρ0 w0 (Ls listed) p ρ w → FR ρ cur a → Marked bd ρ w ds a →
      wpAnyIn (wd ro) 0 K.P .any os.toArray Q fuel listed a w := by
  intro fuel
  have hlen := cOpers_length R.hc
  induction fuel with
  | zero =>
    intro listed cur p ρ a w hsz hcnt hcl hllt F M hf hm
    have hall : ∀ j, j < as.length → Ls listed j := by
      intro j hj
      unfold Ls
      have hjs : j < listed.size := by omega
      cases e : listed.getD j true
      · exfalso
        have := count_set hjs (by rw [e]; simp)
        omega
      · rfl
    rcases hout with ⟨rfl, rfl⟩ | ⟨v, rfl, rfl⟩
    · obtain ⟨hN, hfin⟩ := R.nrm rfl
      have hrdy : Region.ready .any os.toArray listed = [] := by
        rw [List.eq_nil_iff_forall_not_mem]
        intro k hk
        obtain ⟨o, ho, h1, _⟩ := mem_ready.1 hk
        have hk' := (Array.getElem?_eq_some_iff.1 ho).1
        have := hall k (by simp at hk'; omega)
        unfold Ls at this; rw [h1] at this; cases this
      refine wpAnyIn_done hrdy ?_ 0
      obtain ⟨p', _, M', hp'⟩ := M.toAct R _ rfl
      have : p' = N := by
        rcases hp' with h | ⟨h, ha⟩
        · exact h
        · exact absurd (hall p' (by omega)) (M'.pabv p' (Nat.le_refl _) ha)
      subst this
      have hcur := F.done R hall
      rw [← hcur, hfin] at ht
      exact ht a w ρ .normal (M'.stp R hfin) (fun _ => hf) .normal hm
    · obtain ⟨_, o, ho, _⟩ := R.pn v rfl
      have hN := (List.getElem?_eq_some_iff.1 ho).1
      exact absurd (hllt N (hall N hN) hN) (Nat.lt_irrefl _)
  | succ fuel ih =>
    intro listed cur p ρ a w hsz hcnt hcl hllt F M hf hm
    by_cases hrdy : Region.ready .any os.toArray listed = []
    · refine wpAnyIn_done hrdy ?_ _
      have hall : ∀ j, j < as.length → Ls listed j := by
        intro j
        induction j using Nat.strongRecOn with
        | ind j ihj =>
          intro hj
          unfold Ls
          cases e : listed.getD j true
          · exfalso
            have hjo : j < os.length := by omega
            have : j ∈ Region.ready .any os.toArray listed := mem_ready.2 ⟨os[j], by simp [hjo], e, fun ed he hb => by
              have hlt := drawOk_edges R.draw (List.getElem?_eq_getElem hjo) he hb
              have := ihj ed.on hlt (by omega)
              unfold Ls at this
              have hin : ed.on < listed.size := by omega
              simpa [Array.getD, hin] using this⟩
            rw [hrdy] at this; cases this
          · rfl
      rcases hout with ⟨rfl, rfl⟩ | ⟨v, rfl, rfl⟩
      · obtain ⟨hN, hfin⟩ := R.nrm rfl
        obtain ⟨p', _, M', hp'⟩ := M.toAct R _ rfl
        have : p' = N := by
          rcases hp' with h | ⟨h, ha⟩
          · exact h
          · exact absurd (hall p' (by omega)) (M'.pabv p' (Nat.le_refl _) ha)
        subst this
        have hcur := F.done R hall
        rw [← hcur, hfin] at ht
        exact ht a w ρ .normal (M'.stp R hfin) (fun _ => hf) .normal hm
      · obtain ⟨_, o, ho, _⟩ := R.pn v rfl
        have hN := (List.getElem?_eq_some_iff.1 ho).1
        exact absurd (hllt N (hall N hN) hN) (Nat.lt_irrefl _)
    · refine wpAnyIn_all rfl hrdy fun k hk => ?_
      obtain ⟨o, ho, hnl, hedge⟩ := mem_ready.1 hk
      have ho' : os[k]? = some o := by simpa using ho
      have hko : k < os.length := (List.getElem?_eq_some_iff.1 ho').1
      have hks : k < listed.size := by omega
      obtain ⟨ao, ha, hcop⟩ := cOpers_get R.hc ho'
      obtain ⟨hdst, hgd, hop⟩ := cOper_spec hcop
      have hkl : ¬ Ls listed k := by unfold Ls; rw [hnl]; simp
      have hbs : ∀ x ∈ (befs os []).getD k [], Ls listed x := befs_closed hcl k o ho' fun e he hb => (getD_of_false (hedge e he hb)).1
      have hkN : k ≤ N := by
        rcases hout with ⟨rfl, _⟩ | ⟨v, rfl, _⟩
        · have := (R.nrm rfl).1; omega
        · by_cases h : N < k
          · have h1 := R.pw (by simp) k h (by omega)
            exact absurd (hllt N (hbs _ h1) (by omega)) (Nat.lt_irrefl _)
          · omega
      have r : Rdy os as N (Ls listed) k := ⟨hcl, hllt, by omega, hkl, hbs, hkN⟩
      have hL' := Ls_set (l := listed) hks
      have hnames := fun t ht => F.names R r ha (t := t) ht
      have hev := ev_cur hnames
      have hwc := wanted_cur hnames
      obtain ⟨p1, _, M1, hp1⟩ := M.toAct R _ rfl
      have hnext : ∀ (cur' : List Value) (p' : Nat) (ρ' : Ren) (a' : Act) (w' : World), k < N → Fm as f N (Ls (listed.setIfInBounds k true)) cur' → Mm K as f G N fin ρ0 w0 (Ls (listed.setIfInBounds k true)) p' ρ' w' → FR ρ' cur' a' → Marked bd ρ' w' ds a' →
          wpAnyIn (wd ro) 0 K.P .any os.toArray Q fuel (listed.setIfInBounds k true) a' w' := by
        intro cur' p' ρ' a' w' hkN' F' M' hf' hm'
        refine ih _ cur' p' ρ' a' w' (by simp [hsz]) ?_ ?_ ?_ F' M' hf' hm'
        · have := count_set hks (by rw [hnl]; simp); omega
        · intro j oj hj hoj e he hb
          rw [hL'] at hj ⊢
          rcases hj with hj | rfl
          · exact .inl (hcl j oj hj hoj e he hb)
          · rw [ho'] at hoj; cases hoj
            exact .inl (getD_of_false (hedge e he hb)).1
        · intro j hj hjl
          rcases (hL' j).1 hj with hj | rfl
          · exact hllt j hj hjl
          · exact hkN'
      unfold wpOpIn
      rw [ho]
      simp only
      by_cases hkN' : k < N
      · rcases R.step k ao hkN' ha with ⟨hw, hfk, hGk⟩ | ⟨hw, v, hs, hfk⟩
        · have hw' := wanted_eq (fun j => cOpers_dst R.hc j) hgd.symm hf (hwc.trans hw)
          rw [if_neg (by rw [hw']; simp)]
          refine ⟨fun _ _ => trivial, ?_⟩
          have hna : ¬ IsAct as f k := by rintro ⟨o1, e1, _, e3⟩; rw [ha] at e1; cases e1; rw [hw] at e3; cases e3
          have hnn : ¬ IsNew as f k := by rintro ⟨o1, e1, _, e3⟩; rw [ha] at e1; cases e1; rw [hw] at e3; cases e3
          exact hnext (put cur ao.dst undef) p1 ρ _ w hkN' (F.step R r hL' hkN' ha hfk) (M1.list hL' hna hnn) (by rw [hdst]; exact hf.put _ (.tuple .nil)) (hm.put _ _)
        · have hw' := wanted_eq (fun j => cOpers_dst R.hc j) hgd.symm hf (hwc.trans hw)
          rw [if_pos hw']
          have F' := F.step R r hL' hkN' ha hfk
          by_cases hact : acts ao.op = true
          · have hA : IsAct as f k := ⟨ao, ha, hact, hw⟩
            have hkp := act_here R M1 hp1 r hA
            subst hkp
            have hfree := M1.freeAt R (by have := R.nfin; omega) hkl
            have hs' : step1 i ao.op (ev cur) (G k) = some (.ok v, G (k + 1)) := by
              unfold step1 at hs ⊢; rw [aop_congr hev]; exact hs
            refine step1_sound R.hi M1.hr hf hop hs' hfree (fun v1 e v' w' ρ' hst hv => ?_) (fun v1 e => by cases e)
            cases e
            have hsub := hst.sub hfree
            exact hnext _ _ _ _ _ hkN' F' (M1.act R hL' hkN' hA hst hsub) (by rw [hdst]; exact FR.put (VRL.mono hsub hf) _ hv) ((hm.step hst).put _ _)
          · have hact' : acts ao.op = false := by simpa using hact
            have hna : ¬ IsAct as f k := by rintro ⟨o1, e1, e2, _⟩; rw [ha] at e1; cases e1; exact hact e2
            obtain ⟨v1, e1, he⟩ := step1_val hact' hs
            cases e1
            by_cases hall : allocs ao.op = true
            · have hn : IsNew as f k := ⟨ao, ha, hall, hw⟩
              obtain ⟨v1, c, hc, hG, hf1, hev1⟩ := R.newAt hkN' ha hall hw
              have hvv : v1 = v := by
                have := hev1 (G k) rfl
                rw [he] at this; simp at this; exact this.1.symm
              subst hvv
              have hgo := hev1 (List.replicate (G k).length .gone) (by simp)
              rw [← aop_congr hev] at hgo
              have hfr0 := M1.freeAt R (k := k) (by have := R.nfin; omega) hkl
              have hfree : Free ρ (List.replicate (G k).length Blk.gone).length (List.replicate (G k).length Blk.gone ++ [c]).length := by
                intro b h1 h2
                simp at h1 h2
                exact hfr0 b h1 (by rw [hG]; simp; omega)
              have hs' : step1 i ao.op (ev cur) (List.replicate (G k).length .gone) = some (.ok v1, List.replicate (G k).length .gone ++ [c]) := by
                unfold step1; rw [hgo]
              refine step1_sound R.hi (hr_gone M1.hr _) hf hop hs' hfree (fun v2 e v' w' ρ' hst hv => ?_) (fun v1 e => by cases e)
              cases e
              have hsub := hst.sub hfree
              exact hnext _ _ _ _ _ hkN' F' (M1.alloc R hL' hkN' hkl hn hc hG hst) (by rw [hdst]; exact FR.put (VRL.mono hsub hf) _ hv) ((hm.step hst).put _ _)
            · have hall' : allocs ao.op = false := by simpa using hall
              have hnn : ¬ IsNew as f k := by rintro ⟨o1, e1, e2, _⟩; rw [ha] at e1; cases e1; exact hall e2
              have hval : aop ao.op (ev cur) (G p1) = some (.val v, G p1) := by
                rw [aop_congr hev]
                by_cases hlk : looks ao.op = true
                · have hGk := R.same hkN' hna hnn
                  rw [hGk] at he
                  exact look_at R M1 hp1 r hkN' ha hlk hw he
                · obtain ⟨v1, e1, _, hall1⟩ := aop_pure hact' hall' (by simpa using hlk) he
                  cases e1
                  exact hall1 _
              have hs' : step1 i ao.op (ev cur) (G p1) = some (.ok v, G p1) := by
                unfold step1; rw [hval]
              refine step1_sound R.hi M1.hr hf hop hs' (fun b h1 h2 => by omega) (fun v2 e v' w' ρ' hst hv => ?_) (fun v1 e => by cases e)
              cases e
              have hre := hst.same_ren
              subst hre
              exact hnext _ _ _ _ _ hkN' F' ((M1.world R hst).list hL' hna hnn) (by rw [hdst]; exact hf.put _ hv) ((hm.step hst).put _ _)
      · have hkeq : k = N := by omega
        subst hkeq
        rcases hout with ⟨rfl, _⟩ | ⟨v, rfl, rfl⟩
        · have := (R.nrm rfl).1; omega
        · obtain ⟨hfin, ao', ha', hw, hs⟩ := R.pn v rfl
          rw [ha] at ha'; cases ha'
          have hact : acts ao.op = true := by
            cases e : acts ao.op
            · obtain ⟨v', e', _⟩ := step1_val e hs; cases e'
            · rfl
          have hw' := wanted_eq (fun j => cOpers_dst R.hc j) hgd.symm hf (hwc.trans hw)
          rw [if_pos hw']
          have hkp := act_here R M1 hp1 r ⟨ao, ha, hact, hw⟩
          subst hkp
          have hfree := M1.freeAt R (by omega) hkl
          have hs' : step1 i ao.op (ev cur) (G k) = some (.error v, G (k + 1)) := by
            unfold step1 at hs ⊢; rw [aop_congr hev]; exact hs
          refine step1_sound R.hi M1.hr hf hop hs' hfree (fun v1 e => by cases e) (fun v1 e v' w' ρ' hst hv => ?_)
          cases e
          rw [hfin] at ht
          exact ht a w' ρ' _ (M1.stpPanic R hfin hst) (fun h => absurd rfl (h _)) (.panic hv) (hm.step hst)

theorem chkOk_spec {ts : List (List Value × Mem)} {g : Nat → List Value × Mem} (hts : ∀ j x, ts[j]? = some x → x = g j) {k q : Nat} {ok oq : AOper} (hk : as[k]? = some ok) (hq : as[q]? = some oq) (hl : looks ok.op = true)
    (h : chkOk as ts (k, q) = true) (hw : wantedA as (g k).1 ok = some true) (hw' : wantedA as (g q).1 oq = some true) :
    ∃ v, aop ok.op (ev (g k).1) (g q).2 = some (.val v, (g q).2) ∧ aop ok.op (ev (g k).1) (g (q + 1)).2 = some (.val v, (g (q + 1)).2) := by
  unfold chkOk at h
  simp only [hk, hq] at h
  split at h
  · rename_i oi oj fi H1 fj Hj f2 Hj' e1 e2 e3 e4 e5
    cases e1; cases e2
    have g1 := hts _ _ e3
    have g2 := hts _ _ e4
    have g3 := hts _ _ e5
    rw [← g1] at hw ⊢
    rw [← g2] at hw' ⊢
    rw [← g3]
    simp only at hw hw' ⊢
    rw [hw, hw'] at h
    simp only [beq_self_eq_true, Bool.and_self, if_true] at h
    split at h
    · rename_i v X v' X' h1 h2
      obtain ⟨_, _, hX, _⟩ := aop_look hl h1
      obtain ⟨_, _, hX', _⟩ := aop_look hl h2
      subst hX; subst hX'
      have := veq_eq h
      subst this
      exact ⟨_, h1, h2⟩
    · cases h
  · cases h

/-- A region that draws its order. -/
theorem region_drawn (hi : InvOK K i) (hmo : Tables.follows K.P.toTables Departure.mixedOrders = true) {id : Nat} {ops : Array Oper} (hc : cOpers K.P ops.toList = some as) (hd : drawOk ops.toList as (befs ops.toList []) = true) {ro : Option Nat}
    {Q : Exit → Act → World → Prop} {ds : List Deferred} {fr : List Value} {H : Mem} {out fr' H'} {a : Act} {w : World} {ρ : Ren}
    (h : exRegion i true as (chkOf as (befs ops.toList [])) (pkOf as.length (befs ops.toList [])) fr H = some (out, fr', H')) (hr : HR K ρ H w) (hf : FR ρ fr a) (hfree : Free ρ H.length H'.length) (hm : Marked bd ρ w ds a) (ht : Takes K bd ρ H w ds out fr' H' Q) :
    (Code.region id ops true).wpIn (wd ro) 0 K.P Q a w := by
  refine wpIn_region_any hmo ?_
  have hst := stp_drawn hr (w.drawn + 1)
  obtain ⟨f, G, N, fin, pan, R, hf0, hG0, hfN, hGf, hout⟩ : ∃ f G N fin pan, Reg K i ops.toList as f G N fin pan ∧ f 0 = fr ∧ G 0 = H ∧ f N = fr' ∧ G fin = H' ∧ ((pan = none ∧ out = .normal) ∨ ∃ v, pan = some v ∧ out = .panic v) := by
    unfold exRegion at h
    split at h
    · rename_i f1 H1 tr e
      simp only [Bool.not_true, Bool.false_or] at h
      split at h
      · rename_i hchk
        simp only [Option.some.injEq, Prod.mk.injEq] at h
        obtain ⟨rfl, rfl, rfl⟩ := h
        obtain ⟨f, G, T, h0, h0', hT, hT', htr, hrest⟩ := exOps_run i as as fr H [] .normal f1 H1 tr e
        rcases hrest with ⟨_, hl, hst⟩ | ⟨v, m, o', ho, _⟩
        · have hts : ∀ j x, (((f1, H1) :: tr).reverse)[j]? = some x → x = (f j, G j) := by
            intro j x hx
            have : ((f1, H1) :: tr).reverse = (List.range (T + 1)).map fun j => (f j, G j) := by
              rw [htr]; simp [List.range_succ, hT, hT']
            rw [this] at hx
            simp only [List.getElem?_map, Option.map_eq_some_iff] at hx
            obtain ⟨y, hy, rfl⟩ := hx
            rw [List.getElem?_eq_some_iff] at hy
            obtain ⟨_, hy⟩ := hy
            simp at hy; subst hy; rfl
          refine ⟨f, G, T, T, none, ⟨hi, hc, hd, fun j o hj ho => hst j o ho, by omega, fun _ => ⟨hl, rfl⟩, fun v e => (by cases e), fun e => absurd rfl e, ?_⟩, h0, h0', hT, hT', .inl ⟨rfl, rfl⟩⟩
          intro k q ok oq hk hq hne h1 h2 h3 h4 h5 h6 h7 h8
          have hmem : (k, q) ∈ chkOf as (befs ops.toList []) := by
            rcases Nat.lt_or_gt_of_ne hne with hlt | hlt
            · exact (mem_chkOf hlt h1 h2 (h7 hlt)).1 h3 h4
            · exact (mem_chkOf hlt h2 h1 (h8 hlt)).2 h4 h3 (by
                cases e : looks oq.op
                · rfl
                · rw [act_look e] at h4; cases h4)
          have := List.all_eq_true.1 hchk _ hmem
          exact chkOk_spec (g := fun j => (f j, G j)) hts h1 h2 h3 this h5 h6
        · cases ho
      · cases h
    · rename_i o1 f1 H1 tr hnn e
      simp only [Bool.not_true, Bool.false_or] at h
      split at h
      · rename_i hchk
        simp only [Option.some.injEq, Prod.mk.injEq] at h
        obtain ⟨rfl, rfl, rfl⟩ := h
        obtain ⟨f, G, T, h0, h0', hT, hT', htr, hrest⟩ := exOps_run i as as fr H [] _ f1 H1 tr e
        rcases hrest with ⟨ho, _⟩ | ⟨v, m, o', ho, hTm, hom, hw, hs, hfm, hst⟩
        · exact (hnn ho).elim
        · subst ho; subst hTm
          have htl : tr.length - 1 = m := by rw [htr]; simp
          rw [htl] at hchk
          simp only [Bool.and_eq_true, List.all_eq_true, Bool.or_eq_true, decide_eq_true_eq] at hchk
          obtain ⟨hpk, hchk⟩ := hchk
          have hts : ∀ j x, (tr.reverse)[j]? = some x → x = (f j, G j) := by
            intro j x hx
            rw [htr] at hx
            simp only [List.append_nil, List.reverse_reverse, List.getElem?_map, Option.map_eq_some_iff] at hx
            obtain ⟨y, hy, rfl⟩ := hx
            rw [List.getElem?_eq_some_iff] at hy
            obtain ⟨_, hy⟩ := hy
            simp at hy; subst hy; rfl
          have hml := (List.getElem?_eq_some_iff.1 hom).1
          refine ⟨f, G, m, m + 1, some v, ⟨hi, hc, hd, fun j o hj ho => hst j o hj ho, by omega, fun e => (by cases e), ?_, ?_, ?_⟩, h0, h0', by rw [← hfm]; exact hT, hT', .inr ⟨v, rfl, rfl⟩⟩
          · intro v' e'
            cases e'
            exact ⟨rfl, o', hom, hw, hs⟩
          · intro _ j hj hjl
            have hpk' : m ∈ pkOf as.length (befs ops.toList []) := by simpa using hpk
            simp only [pkOf, List.mem_filter, List.mem_range, List.all_eq_true, Bool.or_eq_true, decide_eq_true_eq] at hpk'
            rcases hpk'.2 j hjl with h' | h'
            · omega
            · simpa using h'
          · intro k q ok oq hk hq hne h1 h2 h3 h4 h5 h6 h7 h8
            have hmem : (k, q) ∈ chkOf as (befs ops.toList []) := by
              rcases Nat.lt_or_gt_of_ne hne with hlt | hlt
              · exact (mem_chkOf hlt h1 h2 (h7 hlt)).1 h3 h4
              · exact (mem_chkOf hlt h2 h1 (h8 hlt)).2 h4 h3 (by
                  cases e : looks oq.op
                  · rfl
                  · rw [act_look e] at h4; cases h4)
            have := hchk _ hmem
            simp only at this
            rcases this with (h' | h') | h'
            · omega
            · omega
            · exact chkOk_spec (g := fun j => (f j, G j)) hts h1 h2 h3 h' h5 h6
      · cases h
    · cases h
  subst hf0; subst hG0; subst hfN; subst hGf
  have hsz : (Array.replicate ops.size false).size = ops.toList.length := by simp
  have hno : ∀ k, k < as.length → ¬ Ls (Array.replicate ops.size false) k := by
    intro k hk hl
    have := cOpers_length hc
    unfold Ls at hl
    have hks : k < ops.size := by simp at this; omega
    simp [Array.getD, hks] at hl
  have := drawn_loop (ρ0 := ρ) (w0 := { w with drawn := w.drawn + 1 }) R (ro := ro) (Q := Q) (ds := ds) hout (ht.step hst) ops.size (Array.replicate ops.size false) (f 0) 0 ρ a { w with drawn := w.drawn + 1 } hsz
    (Nat.le_trans List.count_le_length (by simp)) ?_ ?_ ⟨rfl, fun t => ⟨0, Nat.zero_le _, fun k o hk ho => absurd hk (hno k (List.getElem?_eq_some_iff.1 ho).1), .inl rfl, rfl⟩⟩
    (Mm.start hst.hr hfree hno) hf (hm.step hst)
  · simpa using this
  · intro j o hj ho
    have hlt := (List.getElem?_eq_some_iff.1 ho).1
    exact absurd hj (hno j (by rw [cOpers_length hc]; exact hlt))
  · intro j hj hjl
    exact absurd hj (hno j hjl)

end
end Go.Proofs.Am

/- Code of the small machine does what the model's does. -/
namespace Go.Proofs.Am
open Go Go.RowKit

section
variable {K : Ctx} {bd : Nat} {i : Inv}

theorem exRegion_len (hi : InvOK K i) {os : List Oper} {as : List AOper} (hc : cOpers K.P os = some as) {d : Bool} {chk : List (Nat × Nat)} {pk : List Nat} {fr H out fr' H'} (h : exRegion i d as chk pk fr H = some (out, fr', H')) : H.length ≤ H'.length := by
  unfold exRegion at h
  split at h
  · rename_i e
    split at h
    · simp only [Option.some.injEq, Prod.mk.injEq] at h
      obtain ⟨_, _, rfl⟩ := h
      exact exOps_len hi hc e
    · cases h
  · rename_i e
    split at h
    · simp only [Option.some.injEq, Prod.mk.injEq] at h
      obtain ⟨_, _, rfl⟩ := h
      exact exOps_len hi hc e
    · cases h
  · cases h

theorem cRegion {P : Program} {id : Nat} {ops : Array Oper} {draw : Bool} {ac : ACode} (h : cCode P (.region id ops draw) = some ac) :
    ∃ as, cOpers P ops.toList = some as ∧ ((draw = false ∧ ac = .region false as [] []) ∨ (draw = true ∧ drawOk ops.toList as (befs ops.toList []) = true ∧ ac = .region true as (chkOf as (befs ops.toList [])) (pkOf as.length (befs ops.toList [])))) := by
  simp only [cCode, Option.bind_eq_bind, Option.bind_eq_some_iff] at h
  obtain ⟨as, ha, h⟩ := h
  refine ⟨as, ha, ?_⟩
  cases draw
  · simp at h; exact .inl ⟨rfl, h.symm⟩
  · simp only [if_true] at h
    split at h
    · rename_i hd
      simp only [Option.some.injEq] at h
      exact .inr ⟨rfl, hd, h.symm⟩
    · cases h

theorem iter_len {b : List Value → Mem → Option (AOut × List Value × Mem)} (hb : ∀ fr H out fr' H', b fr H = some (out, fr', H') → H.length ≤ H'.length) : ∀ (m : Nat) {fr H out fr' H'}, iter b m fr H = some (out, fr', H') → H.length ≤ H'.length
  | 0, _, _, _, _, _, h => by cases h
  | m + 1, fr, H, out, fr', H', h => by
    simp only [iter] at h
    split at h
    · rename_i f1 H1 e
      exact Nat.le_trans (hb _ _ _ _ _ e) (iter_len hb m h)
    · exact hb _ _ _ _ _ h

theorem exec_len (hi : InvOK K i) {n : Nat} {rd : Bool} : ∀ (c : Code) {ac : ACode}, cCode K.P c = some ac → ∀ {fr H out fr' H'}, exec i n rd ac fr H = some (out, fr', H') → H.length ≤ H'.length
  | .skip, ac, hc, fr, H, out, fr', H', h => by
    simp only [cCode, Option.some.injEq] at hc; subst hc
    simp only [exec, Option.some.injEq, Prod.mk.injEq] at h
    obtain ⟨_, _, rfl⟩ := h; exact Nat.le_refl _
  | .label _, ac, hc, fr, H, out, fr', H', h => by
    simp only [cCode, Option.some.injEq] at hc; subst hc
    simp only [exec, Option.some.injEq, Prod.mk.injEq] at h
    obtain ⟨_, _, rfl⟩ := h; exact Nat.le_refl _
  | .ret, ac, hc, fr, H, out, fr', H', h => by
    simp only [cCode, Option.some.injEq] at hc; subst hc
    simp only [exec, Option.some.injEq, Prod.mk.injEq] at h
    obtain ⟨_, _, rfl⟩ := h; exact Nat.le_refl _
  | .exit _, ac, hc, fr, H, out, fr', H', h => by
    simp only [cCode, Option.some.injEq] at hc; subst hc
    simp only [exec, Option.some.injEq, Prod.mk.injEq] at h
    obtain ⟨_, _, rfl⟩ := h; exact Nat.le_refl _
  | .goto _, ac, hc, fr, H, out, fr', H', h => by simp [cCode] at hc
  | .scope _, ac, hc, fr, H, out, fr', H', h => by simp [cCode] at hc
  | .refuse _, ac, hc, fr, H, out, fr', H', h => by simp [cCode] at hc
  | .region id ops draw, ac, hc, fr, H, out, fr', H', h => by
    obtain ⟨as, ha, ⟨_, rfl⟩ | ⟨_, _, rfl⟩⟩ := cRegion hc
    · simp only [exec] at h; exact exRegion_len hi ha h
    · simp only [exec] at h; exact exRegion_len hi ha h
  | .seq a b, ac, hc, fr, H, out, fr', H', h => by
    simp only [cCode, Option.bind_eq_bind, Option.bind_eq_some_iff, Option.some.injEq] at hc
    obtain ⟨x, hx, y, hy, rfl⟩ := hc
    simp only [exec] at h
    split at h
    · rename_i e
      exact Nat.le_trans (exec_len hi a hx e) (exec_len hi b hy h)
    · exact exec_len hi a hx h
  | .cond c a b, ac, hc, fr, H, out, fr', H', h => by
    simp only [cCode, Option.bind_eq_bind, Option.bind_eq_some_iff, Option.some.injEq] at hc
    obtain ⟨z, hz, x, hx, y, hy, rfl⟩ := hc
    simp only [exec] at h
    split at h
    · split at h
      · exact exec_len hi a hx h
      · exact exec_len hi b hy h
    · cases h
  | .block id a, ac, hc, fr, H, out, fr', H', h => by
    simp only [cCode, Option.bind_eq_bind, Option.bind_eq_some_iff, Option.some.injEq] at hc
    obtain ⟨x, hx, rfl⟩ := hc
    simp only [exec] at h
    split at h
    · rename_i e
      split at h <;> (simp only [Option.some.injEq, Prod.mk.injEq] at h; obtain ⟨_, _, rfl⟩ := h; exact exec_len hi a hx e)
    · exact exec_len hi a hx h
  | .loop a, ac, hc, fr, H, out, fr', H', h => by
    simp only [cCode, Option.bind_eq_bind, Option.bind_eq_some_iff, Option.some.injEq] at hc
    obtain ⟨x, hx, rfl⟩ := hc
    simp only [exec] at h
    exact iter_len (fun fr H out fr' H' e => exec_len hi a hx e) n h
  | .rangeFunc g ps assign body, ac, hc, fr, H, out, fr', H', h => by
    simp only [cCode, Option.bind_eq_bind, Option.bind_eq_some_iff, Option.some.injEq] at hc
    obtain ⟨z, hz, x, hx, y, hy, rfl⟩ := hc
    simp only [exec] at h
    split at h
    · cases h
    · split at h
      · split at h
        · rename_i e
          have hl := (hi _ _ _ _ _ e).1
          simp at hl
          split at h
          · split at h
            · cases h
            · split at h <;> first
                | (cases h; done)
                | (simp only [Option.some.injEq, Prod.mk.injEq] at h; obtain ⟨_, _, rfl⟩ := h; simp; omega)
          · cases h
        · cases h
      · cases h

theorem least {p : Nat → Prop} (h : ∃ m, p m) : ∃ m, p m ∧ ∀ k, k < m → ¬ p k := by
  obtain ⟨m, hm⟩ := h
  induction m using Nat.strongRecOn with
  | ind m ih =>
    by_cases h : ∃ k, k < m ∧ p k
    · obtain ⟨k, hk, hp⟩ := h; exact ih k hk hp
    · exact ⟨m, hm, fun k hk hp => h ⟨k, hk, hp⟩⟩

open Classical in
noncomputable def leastOf (p : Nat → Prop) : Nat := if h : ∃ m, p m then (least h).choose else 0

theorem leastOf_spec {p : Nat → Prop} (h : ∃ m, p m) : p (leastOf p) ∧ ∀ k, p k → leastOf p ≤ k := by
  unfold leastOf
  rw [dif_pos h]
  refine ⟨(least h).choose_spec.1, fun k hk => Nat.le_of_not_lt fun hlt => (least h).choose_spec.2 k hlt hk⟩

/-- A loop. -/
theorem loop_sound {n : Nat} {ro : Option Nat} {body : Code} {b : List Value → Mem → Option (AOut × List Value × Mem)} (hlen : ∀ fr H out fr' H', b fr H = some (out, fr', H') → H.length ≤ H'.length)
    (hb : ∀ {fr H out fr' H' a w ρ Q ds}, b fr H = some (out, fr', H') → HR K ρ H w → FR ρ fr a → Free ρ H.length H'.length → Marked bd ρ w ds a → bd ≤ w.heap.size → Takes K bd ρ H w ds out fr' H' Q → body.wpIn (wd ro) 0 K.P Q a w)
    {fr H out fr' H' a w ρ Q ds} (h : iter b n fr H = some (out, fr', H')) (hr : HR K ρ H w) (hf : FR ρ fr a) (hfree : Free ρ H.length H'.length) (hm : Marked bd ρ w ds a) (hbd : bd ≤ w.heap.size) (ht : Takes K bd ρ H w ds out fr' H' Q) : (Code.loop body).wpIn (wd ro) 0 K.P Q a w := by
  let J : Act → World → Nat → Prop := fun a w m => ∃ fr1 H1 ρ1, iter b m fr1 H1 = some (out, fr', H') ∧ HR K ρ1 H1 w ∧ FR ρ1 fr1 a ∧ Free ρ1 H1.length H'.length ∧ Marked bd ρ1 w ds a ∧ bd ≤ w.heap.size ∧ Takes K bd ρ1 H1 w ds out fr' H' Q
  refine wpIn_loop (fun a w => ∃ m, J a w m) (fun a w => leastOf (J a w)) ⟨n, fr, H, ρ, h, hr, hf, hfree, hm, hbd, ht⟩ fun a w hI => ?_
  obtain ⟨⟨fr1, H1, ρ1, h1, hr1, hf1, hfree1, hm1, hbd1, ht1⟩, hmin⟩ := leastOf_spec hI
  generalize hlo : leastOf (J a w) = lo at *
  cases lo with
  | zero => cases h1
  | succ m =>
    simp only [iter] at h1
    split at h1
    · rename_i f2 H2 e
      have hl2 := iter_len hlen m h1
      refine hb e hr1 hf1 (hfree1.le hl2) hm1 hbd1 fun a' w' ρ' e' hst hfr ho hmk => ?_
      cases ho
      have hJ : J a' w' m := ⟨f2, H2, ρ', h1, hst.hr, hfr (fun v => by simp), hfree1.step hst, hmk, Nat.le_trans hbd1 hst.wlen, ht1.step hst⟩
      exact ⟨⟨m, hJ⟩, by have := (leastOf_spec ⟨m, hJ⟩).2 m hJ; omega⟩
    · rename_i hnn
      refine hb h1 hr1 hf1 hfree1 hm1 hbd1 fun a' w' ρ' e' hst hfr ho hmk => ?_
      have := ht1 a' w' ρ' e' hst hfr ho hmk
      cases ho with
      | normal => exact (hnn _ _ h1).elim
      | exit id => exact this
      | ret => exact this
      | panic h => exact this

end
end Go.Proofs.Am

/- Code of the small machine does what the model's does: a range over a function, and all code. -/
namespace Go.Proofs.Am
open Go Go.RowKit

theorem run_newObj' {P : Program} {w : World} (o : Obj) : (newObj o).run P w = .ok w.heap.size (pushObj w o) := by simp [newObj, Sem.run, pushObj]

theorem run_getLoop {P : Program} {w : World} {A : Nat} {r : Loop} (h : w.heap[A]? = some (.loop r)) : (Instr.getLoop A).run P w = .ok r w := by
  simp only [Instr.getLoop, Sem.run_bind]
  have : (getObj A).run P w = .ok (.loop r) w := by simp [getObj, Sem.run, h]
  rw [this]; simp only [Result.andThen_ok, Sem.run_pure]

theorem run_setObj {P : Program} {w : World} {A : Nat} (o : Obj) {r : Loop} (h : w.heap[A]? = some (.loop r)) : (setObj A o).run P w = .ok () (setBlk w A o) := by
  simp [setObj, Sem.run, h, setBlk]

section
variable {K : Ctx} {bd : Nat} {i : Inv}

theorem endLoop_run {P : Program} {w : World} {A : Nat} {r : Loop} (h : w.heap[A]? = some (.loop r)) (hs : r.state ≠ .busy) : (Instr.endLoop A).run P w = .ok r.pending (setBlk w A (.loop { r with state := .exhausted })) := by
  have hb : (r.state == LoopState.busy) = false := by
    cases e : r.state <;> first | rfl | exact absurd e hs
  simp only [Instr.endLoop, Sem.run_bind, run_getLoop h, Result.andThen_ok, hb, Bool.false_eq_true, if_false, run_setObj _ h, Sem.run_pure]

theorem loop_block {ρ : Ren} {H : Mem} {w : World} (hr : HR K ρ H w) {l A s N : Nat} {st pend tmps ps assign body} (hb : H[l]? = some (.loop st pend tmps ps assign body)) (hρ : ρ l = some (A, s, N)) :
    s = 0 ∧ N = 0 ∧ K.B ≤ A ∧ ∃ r : Loop, w.heap[A]? = some (.loop r) ∧ r.state = st ∧ PendR pend r.pending ∧ VRL ρ tmps r.tmps.toList ∧ r.params.toList = ps ∧ K.comp r.assign = some assign ∧ K.comp r.body = some body := hr.blk _ _ _ _ _ hb hρ

/-- A range over a function. -/
theorem rangeFunc_sound (hK : K.comp = cCode K.P) (hi : InvOK K i) {n : Nat} {g : Operand} {ps : Array Tmp} {assign body : Code} {ac : ACode} (hc : cCode K.P (.rangeFunc g ps assign body) = some ac)
    {fr H out fr' H' a w ρ Q ds} (h : exec i n false ac fr H = some (out, fr', H')) (hr : HR K ρ H w) (hf : FR ρ fr a) (hfree : Free ρ H.length H'.length) (hm : Marked bd ρ w ds a) (hbd : bd ≤ w.heap.size) (ht : Takes K bd ρ H w ds out fr' H' Q) :
    (Code.rangeFunc g ps assign body).wpIn (wd none) 0 K.P Q a w := by
  have hlenAll := exec_len hi _ hc h
  simp only [cCode, Option.bind_eq_bind, Option.bind_eq_some_iff, Option.some.injEq] at hc
  obtain ⟨z, hz, x, hx, y, hy, rfl⟩ := hc
  simp only [exec, Bool.false_eq_true, if_false] at h
  have hg := cX_sound hf hz
  split at h <;> try (cases h; done)
  rename_i gf first cap eg
  rw [eg] at hg
  obtain ⟨first', cap', hge, hfirst, hcap⟩ := func_inv hg
  split at h <;> try (cases h; done)
  rename_i rv H1 hinv
  split at h <;> try (cases h; done)
  rename_i st pend tm pr as1 bo1 hl
  have hl1 := (hi _ _ _ _ _ hinv).1
  simp at hl1
  split at h
  · cases h
  rename_i hst
  have hlen' : H'.length = H1.length := by
    split at h <;> first
      | (cases h; done)
      | (simp only [Option.some.injEq, Prod.mk.injEq] at h; obtain ⟨_, _, rfl⟩ := h; simp)
  have hnone : ρ H.length = none := hfree _ (Nat.le_refl _) (by omega)
  -- the worlds
  let w1 := pushObj w (.deferred (some []))
  have s1 : Stp K ρ H w ρ H w1 := stp_hidden hr _
  let lp : Loop := { state := .ready, pending := none, fn := 0, tmps := a.tmps, params := ps, assign := assign, body := body, defers := w.heap.size }
  refine wpIn_rangeFunc fun fn _ => ?_
  let o2 : Obj := .loop { lp with fn := fn }
  let w2 := pushObj w1 o2
  let ρ1 := ρ.upd H.length (w1.heap.size, 0, 0)
  have hsub1 : Sub ρ ρ1 := Ren.sub_upd _ hnone
  have s2 : Stp K ρ H w1 ρ1 (H ++ [.loop .ready none fr ps.toList x y]) w2 :=
    stp_new s1.hr hnone _ o2 0 ⟨rfl, rfl, s1.hr.base, { lp with fn := fn }, pushObj_new w1 o2, rfl, .none, VRL.mono hsub1 hf, rfl, by rw [hK]; exact hx, by rw [hK]; exact hy⟩
  have s12 := s1.trans s2
  have hw1 : w1.heap.size = w.heap.size + 1 := by simp [w1, pushObj]
  refine ⟨w1.heap.size, [{ target := .collected w.heap.size, args := #[] }], w2, { target := .fn (.func gf) ⟨cap'⟩, args := ⟨first'⟩ ++ #[.func (.yield w1.heap.size) #[] #[]] }, w2, gf, ⟨first' ++ [.func (.yield w1.heap.size) #[] #[]] ++ cap'⟩, w2, ?_, ?_, fun _ _ => trivial, ?_, fun h => by simp [wd, Fence.wide] at h, ?_⟩
  · simp only [Instr.enterLoop, wd, Sem.run_bind, run_newObj', Result.andThen_ok, Sem.run_pure]
    rfl
  · simp only [resolve, rangeCall, Deferred.ofValue, hge, Sem.run_pure]
    simp [Act.eval]
  · have hcall := (hi _ _ _ _ _ hinv).2 ρ1 w2 (first' ++ [.func (.yield w1.heap.size) #[] #[]] ++ cap') s2.hr
      (VRL.append (VRL.append (VRL.mono hsub1 hfirst) (.cons (.yield (by simp only [ρ1]; exact Ren.upd_same _ _ _)) .nil)) (VRL.mono hsub1 hcap)) ((hfree.step s12).le (by omega))
    obtain ⟨⟨fn', h1, h2, h3⟩, _⟩ := hcall
    have := callFunc_run h1 h2 h3 (⟨first' ++ [.func (.yield w1.heap.size) #[] #[]] ++ cap'⟩ : Array Value) w2
    simp only [invoke]
    simpa using this
  · have hcall := (hi _ _ _ _ _ hinv).2 ρ1 w2 (first' ++ [.func (.yield w1.heap.size) #[] #[]] ++ cap') s2.hr
      (VRL.append (VRL.append (VRL.mono hsub1 hfirst) (.cons (.yield (by simp only [ρ1]; exact Ren.upd_same _ _ _)) .nil)) (VRL.mono hsub1 hcap)) ((hfree.step s12).le (by omega))
    obtain ⟨_, hcall⟩ := hcall
    refine CallsIn.mono hcall ?_
    rintro e w3 ⟨ρ3, hst3, v', rfl, _⟩
    have hρl : ρ3 H.length = some (w1.heap.size, 0, 0) := by
      rw [hst3.ext _ (.inl (by simp))]; exact Ren.upd_same _ _ _
    obtain ⟨_, _, hBA, r, hA, hrs, hpend, _⟩ := loop_block hst3.hr hl hρl
    have hbusy : r.state ≠ .busy := by rw [hrs]; exact hst
    have hs4 : Stp K ρ3 H1 w3 ρ3 (H1.set H.length .gone) (setBlk w3 w1.heap.size (.loop { r with state := .exhausted })) :=
      stp_set hst3.hr hl rfl hρl hBA .gone _ trivial
    have hall := (s12.trans hst3).trans hs4
    have hsub13 : Sub ρ ρ3 := fun b q e => (hst3.sub ((hfree.step s12).le (by omega))) b q (hsub1 b q e)
    have hmark : Marked bd ρ3 (setBlk w3 w1.heap.size (.loop { r with state := .exhausted })) ds { tmps := a.tmps, defers := [{ target := .collected w.heap.size, args := #[] }] ++ a.defers } := by
      obtain ⟨ms, e1, rs, e2, hnd, hrs⟩ := hm
      have base : Marked bd ρ1 w2 ds { tmps := a.tmps, defers := [{ target := .collected w.heap.size, args := #[] }] ++ a.defers } := by
        refine ⟨[{ target := .collected w.heap.size, args := #[] }] ++ ms, by simp [e1], w.heap.size :: rs, by simp [e2], ?_, ?_⟩
        · refine List.nodup_cons.2 ⟨fun hmem => ?_, hnd⟩
          have := lt_of_heap (hrs _ hmem).1
          omega
        · intro q hq
          rcases List.mem_cons.1 hq with rfl | hq
          · refine ⟨?_, hbd, fun b s e => ?_⟩
            · rw [pushObj_old o2 (by omega)]; exact pushObj_new w _
            · by_cases hb : b = H.length
              · subst hb
                simp only [ρ1, Ren.upd_same, Option.some.injEq, Prod.mk.injEq] at e
                omega
              · simp only [ρ1] at e
                rw [Ren.upd_ne ρ _ hb] at e
                have := hr.lt b _ s e; omega
          · have hlt := lt_of_heap (hrs q hq).1
            refine ⟨?_, (hrs q hq).2.1, fun b s e => ?_⟩
            · rw [pushObj_old o2 (by omega), pushObj_old _ hlt]; exact (hrs q hq).1
            · by_cases hb : b = H.length
              · subst hb
                simp only [ρ1, Ren.upd_same, Option.some.injEq, Prod.mk.injEq] at e
                omega
              · simp only [ρ1] at e
                rw [Ren.upd_ne ρ _ hb] at e
                exact (hrs q hq).2.2 b s e
      exact (base.step hst3).step hs4
    refine ⟨r.pending, _, endLoop_run hA hbusy, ?_⟩
    generalize hrp : r.pending = rp at *
    cases hpend with
    | none =>
      simp only [Option.some.injEq, Prod.mk.injEq] at h
      obtain ⟨rfl, rfl, rfl⟩ := h
      exact ht _ _ ρ3 .normal hall (fun _ => VRL.mono hsub13 hf) .normal hmark
    | ret =>
      simp only [Option.some.injEq, Prod.mk.injEq] at h
      obtain ⟨rfl, rfl, rfl⟩ := h
      exact wpIn_ret (ht _ _ ρ3 .ret hall (fun _ => VRL.mono hsub13 hf) .ret hmark)
    | exit id =>
      simp only [Option.some.injEq, Prod.mk.injEq] at h
      obtain ⟨rfl, rfl, rfl⟩ := h
      exact wpIn_exit (ht _ _ ρ3 (.exit id) hall (fun _ => VRL.mono hsub13 hf) (.exit id) hmark)

theorem exec_sound (hK : K.comp = cCode K.P) (hi : InvOK K i) (hmo : Tables.follows K.P.toTables Departure.mixedOrders = true) {n : Nat} {rd : Bool} {ro : Option Nat} (hro : rd = false → ro = none) :
    ∀ (c : Code) {ac : ACode}, cCode K.P c = some ac → ∀ {fr H out fr' H' a w ρ Q ds}, exec i n rd ac fr H = some (out, fr', H') → HR K ρ H w → FR ρ fr a → Free ρ H.length H'.length → Marked bd ρ w ds a → bd ≤ w.heap.size →
      Takes K bd ρ H w ds out fr' H' Q → c.wpIn (wd ro) 0 K.P Q a w
  | .skip, ac, hc, fr, H, out, fr', H', a, w, ρ, Q, ds, h, hr, hf, hfree, hm, hbd, ht => by
    simp only [cCode, Option.some.injEq] at hc; subst hc
    simp only [exec, Option.some.injEq, Prod.mk.injEq] at h
    obtain ⟨rfl, rfl, rfl⟩ := h
    exact wpIn_skip (ht a w ρ .normal (.refl hr) (fun _ => hf) .normal hm)
  | .label _, ac, hc, fr, H, out, fr', H', a, w, ρ, Q, ds, h, hr, hf, hfree, hm, hbd, ht => by
    simp only [cCode, Option.some.injEq] at hc; subst hc
    simp only [exec, Option.some.injEq, Prod.mk.injEq] at h
    obtain ⟨rfl, rfl, rfl⟩ := h
    exact wpIn_label (ht a w ρ .normal (.refl hr) (fun _ => hf) .normal hm)
  | .ret, ac, hc, fr, H, out, fr', H', a, w, ρ, Q, ds, h, hr, hf, hfree, hm, hbd, ht => by
    simp only [cCode, Option.some.injEq] at hc; subst hc
    simp only [exec, Option.some.injEq, Prod.mk.injEq] at h
    obtain ⟨rfl, rfl, rfl⟩ := h
    exact wpIn_ret (ht a w ρ .ret (.refl hr) (fun _ => hf) .ret hm)
  | .exit id, ac, hc, fr, H, out, fr', H', a, w, ρ, Q, ds, h, hr, hf, hfree, hm, hbd, ht => by
    simp only [cCode, Option.some.injEq] at hc; subst hc
    simp only [exec, Option.some.injEq, Prod.mk.injEq] at h
    obtain ⟨rfl, rfl, rfl⟩ := h
    exact wpIn_exit (ht a w ρ (.exit id) (.refl hr) (fun _ => hf) (.exit id) hm)
  | .goto _, ac, hc, fr, H, out, fr', H', a, w, ρ, Q, ds, h, hr, hf, hfree, hm, hbd, ht => by simp [cCode] at hc
  | .scope _, ac, hc, fr, H, out, fr', H', a, w, ρ, Q, ds, h, hr, hf, hfree, hm, hbd, ht => by simp [cCode] at hc
  | .refuse _, ac, hc, fr, H, out, fr', H', a, w, ρ, Q, ds, h, hr, hf, hfree, hm, hbd, ht => by simp [cCode] at hc
  | .region id ops draw, ac, hc, fr, H, out, fr', H', a, w, ρ, Q, ds, h, hr, hf, hfree, hm, hbd, ht => by
    obtain ⟨as, ha, ⟨rfl, rfl⟩ | ⟨rfl, hd, rfl⟩⟩ := cRegion hc
    · simp only [exec] at h; exact region_plain hi ha h hr hf hfree hm ht
    · simp only [exec] at h; exact region_drawn hi hmo ha hd h hr hf hfree hm ht
  | .seq c d, ac, hc, fr, H, out, fr', H', a, w, ρ, Q, ds, h, hr, hf, hfree, hm, hbd, ht => by
    simp only [cCode, Option.bind_eq_bind, Option.bind_eq_some_iff, Option.some.injEq] at hc
    obtain ⟨x, hx, y, hy, rfl⟩ := hc
    simp only [exec] at h
    refine wpIn_seq ?_
    split at h
    · rename_i f1 H1 e
      have hl2 := exec_len hi d hy h
      refine exec_sound hK hi hmo hro c hx e hr hf (hfree.le hl2) hm hbd fun a' w' ρ' e' hst hfr ho hmk => ?_
      cases ho
      exact exec_sound hK hi hmo hro d hy h hst.hr (hfr (fun v => by simp)) (hfree.step hst) hmk (Nat.le_trans hbd hst.wlen) (ht.step hst)
    · rename_i hnn
      refine exec_sound hK hi hmo hro c hx h hr hf hfree hm hbd fun a' w' ρ' e' hst hfr ho hmk => ?_
      have := ht a' w' ρ' e' hst hfr ho hmk
      cases ho with
      | normal => exact (hnn _ _ h).elim
      | exit id => exact this
      | ret => exact this
      | panic h => exact this
  | .cond z c d, ac, hc, fr, H, out, fr', H', a, w, ρ, Q, ds, h, hr, hf, hfree, hm, hbd, ht => by
    simp only [cCode, Option.bind_eq_bind, Option.bind_eq_some_iff, Option.some.injEq] at hc
    obtain ⟨z', hz, x, hx, y, hy, rfl⟩ := hc
    simp only [exec] at h
    have hv := cX_sound hf hz
    split at h
    · rename_i t e
      rw [e] at hv
      have hv' := bool_eq hv
      refine wpIn_cond hv' ?_
      split at h
      · rename_i ht'; subst ht'
        exact exec_sound hK hi hmo hro c hx h hr hf hfree hm hbd ht
      · rename_i ht'
        obtain rfl : t = false := by simpa using ht'
        exact exec_sound hK hi hmo hro d hy h hr hf hfree hm hbd ht
    · cases h
  | .block id c, ac, hc, fr, H, out, fr', H', a, w, ρ, Q, ds, h, hr, hf, hfree, hm, hbd, ht => by
    simp only [cCode, Option.bind_eq_bind, Option.bind_eq_some_iff, Option.some.injEq] at hc
    obtain ⟨x, hx, rfl⟩ := hc
    simp only [exec] at h
    refine wpIn_block ?_
    split at h
    · rename_i id' f1 H1 e
      split at h
      · rename_i hid
        simp only [Option.some.injEq, Prod.mk.injEq] at h
        obtain ⟨rfl, rfl, rfl⟩ := h
        refine exec_sound hK hi hmo hro c hx e hr hf hfree hm hbd fun a' w' ρ' e' hst hfr ho hmk => ?_
        cases ho
        simp only [Exit.inBlock, hid, if_true]
        exact ht a' w' ρ' .normal hst (fun _ => hfr (fun v => by simp)) .normal hmk
      · rename_i hid
        simp only [Option.some.injEq, Prod.mk.injEq] at h
        obtain ⟨rfl, rfl, rfl⟩ := h
        refine exec_sound hK hi hmo hro c hx e hr hf hfree hm hbd fun a' w' ρ' e' hst hfr ho hmk => ?_
        have := ht a' w' ρ' e' hst hfr ho hmk
        cases ho
        simp only [Exit.inBlock, hid, if_false]
        exact this
    · rename_i hnn
      refine exec_sound hK hi hmo hro c hx h hr hf hfree hm hbd fun a' w' ρ' e' hst hfr ho hmk => ?_
      have := ht a' w' ρ' e' hst hfr ho hmk
      cases ho with
      | normal => exact this
      | exit id => exact (hnn _ _ _ h).elim
      | ret => exact this
      | panic h => exact this
  | .loop c, ac, hc, fr, H, out, fr', H', a, w, ρ, Q, ds, h, hr, hf, hfree, hm, hbd, ht => by
    simp only [cCode, Option.bind_eq_bind, Option.bind_eq_some_iff, Option.some.injEq] at hc
    obtain ⟨x, hx, rfl⟩ := hc
    simp only [exec] at h
    exact loop_sound (fun fr H out fr' H' e => exec_len hi c hx e) (fun e hr hf hfree hm hbd ht => exec_sound hK hi hmo hro c hx e hr hf hfree hm hbd ht) h hr hf hfree hm hbd ht
  | .rangeFunc g ps assign body, ac, hc, fr, H, out, fr', H', a, w, ρ, Q, ds, h, hr, hf, hfree, hm, hbd, ht => by
    cases rd with
    | false =>
      obtain rfl := hro rfl
      exact rangeFunc_sound hK hi hc h hr hf hfree hm hbd ht
    | true =>
      simp only [cCode, Option.bind_eq_bind, Option.bind_eq_some_iff, Option.some.injEq] at hc
      obtain ⟨z, hz, x, hx, y, hy, rfl⟩ := hc
      simp only [exec, if_true] at h
      cases h

end
end Go.Proofs.Am

/- Functions of the small machine do what the model's do. -/
namespace Go.Proofs.Am
open Go Go.RowKit

section
variable {K : Ctx} {bd : Nat} {i : Inv}

/-- A block of the model's own is changed. -/
theorem Stp.hide {ρ0 ρ : Ren} {H0 H : Mem} {w0 w : World} (h : Stp K ρ0 H0 w0 ρ H w) {r : Nat} (h1 : w0.heap.size ≤ r) (h2 : ∀ b s, ρ b ≠ some (r, s)) (h3 : K.B ≤ r) (o : Obj) : Stp K ρ0 H0 w0 ρ H (setBlk w r o) where
  ext := h.ext
  hr := ⟨fun b blk A s N e r' => (h.hr.blk b blk A s N e r').world (setBlk_ne o fun e' => h2 b (s, N) (by rw [r', e'])), h.hr.inj, fun b A s e => by rw [setBlk_size]; exact h.hr.lt b A s e, below_set h.hr.below h3 o, by rw [setBlk_size]; exact h.hr.base⟩
  fr A hA hn := by rw [setBlk_ne o (by omega)]; exact h.fr A hA hn
  afr := h.afr
  wr := h.wr
  len := h.len
  wlen := by rw [setBlk_size]; exact h.wlen
  img := h.img
  new := h.new

theorem takeDeferred_run {P : Program} {w : World} {r : Nat} (h : w.heap[r]? = some (.deferred (some []))) : (Instr.takeDeferred r).run P w = .ok [] (setBlk w r (.deferred none)) := by
  have h1 : (getObj r).run P w = .ok (.deferred (some [])) w := by simp [getObj, Sem.run, h]
  have h2 : ∀ o, (setObj r o).run P w = .ok () (setBlk w r o) := fun o => by simp [setObj, Sem.run, h, setBlk]
  simp only [Instr.takeDeferred, Sem.run_bind, h1, Result.andThen_ok, h2, Sem.run_pure]

/-- The marks are taken up. -/
theorem leaves_marks {F : Fence} {n : Nat} {fn : Func} {tmps : Array Value} {R : Ending → World → Prop} {mode : FrameMode} (hmode : mode ≠ .run) {ρ0 ρ : Ren} {H0 H : Mem} {w0 : World} (hB : K.B ≤ w0.heap.size)
    (hend : ∀ w, Stp K ρ0 H0 w0 ρ H w → LeavesIn F n K.P fn tmps R [] mode w) :
    ∀ (rs : List Nat) (w : World), Stp K ρ0 H0 w0 ρ H w → rs.Nodup → (∀ r ∈ rs, w.heap[r]? = some (.deferred (some [])) ∧ w0.heap.size ≤ r ∧ ∀ b s, ρ b ≠ some (r, s)) →
      LeavesInM F n K.P fn tmps R (rs.map fun r => { target := .collected r, args := #[] }) mode w
  | [], w, hs, _, _ => by
    rw [List.map_nil]
    unfold LeavesInM
    exact hend w hs
  | r :: rs, w, hs, hnd, hall => by
    rw [List.map_cons]
    unfold LeavesInM
    obtain ⟨h1, h2, h3⟩ := hall r (by simp)
    obtain ⟨hnr, hnd'⟩ := List.nodup_cons.1 hnd
    refine ⟨hmode, .inl ⟨r, _, rfl, takeDeferred_run h1, ?_⟩⟩
    refine leaves_marks hmode hB hend rs _ (hs.hide h2 h3 (Nat.le_trans hB h2) _) hnd' fun q hq => ?_
    obtain ⟨q1, q2, q3⟩ := hall q (by simp [hq])
    refine ⟨?_, q2, q3⟩
    rw [setBlk_ne _ (fun e => by subst e; exact hnr hq)]; exact q1

theorem res_list {ρ : Ren} {H : Mem} {w : World} {fr : List Value} {tmps : Array Value} (hr : HR K ρ H w) (hf : VRL ρ fr tmps.toList) {g : ResultVar → Sem Value} (hg1 : ∀ t, g (.tmp t) = pure (tmps.getD t undef))
    (hg2 : ∀ a t, g (.cell a t) = (do let x ← asAddr (tmps.getD a undef); loadVar t x)) : ∀ (rs : List ResultVar) {as : List ARes} {vs : List Value}, cRes K.P rs = some as → as.mapM (resA fr H) = some vs → ∃ vs', (rs.mapM g).run K.P w = .ok vs' w ∧ VRL ρ vs vs'
  | [], as, vs, hc, h => by
    simp [cRes] at hc; subst hc
    simp at h; subst h
    exact ⟨[], by simp, .nil⟩
  | r :: rs, as, vs, hc, h => by
    have hget : ∀ t, VR ρ (fr.getD t undef) (tmps.getD t undef) := fun t => by
      have := VRL.getD hf t
      simpa [Array.getD_eq_getD_getElem?, List.getD_eq_getElem?_getD] using this
    cases r with
    | tmp t =>
      simp only [cRes, Option.bind_eq_bind, Option.bind_eq_some_iff, Option.some.injEq] at hc
      obtain ⟨as', hc', rfl⟩ := hc
      simp only [List.mapM_cons, resA, Option.bind_eq_bind, Option.bind_eq_some_iff, Option.some.injEq, Option.pure_def] at h
      obtain ⟨v, hv, vs1, hvs, rfl⟩ := h
      obtain ⟨vs', h1, h2⟩ := res_list hr hf hg1 hg2 rs hc' hvs
      subst hv
      exact ⟨tmps.getD t undef :: vs', by simp only [List.mapM_cons, hg1, Sem.run_bind, Sem.run_pure, Result.andThen_ok, h1], .cons (hget t) h2⟩
    | cell a t =>
      simp only [cRes, Option.bind_eq_bind, Option.bind_eq_some_iff, Option.some.injEq] at hc
      obtain ⟨n, hn, as', hc', rfl⟩ := hc
      simp only [List.mapM_cons, resA, Option.bind_eq_bind, Option.bind_eq_some_iff, Option.some.injEq, Option.pure_def] at h
      obtain ⟨v, hv, vs1, hvs, rfl⟩ := h
      obtain ⟨vs', h1, h2⟩ := res_list hr hf hg1 hg2 rs hc' hvs
      have hp := hget a
      obtain ⟨v', hv1, hv2⟩ := loadA_sound hr hn hp hv
      have hrun : (do let x ← asAddr (tmps.getD a undef); loadVar t x : Sem Value).run K.P w = .ok v' w := by
        unfold loadA at hv
        split at hv
        · rename_i e
          rw [e] at hp
          generalize tmps.getD a undef = pv at *
          cases hp
          simpa [Instr.loadAt, Instr.sureAddr, asAddr] using hv1
        · cases hv
      exact ⟨v' :: vs', by simp only [List.mapM_cons, hg2]; rw [Sem.run_bind, hrun]; simp only [Result.andThen_ok, Sem.run_bind, h1, Sem.run_pure], .cons hv2 h2⟩

theorem results_sound {ρ : Ren} {H : Mem} {w : World} {fr : List Value} {tmps : Array Value} (hr : HR K ρ H w) (hf : VRL ρ fr tmps.toList) {fn : Func} {as : List ARes} {v : Value} (hc : cRes K.P fn.results.toList = some as) (h : resultsA fr H as = some v) :
    ∃ v', (results fn tmps).run K.P w = .ok v' w ∧ VR ρ v v' := by
  have key : ∀ vs, as.mapM (resA fr H) = some vs → ∃ vs', (results fn tmps).run K.P w = .ok (if h : vs'.length = 1 then vs'[0] else .tuple ⟨vs'⟩) w ∧ VRL ρ vs vs' := by
    intro vs hvs
    unfold results
    rw [Array.mapM_eq_mapM_toList]
    obtain ⟨vs', h1, h2⟩ := res_list (g := fun x => match x with
      | .tmp t => pure (tmps.getD t undef)
      | .cell a t => do let x ← asAddr (tmps.getD a undef); loadVar t x) hr hf (fun _ => rfl) (fun _ _ => rfl) fn.results.toList hc hvs
    refine ⟨vs', ?_, h2⟩
    rw [Sem.run_bind, map_eq_pure_bind, Sem.run_bind]
    erw [h1]
    simp
  unfold resultsA at h
  split at h
  · rename_i r
    obtain ⟨vs', h1, h2⟩ := key [v] (by simp [h])
    cases h2 with
    | cons hv t =>
      cases t
      exact ⟨_, h1, hv⟩
  · rename_i hne
    simp only [Option.map_eq_some_iff] at h
    obtain ⟨vs, h1, rfl⟩ := h
    obtain ⟨vs', h2, h3⟩ := key vs h1
    refine ⟨_, h2, ?_⟩
    have hl := h3.length
    have hne1 : vs'.length ≠ 1 := by
      intro e
      have : as.length = vs.length := by
        have : ∀ (as : List ARes) (vs : List Value), as.mapM (resA fr H) = some vs → as.length = vs.length := by
          intro as
          induction as with
          | nil => intro vs h; simp at h; subst h; rfl
          | cons a as ih =>
            intro vs h
            simp only [List.mapM_cons, Option.bind_eq_bind, Option.bind_eq_some_iff, Option.some.injEq, Option.pure_def] at h
            obtain ⟨_, _, vs1, h1, rfl⟩ := h
            simp [ih vs1 h1]
        exact this as vs h1
      obtain ⟨x, rfl⟩ := List.length_eq_one_iff.1 (show as.length = 1 by omega)
      exact hne x rfl
    rw [dif_neg hne1]
    exact .tuple h3

end
end Go.Proofs.Am

/- Calls of the small machine do what the model's do. -/
namespace Go.Proofs.Am
open Go Go.RowKit

/-- A function's own law is true of it. -/
def PrimOK (K : Ctx) (f : FuncId) (F : List Value → Mem → Option (Value × Mem)) : Prop := ∀ args H v H', F args H = some (v, H') → H.length ≤ H'.length ∧ ∀ ρ w args', HR K ρ H w → VRL ρ args args' → Free ρ H.length H'.length →
  (∃ fn, K.P.funcs[f]? = some fn ∧ (fn.name == "runtime.NumGoroutine") = false ∧ fn.body.isNone = false) ∧ CallsIn (wd none) 0 K.P f ⟨args'⟩ w (RetR K ρ H w (.ok v) H')

structure TblOK (K : Ctx) (T : Tbl) : Prop where
  code : ∀ f c, T f = some (.code c) → ∃ fn, K.P.funcs[f]? = some fn ∧ cFunc K.P fn = some c
  prim : ∀ f F, T f = some (.prim F) → PrimOK K f F

theorem cFunc_spec {P : Program} {fn : Func} {c : AFunc} (h : cFunc P fn = some c) : ∃ b, fn.body = some b ∧ (fn.name == "runtime.NumGoroutine") = false ∧ c.ntmps = fn.ntmps ∧ cRes P fn.results.toList = some c.results ∧ cCode P b = some c.body := by
  simp only [cFunc, Option.bind_eq_bind, Option.bind_eq_some_iff] at h
  obtain ⟨b, hb, h⟩ := h
  split at h
  · cases h
  · rename_i hn
    simp only [Option.bind_eq_some_iff, Option.some.injEq] at h
    obtain ⟨rs, hr, cc, hc, rfl⟩ := h
    exact ⟨b, hb, by simpa using hn, rfl, hr, hc⟩

section
variable {K : Ctx}

theorem marked_nil {ρ : Ren} {w : World} (bd : Nat) (tmps : Array Value) : Marked bd ρ w [] { tmps := tmps, defers := [] } := ⟨[], rfl, [], rfl, List.nodup_nil, fun r h => by cases h⟩

theorem fn_sound (hK : K.comp = cCode K.P) (hmo : Tables.follows K.P.toTables Departure.mixedOrders = true) {i : Inv} (hi : InvOK K i) {n : Nat} {f : FuncId} {fn : Func} {c : AFunc} (hfn : K.P.funcs[f]? = some fn) (hc : cFunc K.P fn = some c)
    {args args' : List Value} {H H1 : Mem} {out fr} (h : exec i n false c.body (args ++ List.replicate (c.ntmps - args.length) undef) H = some (out, fr, H1)) {r : Except Value Value}
    (hr : (match (generalizing := false) out with
      | .normal | .ret => (resultsA fr H1 c.results).map fun v => Except.ok v
      | .panic v => some (.error v)
      | _ => none) = some r) {ρ : Ren} {w : World} (hHR : HR K ρ H w) (hargs : VRL ρ args args') (hfree : Free ρ H.length H1.length) :
    CallsIn (wd none) 0 K.P f ⟨args'⟩ w (RetR K ρ H w r H1) := by
  obtain ⟨b, hb, hname, hnt, hres, hcode⟩ := cFunc_spec hc
  refine callsIn_of_wp_marks hfn hb trivial ?_ rfl
  have hfr0 : FR ρ (args ++ List.replicate (c.ntmps - args.length) undef) { tmps := (⟨args'⟩ : Array Value) ++ Array.replicate (fn.ntmps - (⟨args'⟩ : Array Value).size) undef, defers := [] } := by
    unfold FR
    simp only [Array.toList_append, Array.toList_replicate, hnt]
    have := hargs.length
    simp only [List.size_toArray, this]
    exact hargs.append (VRL.replicate (.tuple .nil) _)
  have hlv : ∀ {mode : FrameMode} {a' : Act} {w' : World} {ρ' : Ren}, mode ≠ .run → Stp K ρ H w ρ' H1 w' → (∃ ms, a'.defers = ms ++ [] ∧ MK w.heap.size ρ' w' a'.defers) →
      (∀ w2, Stp K ρ H w ρ' H1 w2 → LeavesIn (wd none) 0 K.P fn a'.tmps (RetR K ρ H w r H1) [] mode w2) → LeavesInM (wd none) 0 K.P fn a'.tmps (RetR K ρ H w r H1) a'.defers mode w' := by
    intro mode a' w' ρ' hmode hst hmk hend
    obtain ⟨ms, _, rs, e2, hnd, hall⟩ := hmk
    rw [e2]
    exact leaves_marks hmode hHR.base hend rs w' hst hnd hall
  refine exec_sound (bd := w.heap.size) (ds := []) hK hi hmo (fun _ => rfl) b hcode h hHR hfr0 hfree (marked_nil _ _) (Nat.le_refl _) fun a' w' ρ' e hst hfr ho hmk => ?_
  have hret : ∀ v, resultsA fr H1 c.results = some v → r = .ok v → (∀ v, out ≠ .panic v) → LeavesInM (wd none) 0 K.P fn a'.tmps (RetR K ρ H w r H1) a'.defers .returning w' := by
    intro v hv hrv hnp
    refine hlv (by simp) hst hmk fun w2 hst2 => ?_
    obtain ⟨v', h1, h2⟩ := results_sound hst2.hr (hfr hnp) hres hv
    unfold LeavesIn
    exact ⟨v', h1, ρ', hst2, by subst hrv; exact ⟨v', rfl, h2⟩⟩
  cases ho with
  | normal =>
    simp only [Option.map_eq_some_iff] at hr
    obtain ⟨v, hv, rfl⟩ := hr
    exact hret v hv rfl (fun v => by simp)
  | ret =>
    simp only [Option.map_eq_some_iff] at hr
    obtain ⟨v, hv, rfl⟩ := hr
    exact hret v hv rfl (fun v => by simp)
  | exit id => simp at hr
  | panic hv =>
    simp only [Option.some.injEq] at hr
    subst hr
    refine hlv (by simp) hst hmk fun w2 hst2 => ?_
    unfold LeavesIn
    exact ⟨ρ', hst2, _, rfl, hv⟩

theorem setAll_VRL {ρ : Ren} : ∀ (ps : List Nat) {vs vs' : List Value} {fr : List Value} {arr : Array Value}, VRL ρ vs vs' → VRL ρ fr arr.toList →
    VRL ρ (setAll fr ps vs) ((ps.zip vs').foldl (fun (tmps : Array Value) x => match x with | (t, a) => tmps.setIfInBounds t a) arr).toList
  | [], vs, vs', fr, arr, _, hf => by simpa [setAll] using hf
  | p :: ps, _, _, fr, arr, .nil, hf => by simpa [setAll] using hf
  | p :: ps, _, _, fr, arr, .cons hv ht, hf => by
    simp only [setAll, List.zip_cons_cons, List.foldl_cons]
    refine setAll_VRL ps ht ?_
    rw [Array.toList_setIfInBounds]
    exact hf.set hv p

theorem beginRound_run {P : Program} {w : World} {A : Nat} {r : Loop} (h : w.heap[A]? = some (.loop r)) (hs : r.state = .ready) : (Instr.beginRound A).run P w = .ok () (setBlk w A (.loop { r with state := .busy })) := by
  simp only [Instr.beginRound, Sem.run_bind, run_getLoop h, Result.andThen_ok, run_setObj _ h, hs, Sem.run_pure]

theorem endRound_run {P : Program} {w : World} {A : Nat} {r : Loop} (h : w.heap[A]? = some (.loop r)) (j : Option Code) : (Instr.endRound A j).run P w = .ok (.bool j.isNone) (setBlk w A (.loop { r with state := if j.isNone then .ready else .done, pending := j })) := by
  simp only [Instr.endRound, Sem.run_bind, run_getLoop h, Result.andThen_ok, run_setObj _ h, Sem.run_pure]

theorem set_get {H : Mem} {l : Nat} {x y : Blk} (h : H[l]? = some y) : (H.set l x)[l]? = some x := by
  rw [List.getElem?_set_self (List.getElem?_eq_some_iff.1 h).1]

theorem exOps_len' {i : Inv} (hi : InvOK K i) {all : List AOper} : ∀ {suf : List AOper} {fr : List Value} {H : Mem} {tr : List (List Value × Mem)} {out fr' H' tr'}, exOps i all suf fr H tr = some (out, fr', H', tr') → H.length ≤ H'.length
  | [], fr, H, tr, out, fr', H', tr', h => by
    simp only [exOps, Option.some.injEq, Prod.mk.injEq] at h
    obtain ⟨_, _, rfl, _⟩ := h; exact Nat.le_refl _
  | o :: suf, fr, H, tr, out, fr', H', tr', h => by
    simp only [exOps] at h
    split at h
    · split at h
      · rename_i v H1 hs
        exact Nat.le_trans (step1_len' hi hs) (exOps_len' hi h)
      · rename_i v H1 hs
        simp only [Option.some.injEq, Prod.mk.injEq] at h
        obtain ⟨_, _, rfl, _⟩ := h
        exact step1_len' hi hs
      · cases h
    · exact exOps_len' hi h
    · cases h

theorem exRegion_len' {i : Inv} (hi : InvOK K i) {as : List AOper} {d : Bool} {chk : List (Nat × Nat)} {pk : List Nat} {fr H out fr' H'} (h : exRegion i d as chk pk fr H = some (out, fr', H')) : H.length ≤ H'.length := by
  unfold exRegion at h
  split at h
  · rename_i e
    split at h
    · simp only [Option.some.injEq, Prod.mk.injEq] at h
      obtain ⟨_, _, rfl⟩ := h
      exact exOps_len' hi e
    · cases h
  · rename_i e
    split at h
    · simp only [Option.some.injEq, Prod.mk.injEq] at h
      obtain ⟨_, _, rfl⟩ := h
      exact exOps_len' hi e
    · cases h
  · cases h

theorem exec_len' {i : Inv} (hi : InvOK K i) {n : Nat} {rd : Bool} : ∀ (c : ACode) {fr H out fr' H'}, exec i n rd c fr H = some (out, fr', H') → H.length ≤ H'.length
  | .skip, fr, H, out, fr', H', h => by
    simp only [exec, Option.some.injEq, Prod.mk.injEq] at h
    obtain ⟨_, _, rfl⟩ := h; exact Nat.le_refl _
  | .ret, fr, H, out, fr', H', h => by
    simp only [exec, Option.some.injEq, Prod.mk.injEq] at h
    obtain ⟨_, _, rfl⟩ := h; exact Nat.le_refl _
  | .exit _, fr, H, out, fr', H', h => by
    simp only [exec, Option.some.injEq, Prod.mk.injEq] at h
    obtain ⟨_, _, rfl⟩ := h; exact Nat.le_refl _
  | .region d ops chk pk, fr, H, out, fr', H', h => by
    simp only [exec] at h; exact exRegion_len' hi h
  | .seq a b, fr, H, out, fr', H', h => by
    simp only [exec] at h
    split at h
    · rename_i e
      exact Nat.le_trans (exec_len' hi a e) (exec_len' hi b h)
    · exact exec_len' hi a h
  | .cond c a b, fr, H, out, fr', H', h => by
    simp only [exec] at h
    split at h
    · split at h
      · exact exec_len' hi a h
      · exact exec_len' hi b h
    · cases h
  | .block id a, fr, H, out, fr', H', h => by
    simp only [exec] at h
    split at h
    · rename_i e
      split at h <;> (simp only [Option.some.injEq, Prod.mk.injEq] at h; obtain ⟨_, _, rfl⟩ := h; exact exec_len' hi a e)
    · exact exec_len' hi a h
  | .loop a, fr, H, out, fr', H', h => by
    simp only [exec] at h
    exact iter_len (fun fr H out fr' H' e => exec_len' hi a e) n h
  | .rangeFunc g ps assign body, fr, H, out, fr', H', h => by
    simp only [exec] at h
    split at h
    · cases h
    · split at h
      · split at h
        · rename_i e
          have hl := (hi _ _ _ _ _ e).1
          simp at hl
          split at h
          · split at h
            · cases h
            · split at h <;> first
                | (cases h; done)
                | (simp only [Option.some.injEq, Prod.mk.injEq] at h; obtain ⟨_, _, rfl⟩ := h; simp; omega)
          · cases h
        · cases h
      · cases h

/-- One round. -/
theorem yield_sound (hK : K.comp = cCode K.P) (hmo : Tables.follows K.P.toTables Departure.mixedOrders = true) {i : Inv} (hi : InvOK K i) {n : Nat} {l : Nat} {args : List Value} {H H' : Mem} {r : Except Value Value}
    {pend tmps params assign body} (hl : H[l]? = some (.loop .ready pend tmps params assign body)) (hal : args.length = params.length)
    {fr H1 p1 t1 ps1 a1 b1 out f2 H2 p2 t2 ps2 a2 b2} (h1 : exec i n true assign (setAll tmps params args) H = some (.normal, fr, H1)) (hl1 : H1[l]? = some (.loop .ready p1 t1 ps1 a1 b1))
    (h2 : exec i n true body fr (H1.set l (.loop .busy p1 t1 ps1 a1 b1)) = some (out, f2, H2)) (hl2 : H2[l]? = some (.loop .busy p2 t2 ps2 a2 b2))
    (hout : (match (generalizing := false) out with
      | .normal => some (Except.ok (Value.bool true), H2.set l (.loop .ready none t2 ps2 a2 b2))
      | .ret => some (.ok (.bool false), H2.set l (.loop .done (some .ret) t2 ps2 a2 b2))
      | .exit id => some (.ok (.bool false), H2.set l (.loop .done (some (.exit id)) t2 ps2 a2 b2))
      | .panic _ => none) = some (r, H')) :
    H.length ≤ H'.length ∧ ∀ (ρ : Ren) (w : World) (args' : List Value), HR K ρ H w → VRL ρ args args' → Free ρ H.length H'.length →
      ∀ A, ρ l = some (A, 0, 0) → ∃ f tmps assign body, (Instr.yield A ⟨args'⟩).run K.P w = .ok (.round A f tmps assign body) w ∧ RoundIn (wd none) 0 K.P A f tmps assign body w (RetR K ρ H w r H') := by
  have len1 := exec_len' hi _ h1
  have len2 := exec_len' hi _ h2
  simp at len2
  have hlen' : H'.length = H2.length := by
    cases out <;> simp only [Option.some.injEq, Prod.mk.injEq, reduceCtorEq] at hout <;> (obtain ⟨_, rfl⟩ := hout; simp)
  refine ⟨by omega, fun ρ w args' hr hargs hfree A hρ => ?_⟩
  obtain ⟨_, _, hBA, rec, hA, hst, hpend, htm, hps, hca, hcb⟩ := loop_block hr hl hρ
  rw [hK] at hca hcb
  refine ⟨rec.fn, Array.foldl (fun tmps x => match x with | (t, a) => tmps.setIfInBounds t a) rec.tmps (rec.params.zip ⟨args'⟩), rec.assign, rec.body, ?_, ?_⟩
  · simp only [Instr.yield, Sem.run_bind, run_getLoop hA, Result.andThen_ok]
    have hsz : (⟨args'⟩ : Array Value).size = rec.params.size := by
      have := hargs.length
      have h3 : rec.params.size = params.length := by rw [← hps]; simp
      simp only [List.size_toArray]; omega
    rw [if_neg (by simpa using hsz)]
    simp only [Sem.run_pure]
  · refine roundIn_of_wpIn trivial ?_
    show Code.wpIn (wd (some A)) 0 K.P rec.assign _ _ w
    have hfr0 : FR ρ (setAll tmps params args) { tmps := Array.foldl (fun tmps x => match x with | (t, a) => tmps.setIfInBounds t a) rec.tmps (rec.params.zip ⟨args'⟩), defers := [] } := by
      unfold FR
      have := setAll_VRL params hargs htm
      rw [← Array.foldl_toList]
      simpa [hps] using this
    refine exec_sound (bd := w.heap.size) (ds := []) hK hi hmo (fun h => by cases h) _ hca h1 hr hfr0 (hfree.le (by omega)) (marked_nil _ _) (Nat.le_refl _) fun a1' w1 ρ1 e hs1 hf1 ho1 hmk1 => ?_
    cases ho1
    have hρ1 : ρ1 l = some (A, 0, 0) := by rw [hs1.ext l (.inl (List.getElem?_eq_some_iff.1 hl).1)]; exact hρ
    obtain ⟨_, _, _, rec1, hA1, hst1, hpend1, htm1, hps1, hca1, hcb1⟩ := loop_block hs1.hr hl1 hρ1
    simp only [Exit.then]
    refine ⟨_, beginRound_run hA1 hst1, ?_⟩
    have hs2 : Stp K ρ1 H1 w1 ρ1 (H1.set l (.loop .busy p1 t1 ps1 a1 b1)) (setBlk w1 A (.loop { rec1 with state := .busy })) :=
      stp_set hs1.hr hl1 rfl hρ1 hBA _ _ ⟨rfl, rfl, hBA, _, setBlk_same _ (lt_of_heap hA1), rfl, hpend1, htm1, hps1, hca1, hcb1⟩
    have hs12 := hs1.trans hs2
    refine exec_sound (bd := w.heap.size) (ds := a1'.defers) hK hi hmo (fun h => by cases h) _ hcb h2 hs2.hr (hf1 (fun v => by simp)) ((hfree.step hs12).le (by omega)) ?_ hs12.wlen fun a2' w2 ρ2 e hs3 hf2 ho2 _ => ?_
    · obtain ⟨ms, _, hmk⟩ := hmk1
      exact ⟨[], rfl, hmk.step hs2⟩
    have hs123 := hs12.trans hs3
    have hρ2 : ρ2 l = some (A, 0, 0) := by rw [hs3.ext l (.inl (by simp; have := (List.getElem?_eq_some_iff.1 hl1).1; omega))]; exact hρ1
    obtain ⟨_, _, _, rec2, hA2, hst2, hpend2, htm2, hps2, hca2, hcb2⟩ := loop_block hs3.hr hl2 hρ2
    have fin : ∀ (j : Option Code) (aj : Option ACode) (st : LoopState), PendR aj j → st = (if j.isNone then LoopState.ready else .done) → Stp K ρ H w ρ2 (H2.set l (.loop st aj t2 ps2 a2 b2)) (setBlk w2 A (.loop { rec2 with state := if j.isNone then .ready else .done, pending := j })) := by
      intro j aj st hp hs
      exact hs123.trans (stp_set hs3.hr hl2 rfl hρ2 hBA _ _ ⟨rfl, rfl, hBA, _, setBlk_same _ (lt_of_heap hA2), hs.symm, hp, htm2, hps2, hca2, hcb2⟩)
    cases ho2 with
    | normal =>
      simp only [Option.some.injEq, Prod.mk.injEq] at hout
      obtain ⟨rfl, rfl⟩ := hout
      exact ⟨_, _, endRound_run hA2 none, ρ2, fin none none .ready .none rfl, _, rfl, .bool true⟩
    | ret =>
      simp only [Option.some.injEq, Prod.mk.injEq] at hout
      obtain ⟨rfl, rfl⟩ := hout
      exact ⟨_, _, endRound_run hA2 (some .ret), ρ2, fin (some .ret) (some .ret) .done .ret rfl, _, rfl, .bool false⟩
    | exit id =>
      simp only [Option.some.injEq, Prod.mk.injEq] at hout
      obtain ⟨rfl, rfl⟩ := hout
      exact ⟨_, _, endRound_run hA2 (some (.exit id)), ρ2, fin (some (.exit id)) (some (.exit id)) .done (.exit id) rfl, _, rfl, .bool false⟩
    | panic hv => cases hout

/-- Calls of the small machine do what the model's do. -/
theorem inv_ok (hK : K.comp = cCode K.P) (hmo : Tables.follows K.P.toTables Departure.mixedOrders = true) {T : Tbl} (hT : TblOK K T) : ∀ n, InvOK K (inv T n)
  | 0 => fun tgt args H r H' h => by cases tgt <;> cases h
  | n + 1 => by
    have hi := inv_ok hK hmo hT n
    intro tgt args H r H' h
    cases tgt with
    | fn f =>
      simp only [inv] at h
      split at h
      · rename_i F hF
        simp only [Option.map_eq_some_iff, Prod.mk.injEq] at h
        obtain ⟨⟨v, H1⟩, h1, rfl, rfl⟩ := h
        exact hT.prim f F hF args H v H1 h1
      · rename_i c hc
        obtain ⟨fn, hfn, hcf⟩ := hT.code f c hc
        obtain ⟨b, hb, hname, _⟩ := cFunc_spec hcf
        have hfn' : ∃ fn, K.P.funcs[f]? = some fn ∧ (fn.name == "runtime.NumGoroutine") = false ∧ fn.body.isNone = false := ⟨fn, hfn, hname, by rw [hb]; rfl⟩
        have go : ∀ {out fr H1}, exec (inv T n) n false c.body (args ++ List.replicate (c.ntmps - args.length) undef) H = some (out, fr, H1) → H1 = H' →
            (match (generalizing := false) out with
              | .normal | .ret => (resultsA fr H1 c.results).map fun v => Except.ok v
              | .panic v => some (.error v)
              | _ => none) = some r → H.length ≤ H'.length ∧ ∀ ρ w args', HR K ρ H w → VRL ρ args args' → Free ρ H.length H'.length →
                (∃ fn, K.P.funcs[f]? = some fn ∧ (fn.name == "runtime.NumGoroutine") = false ∧ fn.body.isNone = false) ∧ CallsIn (wd none) 0 K.P f ⟨args'⟩ w (RetR K ρ H w r H') := by
          rintro out fr H1 he rfl hres
          exact ⟨exec_len' hi _ he, fun ρ w args' hr hv hf => ⟨hfn', fn_sound hK hmo hi hfn hcf he hres hr hv hf⟩⟩
        split at h
        · rename_i fr H1 he
          simp only [Option.map_eq_some_iff, Prod.mk.injEq] at h
          obtain ⟨v, hv, rfl, rfl⟩ := h
          exact go he rfl (by simp [hv])
        · rename_i fr H1 he
          simp only [Option.map_eq_some_iff, Prod.mk.injEq] at h
          obtain ⟨v, hv, rfl, rfl⟩ := h
          exact go he rfl (by simp [hv])
        · rename_i v fr H1 he
          simp only [Option.some.injEq, Prod.mk.injEq] at h
          obtain ⟨rfl, rfl⟩ := h
          exact go he rfl rfl
        · cases h
      · cases h
    | yield l =>
      simp only [inv] at h
      split at h <;> try (cases h; done)
      rename_i pend tmps params assign body hl
      split at h <;> try (cases h; done)
      rename_i hal
      split at h <;> try (cases h; done)
      rename_i fr H1 h1
      split at h <;> try (cases h; done)
      rename_i p1 t1 ps1 a1 b1 hl1
      split at h <;> try (cases h; done)
      rename_i out f2 H2 h2
      split at h <;> try (cases h; done)
      rename_i p2 t2 ps2 a2 b2 hl2
      exact yield_sound hK hmo hi hl hal h1 hl1 h2 hl2 h

end
end Go.Proofs.Am

/- How runs of the small machine are shown, step by step. -/
namespace Go.Proofs.Am
open Go Go.RowKit

/-- One answers whatever the other does. -/
def Le (i j : Inv) : Prop := ∀ tgt args H r, i tgt args H = some r → j tgt args H = some r

theorem step1_mono {i j : Inv} (h : Le i j) {o : AOp} {e : AX → Value} {H : Mem} {r} (hs : step1 i o e H = some r) : step1 j o e H = some r := by
  unfold step1 at *
  split at hs <;> first | exact hs | exact h _ _ _ _ hs

theorem exOps_mono {i j : Inv} (h : Le i j) {all : List AOper} : ∀ {ops : List AOper} {fr H tr r}, exOps i all ops fr H tr = some r → exOps j all ops fr H tr = some r
  | [], fr, H, tr, r, e => e
  | o :: ops, fr, H, tr, r, e => by
    simp only [exOps] at e ⊢
    split at e
    · split at e
      · rename_i hs; rw [step1_mono h hs]; exact exOps_mono h e
      · rename_i hs; rw [step1_mono h hs]; exact e
      · cases e
    · exact exOps_mono h e
    · cases e

theorem exRegion_mono {i j : Inv} (h : Le i j) {d : Bool} {ops chk pk fr H r} (e : exRegion i d ops chk pk fr H = some r) : exRegion j d ops chk pk fr H = some r := by
  unfold exRegion at *
  split at e
  · rename_i he; rw [exOps_mono h he]; exact e
  · rename_i hn he; rw [exOps_mono h he]
    split
    · rename_i h1; cases h1; exact (hn rfl).elim
    · rename_i h1; cases h1; exact e
    · rename_i h1; cases h1
  · cases e

theorem iter_mono {b b' : List Value → Mem → Option (AOut × List Value × Mem)} (h : ∀ fr H r, b fr H = some r → b' fr H = some r) : ∀ {n m : Nat}, n ≤ m → ∀ {fr H r}, iter b n fr H = some r → iter b' m fr H = some r
  | 0, _, _, _, _, _, e => by cases e
  | n + 1, 0, hn, _, _, _, _ => by omega
  | n + 1, m + 1, hn, fr, H, r, e => by
    simp only [iter] at e ⊢
    split at e
    · rename_i he; rw [h _ _ _ he]; exact iter_mono h (by omega) e
    · rename_i hne
      rw [h _ _ _ e]
      split
      · rename_i h1; cases h1; exact (hne _ _ e).elim
      · rfl

theorem exec_mono {i j : Inv} (h : Le i j) {n m : Nat} (hn : n ≤ m) {rd : Bool} : ∀ (c : ACode) {fr H r}, exec i n rd c fr H = some r → exec j m rd c fr H = some r
  | .skip, fr, H, r, e => e
  | .ret, fr, H, r, e => e
  | .exit _, fr, H, r, e => e
  | .region d ops chk pk, fr, H, r, e => by
    simp only [exec] at e ⊢; exact exRegion_mono h e
  | .seq a b, fr, H, r, e => by
    simp only [exec] at e ⊢
    split at e
    · rename_i he; rw [exec_mono h hn a he]; exact exec_mono h hn b e
    · rename_i hne
      rw [exec_mono h hn a e]
      split
      · rename_i h1; cases h1; exact (hne _ _ e).elim
      · rfl
  | .cond c a b, fr, H, r, e => by
    simp only [exec] at e ⊢
    split at e
    · split at e
      · rename_i ht; rw [if_pos ht]; exact exec_mono h hn a e
      · rename_i ht; rw [if_neg ht]; exact exec_mono h hn b e
    · cases e
  | .block id a, fr, H, r, e => by
    simp only [exec] at e ⊢
    split at e
    · rename_i he; rw [exec_mono h hn a he]; exact e
    · rename_i hne
      rw [exec_mono h hn a e]
      split
      · rename_i h1; cases h1; exact (hne _ _ _ e).elim
      · rfl
  | .loop a, fr, H, r, e => by
    simp only [exec] at e ⊢
    exact iter_mono (fun _ _ _ he => exec_mono h hn a he) hn e
  | .rangeFunc g ps assign body, fr, H, r, e => by
    simp only [exec] at e ⊢
    split at e
    · cases e
    · rename_i hrd; rw [if_neg hrd]
      split at e
      · split at e
        · rename_i he; rw [h _ _ _ _ he]; exact e
        · cases e
      · cases e

theorem inv_step (T : Tbl) : ∀ n, Le (inv T n) (inv T (n + 1))
  | 0 => fun tgt args H r e => by cases tgt <;> cases e
  | n + 1 => by
    have ih := inv_step T n
    intro tgt args H r e
    cases tgt with
    | fn f =>
      simp only [inv] at e ⊢
      split at e
      · exact e
      · rename_i hT
        split at e
        · rename_i he; rw [exec_mono ih (Nat.le_succ n) _ he]; exact e
        · rename_i he; rw [exec_mono ih (Nat.le_succ n) _ he]; exact e
        · rename_i he; rw [exec_mono ih (Nat.le_succ n) _ he]; exact e
        · cases e
      · cases e
    | yield l =>
      simp only [inv] at e ⊢
      split at e <;> try (cases e; done)
      split at e <;> try (cases e; done)
      rename_i hal
      rw [if_pos hal]
      split at e <;> try (cases e; done)
      rename_i h1
      rw [exec_mono ih (Nat.le_succ n) _ h1]
      simp only
      split at e <;> try (cases e; done)
      split at e <;> try (cases e; done)
      rename_i h2
      rw [exec_mono ih (Nat.le_succ n) _ h2]
      exact e

theorem inv_mono (T : Tbl) {n m : Nat} (h : n ≤ m) : Le (inv T n) (inv T m) := by
  induction m with
  | zero => obtain rfl : n = 0 := by omega
            exact fun _ _ _ _ e => e
  | succ m ih =>
    by_cases e : n = m + 1
    · subst e; exact fun _ _ _ _ e => e
    · intro tgt args H r he
      exact inv_step T m _ _ _ _ (ih (by omega) _ _ _ _ he)

theorem exec_more (T : Tbl) {n m : Nat} (h : n ≤ m) {rd : Bool} {c : ACode} {fr H r} (e : exec (inv T n) n rd c fr H = some r) : exec (inv T m) m rd c fr H = some r := exec_mono (inv_mono T h) h c e

/-- A call comes to something that Q says. -/
structure Ev (T : Tbl) (g : Tgt) (args : List Value) (H : Mem) (Q : Except Value Value → Mem → Prop) : Prop where
  ex : ∃ n r H', inv T n g args H = some (r, H') ∧ Q r H'

/-- Code comes to something that Q says. -/
structure W (T : Tbl) (rd : Bool) (c : ACode) (fr : List Value) (H : Mem) (Q : AOut → List Value → Mem → Prop) : Prop where
  ex : ∃ n out fr' H', exec (inv T n) n rd c fr H = some (out, fr', H') ∧ Q out fr' H'

/-- Operations come to something that Q says. -/
def WO (T : Tbl) (all : List AOper) : List AOper → List Value → Mem → (AOut → List Value → Mem → Prop) → Prop
  | [], fr, H, Q => Q .normal fr H
  | o :: ops, fr, H, Q =>
    match wantedA all fr o with
    | some true =>
      match aop o.op (ev fr) H with
      | some (.val v, H') => WO T all ops (put fr o.dst v) H' Q
      | some (.panic v, H') => Q (.panic v) fr H'
      | some (.enter g args, H') => Ev T g args H' fun r H'' =>
        match r with
        | .ok v => WO T all ops (put fr o.dst v) H'' Q
        | .error v => Q (.panic v) fr H''
      | none => False
    | some false => WO T all ops (put fr o.dst undef) H Q
    | none => False

section
variable {T : Tbl} {rd : Bool} {fr : List Value} {H : Mem} {Q Q' : AOut → List Value → Mem → Prop}

theorem Ev.mono {g : Tgt} {args : List Value} {R R' : Except Value Value → Mem → Prop} (h : Ev T g args H R) (k : ∀ r H', R r H' → R' r H') : Ev T g args H R' := by
  obtain ⟨n, r, H', e, q⟩ := h; exact ⟨n, r, H', e, k _ _ q⟩

theorem W.mono {c : ACode} (h : W T rd c fr H Q) (k : ∀ o f h, Q o f h → Q' o f h) : W T rd c fr H Q' := by
  obtain ⟨n, o, f, h', e, q⟩ := h; exact ⟨n, o, f, h', e, k _ _ _ q⟩

theorem WO.run {all : List AOper} : ∀ {ops : List AOper} {fr H}, WO T all ops fr H Q → ∀ tr, ∃ n out fr' H' tr', exOps (inv T n) all ops fr H tr = some (out, fr', H', tr') ∧ Q out fr' H'
  | [], fr, H, h, tr => ⟨0, .normal, fr, H, tr, rfl, h⟩
  | o :: ops, fr, H, h, tr => by
    simp only [WO] at h
    split at h
    · rename_i hw
      split at h
      · rename_i v H' ha
        obtain ⟨n, out, fr', H'', tr', e, q⟩ := WO.run h ((fr, H) :: tr)
        exact ⟨n, out, fr', H'', tr', by simp only [exOps, hw, step1, ha]; exact e, q⟩
      · rename_i v H' ha
        exact ⟨0, _, _, _, (fr, H) :: tr, by simp only [exOps, hw, step1, ha], h⟩
      · rename_i g args H' ha
        obtain ⟨n, r, H'', e, q⟩ := h
        cases r with
        | ok v =>
          obtain ⟨m, out, fr', H3, tr', e', q'⟩ := WO.run q ((fr, H) :: tr)
          refine ⟨max n m, out, fr', H3, tr', ?_, q'⟩
          simp only [exOps, hw, step1, ha, inv_mono T (Nat.le_max_left n m) _ _ _ _ e]
          exact exOps_mono (inv_mono T (Nat.le_max_right n m)) e'
        | error v => exact ⟨n, _, _, _, (fr, H) :: tr, by simp only [exOps, hw, step1, ha, e], q⟩
      · exact h.elim
    · rename_i hw
      obtain ⟨n, out, fr', H'', tr', e, q⟩ := WO.run h ((fr, H) :: tr)
      exact ⟨n, out, fr', H'', tr', by simp only [exOps, hw]; exact e, q⟩
    · exact h.elim

theorem W.region {ops : List AOper} {chk pk} (h : WO T ops ops fr H Q) : W T rd (.region false ops chk pk) fr H Q := by
  obtain ⟨n, out, fr', H', tr', e, q⟩ := h.run []
  refine ⟨n, out, fr', H', ?_, q⟩
  simp only [exec, exRegion, e]
  cases out <;> simp

/-- A region that draws, with nothing to look at twice, and that does not panic. -/
theorem W.drawn {ops : List AOper} {pk} (h : WO T ops ops fr H fun o f h => o = .normal ∧ Q o f h) : W T rd (.region true ops [] pk) fr H Q := by
  obtain ⟨n, out, fr', H', tr', e, rfl, q⟩ := h.run []
  exact ⟨n, _, fr', H', by simp only [exec, exRegion, e]; simp, q⟩

theorem W.skip (h : Q .normal fr H) : W T rd .skip fr H Q := ⟨0, _, _, _, rfl, h⟩
theorem W.ret (h : Q .ret fr H) : W T rd .ret fr H Q := ⟨0, _, _, _, rfl, h⟩
theorem W.exit {id : Nat} (h : Q (.exit id) fr H) : W T rd (.exit id) fr H Q := ⟨0, _, _, _, rfl, h⟩

theorem W.seq {a b : ACode} (h : W T rd a fr H fun o f h => match o with | .normal => W T rd b f h Q | o => Q o f h) : W T rd (.seq a b) fr H Q := by
  obtain ⟨n, o, f, h', e, q⟩ := h
  cases o with
  | normal =>
    obtain ⟨m, o2, f2, h2, e2, q2⟩ := q
    refine ⟨max n m, o2, f2, h2, ?_, q2⟩
    simp only [exec, exec_more T (Nat.le_max_left n m) e]
    exact exec_more T (Nat.le_max_right n m) e2
  | exit id => exact ⟨n, _, _, _, by simp only [exec, e], q⟩
  | ret => exact ⟨n, _, _, _, by simp only [exec, e], q⟩
  | panic v => exact ⟨n, _, _, _, by simp only [exec, e], q⟩

theorem W.cond {c : AX} {a b : ACode} {t : Bool} (hc : ev fr c = .bool t) (h : W T rd (if t then a else b) fr H Q) : W T rd (.cond c a b) fr H Q := by
  obtain ⟨n, o, f, h', e, q⟩ := h
  refine ⟨n, o, f, h', ?_, q⟩
  simp only [exec, hc]
  cases t <;> exact e

theorem W.block {id : Nat} {a : ACode} (h : W T rd a fr H fun o f h => match o with | .exit k => if k = id then Q .normal f h else Q (.exit k) f h | o => Q o f h) : W T rd (.block id a) fr H Q := by
  obtain ⟨n, o, f, h', e, q⟩ := h
  cases o with
  | exit k =>
    simp only at q
    by_cases hk : k = id
    · rw [if_pos hk] at q; exact ⟨n, _, _, _, by simp only [exec, e, hk, if_true], q⟩
    · rw [if_neg hk] at q; exact ⟨n, _, _, _, by simp only [exec, e, hk, if_false], q⟩
  | normal => exact ⟨n, _, _, _, by simp only [exec, e], q⟩
  | ret => exact ⟨n, _, _, _, by simp only [exec, e], q⟩
  | panic v => exact ⟨n, _, _, _, by simp only [exec, e], q⟩

/-- A loop, by what stands at its head and a number that falls. -/
theorem W.loop {a : ACode} (I : Nat → List Value → Mem → Prop) (step : ∀ k f h, I k f h → W T rd a f h fun o f' h' => match o with | .normal => ∃ k', k' < k ∧ I k' f' h' | o => Q o f' h') :
    ∀ (k : Nat) {fr : List Value} {H : Mem}, I k fr H → W T rd (.loop a) fr H Q := by
  intro k
  induction k using Nat.strongRecOn with
  | ind k ih =>
    intro fr H hI
    obtain ⟨n, o, f, h', e, q⟩ := step k fr H hI
    have done : ∀ o', o = o' → o' ≠ .normal → Q o' f h' → W T rd (.loop a) fr H Q := by
      rintro o' rfl hn hq
      refine ⟨n + 1, o, f, h', ?_, hq⟩
      have e' := exec_more T (Nat.le_succ n) e
      simp only [exec, iter]
      rw [e']
      cases o <;> first | rfl | exact absurd rfl hn
    cases o with
    | normal =>
      obtain ⟨k', hk, hI'⟩ := q
      obtain ⟨m, o2, f2, h2, e2, q2⟩ := ih k' hk hI'
      refine ⟨max n m + 1, o2, f2, h2, ?_, q2⟩
      simp only [exec, iter] at e2 ⊢
      rw [exec_more T (show n ≤ max n m + 1 by omega) e]
      simp only
      exact iter_mono (fun _ _ _ he => exec_more T (show m ≤ max n m + 1 by omega) he) (Nat.le_max_right n m) e2
    | exit id => exact done _ rfl (by simp) q
    | ret => exact done _ rfl (by simp) q
    | panic v => exact done _ rfl (by simp) q

/-- A function's call. -/
theorem Ev.fn {f : FuncId} {c : AFunc} (hT : T f = some (.code c)) {args : List Value} {R : Except Value Value → Mem → Prop}
    (h : W T false c.body (args ++ List.replicate (c.ntmps - args.length) undef) H fun o fr' H' => match o with
      | .normal | .ret => ∃ v, resultsA fr' H' c.results = some v ∧ R (.ok v) H'
      | .panic v => R (.error v) H'
      | .exit _ => False) : Ev T (.fn f) args H R := by
  obtain ⟨n, o, f', h', e, q⟩ := h
  cases o with
  | normal =>
    obtain ⟨v, hv, q⟩ := q
    exact ⟨n + 1, .ok v, h', by simp only [inv, hT, e, hv, Option.map_some], q⟩
  | ret =>
    obtain ⟨v, hv, q⟩ := q
    exact ⟨n + 1, .ok v, h', by simp only [inv, hT, e, hv, Option.map_some], q⟩
  | exit id => exact q.elim
  | panic v => exact ⟨n + 1, .error v, h', by simp only [inv, hT, e], q⟩

/-- A function with a law of its own. -/
theorem Ev.prim {f : FuncId} {F} (hT : T f = some (.prim F)) {args : List Value} {v : Value} {H' : Mem} {R : Except Value Value → Mem → Prop} (h : F args H = some (v, H')) (q : R (.ok v) H') : Ev T (.fn f) args H R :=
  ⟨1, .ok v, H', by simp only [inv, hT, h, Option.map_some], q⟩

end
end Go.Proofs.Am

/- The first memory of a law: what the arguments were read as. -/
namespace Go.Proofs.Am
open Go Go.RowKit

mutual
/-- The cells of what was read, and the memory that holds what they lead to. -/
def mk {H : Type} : DataW H → Mem → List Value × Mem
  | .lit (.int k n), M => ([.int k n], M)
  | .lit (.bool b), M => ([.bool b], M)
  | .lit (.string bs), M => ([.string ⟨⟨bs⟩⟩], M)
  | .slice es sp, M =>
    let r := mkAll es M
    let r2 := mkAll sp r.2
    ([.slice (some ⟨r2.2.length, 0, none⟩) es.length (es.length + sp.length)], r2.2 ++ [.cells (r.1 ++ r2.1) 0 true])
  | .agg ps, M => mkAll ps M
  | _, M => ([.slice none 0 0], M)
def mkAll {H : Type} : List (DataW H) → Mem → List Value × Mem
  | [], M => ([], M)
  | d :: ds, M =>
    let r := mk d M
    let r2 := mkAll ds r.2
    (r.1 ++ r2.1, r2.2)
end

/-- Fields one behind the other. -/
def contig (P : Program) : List Field → Nat → Option Nat
  | [], n => some n
  | f :: fs, n => if f.offset = n then contig P fs (n + P.cellsOf f.type) else none

/-- Types of numbers, bools, texts, structs, arrays and slices of these. -/
def plainT (P : Program) : Nat → TypeId → Bool
  | 0, _ => false
  | m + 1, t =>
    match P.underlying t with
    | some .bool | some (.int _) | some .string => true
    | some (.slice e) => plainT P m e && decide (0 < P.cellsOf e)
    | some (.struct fs) => decide (contig P fs.toList 0 = some (P.cellsOf t)) && fs.toList.all fun f => plainT P m f.type
    | some (.array n e) => decide (n * P.cellsOf e = P.cellsOf t) && plainT P m e
    | _ => false

/-- A memory that stands in a world, all read only. -/
structure Ro (K : Ctx) (ρ : Ren) (M : Mem) (w : World) : Prop where
  hr : HR K ρ M w
  free : ∀ b, M.length ≤ b → ρ b = none
  now : ∀ b, ¬ wrt M b

theorem Ro.add {K : Ctx} {ρ : Ren} {M : Mem} {w : World} (h : Ro K ρ M w) {A s : Nat} {C : Array Value} {t t' : TypeId} {fz : Nat × Nat} {cs : List Value} (hA : w.heap[A]? = some (.cells C t fz)) (hc : CB ρ cs C s) (hl : s + cs.length ≤ C.size) :
    Ro K (ρ.upd M.length (A, s, C.size)) (M ++ [.cells cs t' true]) w := by
  have hsub := Ren.sub_upd (A, s, C.size) (h.free M.length (Nat.le_refl _))
  have hnow : ∀ b, ¬ wrt (M ++ [.cells cs t' true]) b := by
    intro b hw
    rcases wrt_append hw with h' | ⟨_, h'⟩
    · exact h.now b h'
    · simp [Blk.isW] at h'
  refine ⟨⟨?_, fun b b' A s s' _ _ _ hw => absurd hw (hnow b), ?_, h.hr.below, h.hr.base⟩, ?_, hnow⟩
  · intro b blk A' s' N e r
    rcases get_append e with ⟨hb, e'⟩ | ⟨rfl, rfl⟩
    · rw [Ren.upd_ne ρ _ (by omega)] at r
      exact (h.hr.blk b blk A' s' N e' r).mono hsub
    · rw [Ren.upd_same] at r; cases r
      exact ⟨C, t, fz, hA, rfl, hc.mono hsub, hl, fun e => by cases e⟩
  · intro b A' s' r
    by_cases hb : b = M.length
    · subst hb; rw [Ren.upd_same] at r; cases r; exact lt_of_heap hA
    · rw [Ren.upd_ne ρ _ hb] at r; exact h.hr.lt b A' s' r
  · intro b hb
    simp at hb
    rw [Ren.upd_ne ρ _ (by omega)]; exact h.free b (by omega)

theorem Ro.pad {K : Ctx} {ρ : Ren} {M : Mem} {w : World} (h : Ro K ρ M w) (cs : List Value) (t' : TypeId) : Ro K ρ (M ++ [.cells cs t' true]) w := by
  have hnow : ∀ b, ¬ wrt (M ++ [.cells cs t' true]) b := by
    intro b hw
    rcases wrt_append hw with h' | ⟨_, h'⟩
    · exact h.now b h'
    · simp [Blk.isW] at h'
  refine ⟨⟨?_, fun b b' A s s' _ _ _ hw => absurd hw (hnow b), h.hr.lt, h.hr.below, h.hr.base⟩, fun b hb => h.free b (by simp at hb; omega), hnow⟩
  intro b blk A' s' N e r
  rcases get_append e with ⟨hb, e'⟩ | ⟨rfl, rfl⟩
  · exact h.hr.blk b blk A' s' N e' r
  · rw [h.free _ (Nat.le_refl _)] at r; cases r

/-- What a reading of one value comes to in the small machine. -/
def MkOK (K : Ctx) (w : World) {H : Type} (d : DataW H) (cells : List Value) : Prop := ∀ M ρ, Ro K ρ M w → ∃ ρ', Sub ρ ρ' ∧ Ro K ρ' (mk d M).2 w ∧ VRL ρ' (mk d M).1 cells ∧ M.length ≤ (mk d M).2.length

theorem mkAll_ok {K : Ctx} {w : World} {H : Type} : ∀ (ds : List (DataW H)) (cs : List (List Value)), ds.length = cs.length → (∀ (j : Nat) (d : DataW H) (c : List Value), ds[j]? = some d → cs[j]? = some c → MkOK K w d c) →
    ∀ M ρ, Ro K ρ M w → ∃ ρ', Sub ρ ρ' ∧ Ro K ρ' (mkAll ds M).2 w ∧ VRL ρ' (mkAll ds M).1 cs.flatten ∧ M.length ≤ (mkAll ds M).2.length
  | [], [], _, _, M, ρ, h => ⟨ρ, Sub.refl _, by simpa [mkAll] using h, by simp only [mkAll, List.flatten_nil]; exact .nil, by simp [mkAll]⟩
  | [], _ :: _, hl, _, _, _, _ => by simp at hl
  | _ :: _, [], hl, _, _, _, _ => by simp at hl
  | d :: ds, c :: cs, hl, hk, M, ρ, h => by
    obtain ⟨ρ1, s1, h1, v1, l1⟩ := hk 0 d c rfl rfl M ρ h
    obtain ⟨ρ2, s2, h2, v2, l2⟩ := mkAll_ok ds cs (by simpa using hl) (fun j d' c' e e' => hk (j + 1) d' c' (by simpa using e) (by simpa using e')) _ ρ1 h1
    refine ⟨ρ2, s1.trans s2, by simpa only [mkAll] using h2, ?_, by simp only [mkAll]; omega⟩
    simp only [mkAll, List.flatten_cons]
    exact VRL.append (VRL.mono s2 v1) v2

theorem mapM_some {α β : Type} {g : α → Option β} : ∀ {l : List α} {r : List β}, l.mapM g = some r → l.length = r.length ∧ ∀ (j : Nat) (x : α) (y : β), l[j]? = some x → r[j]? = some y → g x = some y
  | [], r, h => by simp at h; subst h; exact ⟨rfl, fun j x y e => by simp at e⟩
  | a :: l, r, h => by
    simp only [List.mapM_cons, Option.bind_eq_bind, Option.bind_eq_some_iff, Option.some.injEq, Option.pure_def] at h
    obtain ⟨b, hb, bs, hbs, rfl⟩ := h
    obtain ⟨h1, h2⟩ := mapM_some hbs
    refine ⟨by simp [h1], fun j x y e e' => ?_⟩
    cases j with
    | zero => simp at e e'; subst e; subst e'; exact hb
    | succ j => exact h2 j x y (by simpa using e) (by simpa using e')


theorem cells_get {w : World} {base : Nat} {a : Addr} {n : Nat} {cs : List Value} (h : w.cells? base a n = some cs) : cs.length = n ∧ ∀ (i : Nat) (v : Value), cs[i]? = some v → w.cell? (a.add i) = some v := by
  unfold World.cells? at h
  split at h
  · obtain ⟨h1, h2⟩ := mapM_some h
    simp at h1
    refine ⟨h1.symm, fun i v e => ?_⟩
    have hi : i < n := by rw [h1]; exact (List.getElem?_eq_some_iff.1 e).1
    exact h2 i i v (by simp [hi]) e
  · cases h

theorem cell_block {w : World} {a : Addr} {v : Value} (h : w.cell? a = some v) : ∃ C t fz, w.heap[a.block]? = some (.cells C t fz) ∧ a.spot = none ∧ C[a.off]? = some v := by
  unfold World.cell? at h
  split at h
  · rename_i C t fz e
    split at h
    · cases h
    · rename_i hs
      refine ⟨C, t, fz, e, ?_, h⟩
      cases e2 : a.spot with
      | none => rfl
      | some x => rw [e2] at hs; simp at hs
  · cases h

theorem cell_in {w : World} {a : Addr} {C : Array Value} {t : TypeId} {fz : Nat × Nat} (hA : w.heap[a.block]? = some (.cells C t fz)) {i : Nat} {v : Value} (h : w.cell? (a.add i) = some v) : C[a.off + i]? = some v := by
  obtain ⟨C', t', fz', h1, _, h3⟩ := cell_block h
  have hb : (a.add i).block = a.block := by unfold Addr.add; split <;> rfl
  have ho : (a.add i).off = a.off + i := by unfold Addr.add; split <;> simp_all
  rw [hb, hA] at h1; cases h1
  rw [ho] at h3; exact h3

theorem add_add (a : Addr) (i j : Nat) : (a.add i).add j = a.add (i + j) ∨ i + j = 0 ∧ (a.add i).add j = a := by
  unfold Addr.add
  by_cases h1 : i = 0 <;> by_cases h2 : j = 0 <;> simp_all <;> omega

theorem flat_in {C : Array Value} {sz : Nat} : ∀ (css : List (List Value)) (off : Nat), (∀ (i : Nat) (c : List Value), css[i]? = some c → c.length = sz ∧ ∀ (j : Nat) (v : Value), c[j]? = some v → C[off + (i * sz + j)]? = some v) →
    ∀ (q : Nat) (v : Value), css.flatten[q]? = some v → C[off + q]? = some v
  | [], off, _, q, v, e => by simp at e
  | c :: css, off, h, q, v, e => by
    obtain ⟨hl, h0⟩ := h 0 c rfl
    rw [List.flatten_cons] at e
    by_cases hq : q < c.length
    · rw [List.getElem?_append_left hq] at e
      have := h0 q v e
      simpa using this
    · rw [List.getElem?_append_right (by omega)] at e
      have := flat_in css (off + sz) (fun i c' e' => by
        obtain ⟨h1, h2⟩ := h (i + 1) c' (by simpa using e')
        refine ⟨h1, fun j v e2 => ?_⟩
        have := h2 j v e2
        rw [show off + sz + (i * sz + j) = off + ((i + 1) * sz + j) from by rw [Nat.add_mul]; omega]; exact this) (q - c.length) v e
      rw [show off + sz + (q - c.length) = off + q from by omega] at this
      exact this

theorem cellsOf_flat_length {sz : Nat} : ∀ (css : List (List Value)), (∀ c ∈ css, c.length = sz) → css.flatten.length = css.length * sz
  | [], _ => by simp
  | c :: css, h => by
    rw [List.flatten_cons, List.length_append, h c (by simp), cellsOf_flat_length css (fun c' hc => h c' (by simp [hc])), List.length_cons, Nat.add_mul]
    omega

end Go.Proofs.Am

/- The first memory of a law stands in the world that the law is called in. -/
namespace Go.Proofs.Am
open Go Go.RowKit

theorem contig_flat {P : Program} (cs : List Value) : ∀ (fs : List Field) (n m : Nat), contig P fs n = some m → n ≤ m ∧ (fs.map fun f => (cs.drop f.offset).take (P.cellsOf f.type)).flatten = (cs.drop n).take (m - n)
  | [], n, m, h => by
    simp only [contig, Option.some.injEq] at h; subst h
    exact ⟨Nat.le_refl _, by simp⟩
  | f :: fs, n, m, h => by
    simp only [contig] at h
    split at h
    · rename_i ho
      obtain ⟨h1, h2⟩ := contig_flat cs fs (n + P.cellsOf f.type) m h
      refine ⟨by omega, ?_⟩
      rw [List.map_cons, List.flatten_cons, h2, ho]
      have e : m - n = P.cellsOf f.type + (m - (n + P.cellsOf f.type)) := by omega
      rw [e, List.take_add, List.drop_drop]
    · cases h

theorem range_flat (cs : List Value) (sz : Nat) : ∀ n, ((List.range n).map fun i => (cs.drop (i * sz)).take sz).flatten = cs.take (n * sz)
  | 0 => by simp
  | n + 1 => by
    rw [List.range_succ, List.map_append, List.flatten_append, range_flat cs sz n, Nat.add_mul, Nat.one_mul, List.take_add]
    simp

theorem byteArray_eta (s : ByteArray) : (⟨⟨s.data.toList⟩⟩ : ByteArray) = s := by
  obtain ⟨⟨l⟩⟩ := s; rfl

theorem mkAll_append {H : Type} : ∀ (es sp : List (DataW H)) (M : Mem), mkAll (es ++ sp) M = ((mkAll es M).1 ++ (mkAll sp (mkAll es M).2).1, (mkAll sp (mkAll es M).2).2)
  | [], sp, M => by simp [mkAll]
  | e :: es, sp, M => by
    simp only [List.cons_append, mkAll, mkAll_append es sp, List.append_assoc]

theorem exists_list {α : Type} {p : Nat → α → Prop} : ∀ (n : Nat), (∀ i, i < n → ∃ c, p i c) → ∃ l : List α, l.length = n ∧ ∀ (i : Nat) (c : α), l[i]? = some c → p i c
  | 0, _ => ⟨[], rfl, fun i c e => by simp at e⟩
  | n + 1, h => by
    obtain ⟨l, h1, h2⟩ := exists_list n fun i hi => h i (by omega)
    obtain ⟨c, hc⟩ := h n (by omega)
    refine ⟨l ++ [c], by simp [h1], fun i c' e => ?_⟩
    by_cases hi : i < l.length
    · rw [List.getElem?_append_left hi] at e; exact h2 i c' e
    · have hl := (List.getElem?_eq_some_iff.1 e).1
      simp at hl
      obtain rfl : i = n := by omega
      rw [List.getElem?_append_right (by omega)] at e
      simp [h1] at e; subst e; exact hc

theorem trod_mk {K : Ctx} {H : Type} {enc : TypeId × Value → H} {w : World} {base : Nat} {held : Bool} : ∀ (k m : Nat) (t : TypeId) (cells : List Value) (d : DataW H) (ps : List MemPlace),
    DataW.trod enc K.P w base (fun _ => true) held k t cells = some (d, ps) → plainT K.P m t = true → MkOK K w d cells
  | 0, _, _, _, _, _, h, _ => by simp [DataW.trod] at h
  | k + 1, 0, _, _, _, _, _, hp => by simp [plainT] at hp
  | k + 1, m + 1, t, cells, d, ps, h, hp => by
    have atom : ∀ (v : Value), (∀ ρ, VR ρ v v) → (∀ M, mk d M = ([v], M)) → cells = [v] → MkOK K w d cells := by
      rintro v hv hmk rfl M ρ hR
      exact ⟨ρ, Sub.refl _, by rw [hmk]; exact hR, by rw [hmk]; exact .cons (hv ρ) .nil, by rw [hmk]; exact Nat.le_refl _⟩
    unfold DataW.trod at h
    simp only [plainT] at hp
    split at hp
    · rename_i hu
      rw [hu] at h
      simp only at h
      split at h <;> first | (cases h; done) | skip
      all_goals first | (rename_i h1; cases h1; done) | skip
      rename_i b _
      simp only [Option.some.injEq, Prod.mk.injEq] at h
      obtain ⟨rfl, _⟩ := h
      exact atom (.bool b) (fun ρ => .bool b) (fun M => by simp [mk]) rfl
    · rename_i kk hu
      rw [hu] at h
      simp only at h
      split at h <;> first | (cases h; done) | skip
      all_goals first | (rename_i h1; cases h1; done) | skip
      rename_i k1 k' n he
      cases he
      split at h
      · rename_i hk
        obtain ⟨rfl, _⟩ := hk
        simp only [Option.some.injEq, Prod.mk.injEq] at h
        obtain ⟨rfl, _⟩ := h
        exact atom (.int k' n) (fun ρ => .int k' n) (fun M => by simp [mk]) rfl
      · cases h
    · rename_i hu
      rw [hu] at h
      simp only at h
      split at h <;> first | (cases h; done) | skip
      all_goals first | (rename_i h1; cases h1; done) | skip
      rename_i s _
      split at h
      · simp only [Option.some.injEq, Prod.mk.injEq] at h
        obtain ⟨rfl, _⟩ := h
        exact atom (.string s) (fun ρ => .string s) (fun M => by simp [mk, byteArray_eta]) rfl
      · cases h
    · rename_i e hu
      rw [hu] at h
      simp only [Bool.and_eq_true, decide_eq_true_eq] at hp
      obtain ⟨hp, hsz⟩ := hp
      simp only at h
      split at h <;> first | (cases h; done) | skip
      all_goals first | (rename_i h1; cases h1; done) | skip
      · simp only [Option.some.injEq, Prod.mk.injEq] at h
        obtain ⟨rfl, _⟩ := h
        exact atom (.slice none 0 0) (fun ρ => .sliceNil) (fun M => by simp [mk]) rfl
      · rename_i e' a len cap he
        cases he
        simp only [if_true] at h
        split at h
        · rename_i hb
          obtain ⟨_, hlc, hcap⟩ := hb
          simp only [Option.bind_eq_some_iff, Option.map_eq_some_iff, Prod.mk.injEq] at h
          obtain ⟨elems, he1, rest, hr1, rfl, _⟩ := h
          obtain ⟨l1, g1⟩ := mapM_some he1
          obtain ⟨l2, g2⟩ := mapM_some hr1
          simp at l1 l2
          have elem : ∀ (i : Nat) (x : DataW H × List MemPlace), ((w.cells? base (a.add (i * K.P.cellsOf e)) (K.P.cellsOf e)).bind (DataW.trod enc K.P w base (fun _ => true) held k e)) = some x →
              ∃ c, c.length = K.P.cellsOf e ∧ (∀ (j : Nat) (v : Value), c[j]? = some v → w.cell? ((a.add (i * K.P.cellsOf e)).add j) = some v) ∧ MkOK K w x.1 c := by
            intro i x hx
            simp only [Option.bind_eq_some_iff] at hx
            obtain ⟨c, hc, ht⟩ := hx
            obtain ⟨h1, h2⟩ := cells_get hc
            exact ⟨c, h1, h2, trod_mk k m e c x.1 x.2 ht hp⟩
          have hall : ∀ (i : Nat) (x : DataW H × List MemPlace), (elems ++ rest)[i]? = some x → ((w.cells? base (a.add (i * K.P.cellsOf e)) (K.P.cellsOf e)).bind (DataW.trod enc K.P w base (fun _ => true) held k e)) = some x := by
            intro i x hx
            by_cases hi : i < elems.length
            · rw [List.getElem?_append_left hi] at hx
              exact g1 i i x (List.getElem?_range (by omega)) hx
            · have hl := (List.getElem?_eq_some_iff.1 hx).1
              simp at hl
              rw [List.getElem?_append_right (by omega)] at hx
              have := g2 (i - elems.length) (i - elems.length) x (List.getElem?_range (by omega)) hx
              rw [show len + (i - elems.length) = i from by omega] at this
              exact this
          have hcapl : (elems ++ rest).length = cap := by simp; omega
          obtain ⟨css, hcl, hcs⟩ := exists_list (p := fun i c => c.length = K.P.cellsOf e ∧ (∀ (j : Nat) (v : Value), c[j]? = some v → w.cell? ((a.add (i * K.P.cellsOf e)).add j) = some v) ∧ ∀ x, (elems ++ rest)[i]? = some x → MkOK K w x.1 c) cap (by
            intro i hi
            obtain ⟨c, c1, c2, c3⟩ := elem i _ (hall i _ (List.getElem?_eq_getElem (by omega)))
            refine ⟨c, c1, c2, fun x hx => ?_⟩
            rw [List.getElem?_eq_getElem (by omega)] at hx
            cases hx; exact c3)
          intro M ρ hR
          have hmk : mk (DataW.slice (elems.map fun x => x.1) (rest.map fun x => x.1)) M = ([.slice (some ⟨(mkAll ((elems ++ rest).map fun x => x.1) M).2.length, 0, none⟩) len cap], (mkAll ((elems ++ rest).map fun x => x.1) M).2 ++ [.cells (mkAll ((elems ++ rest).map fun x => x.1) M).1 0 true]) := by
            rw [List.map_append, mkAll_append]
            simp only [mk, List.length_map, ← l1, ← l2]
            rw [show len + (cap - len) = cap from by omega]
          obtain ⟨ρ1, s1, hR1, hv1, hl1⟩ := mkAll_ok ((elems ++ rest).map fun x => x.1) css (by simp only [List.length_map]; omega) (by
            intro j d c e1 e2
            simp only [List.getElem?_map, Option.map_eq_some_iff] at e1
            obtain ⟨x, hx, rfl⟩ := e1
            exact (hcs j c e2).2.2 x hx) M ρ hR
          rw [hmk]
          by_cases h0 : cap = 0
          · have hl0 : len = 0 := by omega
            refine ⟨ρ1, s1, hR1.pad _ _, ?_, by rw [List.length_append]; exact Nat.le_trans hl1 (Nat.le_add_right _ _)⟩
            rw [hl0, h0]
            exact .cons (.sliceE (.inr ⟨rfl, rfl⟩)) .nil
          · have hc0 : 0 < css.length := by omega
            obtain ⟨c1, c2, _⟩ := hcs 0 css[0] (List.getElem?_eq_getElem hc0)
            have hz : a.add (0 * K.P.cellsOf e) = a := by simp [Addr.add]
            have hz2 : a.add 0 = a := by simp [Addr.add]
            have hfirst := c2 0 (css[0])[0] (List.getElem?_eq_getElem (by omega))
            rw [hz, hz2] at hfirst
            obtain ⟨C, ty, fz, hA, hspot, _⟩ := cell_block hfirst
            have hflat : ∀ (q : Nat) (v : Value), css.flatten[q]? = some v → C[a.off + q]? = some v := by
              refine flat_in (sz := K.P.cellsOf e) css a.off fun i c e1 => ?_
              obtain ⟨d1, d2, _⟩ := hcs i c e1
              refine ⟨d1, fun j v e2 => ?_⟩
              have hcell := d2 j v e2
              rcases add_add a (i * K.P.cellsOf e) j with h' | ⟨h', h''⟩
              · rw [h'] at hcell; exact cell_in hA hcell
              · rw [h''] at hcell
                have := cell_in (i := 0) hA (by rw [hz2]; exact hcell)
                rw [h']; exact this
            have hfl : css.flatten.length = cap * K.P.cellsOf e := by
              rw [cellsOf_flat_length css (sz := K.P.cellsOf e) (fun c hc => by
                obtain ⟨i, hi⟩ := List.mem_iff_getElem?.1 hc
                exact (hcs i c hi).1), hcl]
            have hvl := hv1.length
            have hpos : 0 < cap * K.P.cellsOf e := Nat.mul_pos (by omega) hsz
            have hsize : a.off + (mkAll ((elems ++ rest).map fun x => x.1) M).1.length ≤ C.size := by
              have := hflat (css.flatten.length - 1) _ (List.getElem?_eq_getElem (by omega))
              have := (Array.getElem?_eq_some_iff.1 this).1
              omega
            have hcb : CB ρ1 (mkAll ((elems ++ rest).map fun x => x.1) M).1 C a.off := by
              intro q v e1
              obtain ⟨v', e2, hv⟩ := hv1.get q v e1
              exact ⟨v', hflat q v' e2, hv⟩
            have hR2 := hR1.add (t' := 0) hA hcb hsize
            refine ⟨_, s1.trans (Ren.sub_upd _ (hR1.free _ (Nat.le_refl _))), hR2, ?_, by rw [List.length_append]; exact Nat.le_trans hl1 (Nat.le_add_right _ _)⟩
            have hadr : a = ⟨a.block, a.off + 0, none⟩ := by cases a; simp_all
            rw [hadr]
            refine .cons (.slice (Ren.upd_same _ _ _) (.inl ⟨rfl, ?_⟩) hlc) .nil
            have : maxLen < UC := by decide
            omega
        · cases h
    · rename_i fs hu
      rw [hu] at h
      simp only [Bool.and_eq_true, decide_eq_true_eq, List.all_eq_true] at hp
      obtain ⟨hcon, hp⟩ := hp
      simp only at h
      split at h
      · rename_i hcl
        simp only [Option.map_eq_some_iff, Prod.mk.injEq] at h
        obtain ⟨xs, hx, rfl, _⟩ := h
        obtain ⟨l1, g1⟩ := mapM_some hx
        intro M ρ hR
        obtain ⟨_, hfl⟩ := contig_flat cells fs.toList 0 _ hcon
        rw [List.drop_zero, Nat.sub_zero, ← hcl, List.take_length] at hfl
        obtain ⟨ρ1, s1, hR1, hv1, hl1⟩ := mkAll_ok (xs.map fun x => x.1) (fs.toList.map fun f => (cells.drop f.offset).take (K.P.cellsOf f.type)) (by rw [List.length_map, List.length_map, l1]) (by
          intro j d c e1 e2
          rw [List.getElem?_map, Option.map_eq_some_iff] at e1 e2
          obtain ⟨x, hx1, rfl⟩ := e1
          obtain ⟨fd, hf1, rfl⟩ := e2
          exact trod_mk k m fd.type _ x.1 x.2 (g1 j fd x hf1 hx1) (hp fd (List.mem_iff_getElem?.2 ⟨j, hf1⟩))) M ρ hR
        rw [hfl] at hv1
        simp only [mk]
        exact ⟨ρ1, s1, hR1, hv1, hl1⟩
      · cases h
    · rename_i n e hu
      rw [hu] at h
      simp only [Bool.and_eq_true, decide_eq_true_eq] at hp
      obtain ⟨hcon, hp⟩ := hp
      simp only at h
      split at h
      · rename_i hcl
        simp only [Option.map_eq_some_iff, Prod.mk.injEq] at h
        obtain ⟨xs, hx, rfl, _⟩ := h
        obtain ⟨l1, g1⟩ := mapM_some hx
        intro M ρ hR
        have hfl := range_flat cells (K.P.cellsOf e) n
        rw [hcon, ← hcl, List.take_length] at hfl
        obtain ⟨ρ1, s1, hR1, hv1, hl1⟩ := mkAll_ok (xs.map fun x => x.1) ((List.range n).map fun i => (cells.drop (i * K.P.cellsOf e)).take (K.P.cellsOf e)) (by rw [List.length_map, List.length_map, l1]) (by
          intro j d c e1 e2
          rw [List.getElem?_map, Option.map_eq_some_iff] at e1 e2
          obtain ⟨x, hx1, rfl⟩ := e1
          obtain ⟨i, hi, rfl⟩ := e2
          exact trod_mk k m e _ x.1 x.2 (g1 j i x hi hx1) hp) M ρ hR
        rw [hfl] at hv1
        simp only [mk]
        exact ⟨ρ1, s1, hR1, hv1, hl1⟩
      · cases h
    · cases hp

end Go.Proofs.Am

/- From a run of the small machine to a call of the model's. -/
namespace Go.Proofs.Am
open Go Go.RowKit

def isAggT (P : Program) (t : TypeId) : Bool :=
  match P.underlying t with
  | some (.struct _) | some (.array _ _) => true
  | _ => false

/-- The arguments, and the memory that holds what they lead to. -/
def mkArgs {H : Type} (P : Program) : List TypeId → List (DataW H) → Mem → List Value × Mem
  | t :: ts, d :: ds, M =>
    let x := mk d M
    let y := mkArgs P ts ds x.2
    ((if isAggT P t then .agg ⟨x.1⟩ else x.1.getD 0 undef) :: y.1, y.2)
  | _, _, M => ([], M)

theorem arg_ok {K : Ctx} {H : Type} {enc : TypeId × Value → H} {w : World} {held : Bool} {m : Nat} {t : TypeId} {v : Value} {d : DataW H} {ps : List MemPlace} {base base' : Nat}
    (h : DataW.Trod enc K.P w base (fun _ => true) held t v d ps) (hp : plainT K.P m t = true) (hv : Value.okWide K.P w .any base' t v) {M : Mem} {ρ : Ren} (hR : Ro K ρ M w) :
    ∃ ρ', Sub ρ ρ' ∧ Ro K ρ' (mk d M).2 w ∧ VR ρ' (if isAggT K.P t then .agg ⟨(mk d M).1⟩ else (mk d M).1.getD 0 undef) v ∧ M.length ≤ (mk d M).2.length := by
  obtain ⟨k, hk⟩ := h
  obtain ⟨ρ', s1, h1, h2, h3⟩ := trod_mk k m t _ d ps hk hp M ρ hR
  refine ⟨ρ', s1, h1, ?_, h3⟩
  cases m with
  | zero => simp [plainT] at hp
  | succ m =>
    simp only [plainT] at hp
    have single : isAggT K.P t = false → v.cells.toList = [v] → VR ρ' (if isAggT K.P t then .agg ⟨(mk d M).1⟩ else (mk d M).1.getD 0 undef) v := by
      intro e1 e2
      rw [e2] at h2
      rw [e1]
      generalize (mk d M).1 = l at *
      cases h2 with
      | cons h t => cases t; exact h
    split at hp
    · rename_i hu
      refine single (by simp [isAggT, hu]) ?_
      cases v <;> simp [Value.okWide, Cell.okWide, Cell.ok, hu] at hv <;> rfl
    · rename_i kk hu
      refine single (by simp [isAggT, hu]) ?_
      cases v <;> simp [Value.okWide, Cell.okWide, Cell.ok, hu] at hv <;> rfl
    · rename_i hu
      refine single (by simp [isAggT, hu]) ?_
      cases v <;> simp [Value.okWide, Cell.okWide, Cell.ok, hu] at hv <;> rfl
    · rename_i e hu
      refine single (by simp [isAggT, hu]) ?_
      cases v <;> simp [Value.okWide, Cell.okWide, Cell.ok, hu] at hv <;> rfl
    · rename_i fs hu
      have e1 : isAggT K.P t = true := by simp [isAggT, hu]
      rw [e1]
      simp only [Value.okWide, hu] at hv
      obtain ⟨cs, rfl, _⟩ := hv
      exact .agg h2
    · rename_i n e hu
      have e1 : isAggT K.P t = true := by simp [isAggT, hu]
      rw [e1]
      simp only [Value.okWide, hu] at hv
      obtain ⟨cs, rfl, _⟩ := hv
      exact .agg h2
    · cases hp

theorem mkArgs_ok {K : Ctx} {H : Type} {enc : TypeId × Value → H} {w : World} {held : Bool} {m : Nat} {base base' : Nat} : ∀ (ts : List TypeId) (vs : List Value) (ds : List (DataW H)) (ps : List MemPlace),
    DataW.TrodAll enc K.P w base (fun _ => true) held ts vs ds ps → (ts.all fun t => plainT K.P m t) = true → (∀ (j : Nat) (t : TypeId) (v : Value), ts[j]? = some t → vs[j]? = some v → Value.okWide K.P w .any base' t v) →
    ∀ {M : Mem} {ρ : Ren}, Ro K ρ M w → ∃ ρ', Sub ρ ρ' ∧ Ro K ρ' (mkArgs K.P ts ds M).2 w ∧ VRL ρ' (mkArgs K.P ts ds M).1 vs
  | [], vs, ds, ps, h, _, _, M, ρ, hR => by
    obtain ⟨rfl, rfl, rfl⟩ := ChangeShapes.trodAll_nil h
    exact ⟨ρ, Sub.refl _, by simpa [mkArgs] using hR, by simp only [mkArgs]; exact .nil⟩
  | t :: ts, vs, ds, ps, h, hp, hv, M, ρ, hR => by
    obtain ⟨v, vs', d, ds', p, q, rfl, rfl, rfl, h1, h2⟩ := ChangeShapes.trodAll_cons h
    simp only [List.all_cons, Bool.and_eq_true] at hp
    obtain ⟨ρ1, s1, hR1, hv1, _⟩ := arg_ok h1 hp.1 (hv 0 t v rfl rfl) hR
    obtain ⟨ρ2, s2, hR2, hv2⟩ := mkArgs_ok ts vs' ds' q h2 hp.2 (fun j t' v' e e' => hv (j + 1) t' v' (by simpa using e) (by simpa using e')) hR1
    refine ⟨ρ2, s1.trans s2, by simpa only [mkArgs] using hR2, ?_⟩
    simp only [mkArgs]
    exact .cons (hv1.mono s2) hv2

/-- Where a law is called. -/
def ctxOf (P : Program) (w : World) : Ctx := { P := P, comp := cCode P, B := w.heap.size, w0 := w }

theorem Ro.start (P : Program) (w : World) : Ro (ctxOf P w) (fun _ => none) [] w where
  hr := ⟨fun b blk A s N e => by simp at e, fun b b' A s s' _ e => by simp at e, fun b A s e => by simp at e, Below.refl _ _, Nat.le_refl _⟩
  free _ _ := rfl
  now b hw := by obtain ⟨blk, e, _⟩ := hw; simp at e

end Go.Proofs.Am

/- A law's call, by a run of the small machine; functions that are run once for all. -/
namespace Go.Proofs.Am
open Go Go.RowKit

/-- Every function, by its own text. -/
def T0 (P : Program) : Tbl := fun f => match P.funcs[f]? with
  | some fn => match cFunc P fn with
    | some c => some (.code c)
    | none => none
  | none => none

theorem T0_ok (K : Ctx) : TblOK K (T0 K.P) where
  code f c h := by
    unfold T0 at h
    split at h
    · rename_i fn hfn
      split at h
      · rename_i c' hc; cases h; exact ⟨fn, hfn, hc⟩
      · cases h
    · cases h
  prim f F h := by
    unfold T0 at h
    split at h
    · split at h <;> cases h
    · cases h

theorem T0_code {P : Program} {f : FuncId} {fn : Func} {c : AFunc} (h : P.funcs[f]? = some fn) (hc : cFunc P fn = some c) : T0 P f = some (.code c) := by
  simp only [T0, h, hc]

/-- A function that is called with nothing, and whose answer is known. -/
def closed (v : Value) : List Value → Mem → Option (Value × Mem) := fun args H => if args.isEmpty then some (v, H) else none

theorem VR_ground {ρ ρ' : Ren} {v v' : Value} (hg : ground v = true) (h : VR ρ v v') : VR ρ' v v' := by
  have := ground_VR hg ρ'
  cases h <;> simp_all [ground]
  all_goals first | assumption | constructor

/-- A step that began with nothing is a step beside whatever there is. -/
theorem Stp.beside {K : Ctx} {ρ ρ1 : Ren} {H H1 : Mem} {w w1 : World} (h : Stp K (fun _ => none) [] w ρ1 H1 w1) (hr : HR K ρ H w) : Stp K ρ H w ρ H w1 := by
  have same : ∀ A, A < w.heap.size → w1.heap[A]? = w.heap[A]? := fun A hA => h.fr A hA fun b s e => by cases e
  exact {
    ext := fun _ _ => rfl
    hr := ⟨fun b blk A s N e r => (hr.blk b blk A s N e r).world (same A (hr.lt b A _ r)), hr.inj, fun b A s r => Nat.lt_of_lt_of_le (hr.lt b A s r) h.wlen, h.hr.below, h.hr.base⟩
    fr := fun A hA _ => same A hA
    afr := fun _ _ _ => rfl
    wr := fun _ _ h => h
    len := Nat.le_refl _
    wlen := h.wlen
    img := fun b A s e k => .inr ⟨b, s, e, k⟩
    new := fun b A s e => .inl e }

theorem closed_ok {K : Ctx} (hK : K.comp = cCode K.P) (hmo : Tables.follows K.P.toTables Departure.mixedOrders = true) {T : Tbl} (hT : TblOK K T) {f : FuncId} {v : Value} (hg : ground v = true)
    (hrun : ∃ n H', inv T n (.fn f) [] [] = some (.ok v, H')) : PrimOK K f (closed v) := by
  intro args H v1 H1 h
  unfold closed at h
  split at h
  · rename_i he
    simp only [Option.some.injEq, Prod.mk.injEq] at h
    obtain ⟨rfl, rfl⟩ := h
    refine ⟨Nat.le_refl _, fun ρ w args' hr hargs _ => ?_⟩
    have : args = [] := by simpa using he
    subst this
    cases hargs
    obtain ⟨n, H', hn⟩ := hrun
    have h0 : HR K (fun _ => none) [] w := ⟨fun b blk A s N e => by simp at e, fun b b' A s s' _ e => by simp at e, fun b A s e => by simp at e, hr.below, hr.base⟩
    obtain ⟨hfn, hc⟩ := (inv_ok hK hmo hT n _ _ _ _ _ hn).2 (fun _ => none) w [] h0 .nil (fun _ _ _ => rfl)
    refine ⟨hfn, hc.mono ?_⟩
    rintro e w' ⟨ρ', hst, v', rfl, hv⟩
    exact ⟨ρ, hst.beside hr, v', rfl, VR_ground hg hv⟩
  · cases h

/-- Some functions of a table are answered by laws of their own. -/
def with1 (T : Tbl) (f : FuncId) (F : List Value → Mem → Option (Value × Mem)) : Tbl := fun g => if g = f then some (.prim F) else T g

theorem with1_ok {K : Ctx} {T : Tbl} (hT : TblOK K T) {f : FuncId} {F} (hF : PrimOK K f F) : TblOK K (with1 T f F) where
  code g c h := by
    unfold with1 at h
    split at h
    · cases h
    · exact hT.code g c h
  prim g F' h := by
    unfold with1 at h
    split at h
    · rename_i e; cases h; subst e; exact hF
    · exact hT.prim g F' h

/-- A law's call. -/
theorem law_calls {P : Program} {T : Tbl} {f : FuncId} (hmo : Tables.follows P.toTables Departure.mixedOrders = true) (hT : ∀ w, TblOK (ctxOf P w) T) {H : Type} {enc : TypeId × Value → H} {w : World} {held : Bool} {m base base' : Nat}
    {ts : List TypeId} {vs : List Value} {ds : List (DataW H)} {ps : List MemPlace} (h : DataW.TrodAll enc P w base (fun _ => true) held ts vs ds ps) (hp : (ts.all fun t => plainT P m t) = true)
    (hv : ∀ (j : Nat) (t : TypeId) (v : Value), ts[j]? = some t → vs[j]? = some v → Value.okWide P w .any base' t v) (hrun : Ev T (.fn f) (mkArgs P ts ds []).1 (mkArgs P ts ds []).2 fun r _ => r = .ok (.bool true)) :
    Calls P f ⟨vs⟩ w fun e w' => e = .returned (.bool true) ∧ Below w.heap.size w w' := by
  obtain ⟨ρ, _, hR, hvs⟩ := mkArgs_ok (K := ctxOf P w) ts vs ds ps h hp hv (Ro.start P w)
  obtain ⟨n, r, H', hn, rfl⟩ := hrun
  obtain ⟨_, hc⟩ := (inv_ok (K := ctxOf P w) rfl hmo (hT w) n _ _ _ _ _ hn).2 ρ w vs hR.hr hvs (fun b hb _ => hR.free b hb)
  refine (callsIn_wide.1 hc).mono ?_
  rintro e w' ⟨ρ', hst, v', rfl, hv⟩
  cases hv
  exact ⟨rfl, hst.hr.below⟩

end Go.Proofs.Am

/- What was read behind the call: as ahead of it. -/
namespace Go.Proofs.Am
open Go Go.RowKit Go.ChangeShapes Go.WideShapes Go.ChangeAt

theorem below_all {P : Program} (laidOut : laidOutB P = true) {H : Type} {enc : TypeId × Value → H} {W W' : World} (bel : Below W.heap.size W W') : ∀ (ts : List TypeId) (vs : List Value) (ds : List (DataW H)) (ps : List MemPlace), (ts.all fun t => P.readableRec t && decide (t < P.types.size)) = true →
    DataW.TrodAll enc P W 0 (fun _ => true) true ts vs ds ps → DataW.TrodAll enc P W' 0 (fun b => decide (b < W.heap.size)) true ts vs ds ps
  | [], vs, ds, ps, _, h => by
    obtain ⟨rfl, rfl, rfl⟩ := trodAll_nil h
    exact trodAll_mk0
  | t :: ts, vs, ds, ps, hr, h => by
    obtain ⟨v, vs', d, ds', p, q, rfl, rfl, rfl, h1, h2⟩ := trodAll_cons h
    simp only [List.all_cons, Bool.and_eq_true, decide_eq_true_eq] at hr
    refine trodAll_cons_mk (Below.trod laidOut hr.1.1 hr.1.2 h1 bel ?_) (below_all laidOut bel ts vs' ds' q hr.2 h2)
    obtain ⟨m, hm⟩ := h1
    exact DataW.trod_lt m _ _ _ hm

end Go.Proofs.Am

/- Frames and small steps, for simp. -/
namespace Go.Proofs.Am
open Go Go.RowKit

/-- Bytes by their numbers. -/
def bs (l : List Nat) : ByteArray := ⟨⟨l.map UInt8.ofNat⟩⟩

/-- What a place of a frame holds. -/
abbrev g (fr : List Value) (n : Nat) : Value := fr.getD n undef

theorem put_none (fr : List Value) (v : Value) : put fr none v = fr := rfl
theorem put_len (fr : List Value) (d : Option Nat) (v : Value) : (put fr d v).length = fr.length := put_length fr d v
theorem g_put (fr : List Value) (d : Nat) (v : Value) (t : Nat) : (put fr (some d) v).getD t undef = if t = d then (if d < fr.length then v else undef) else fr.getD t undef := by
  rw [List.getD_eq_getElem?_getD, put_get]
  by_cases h : t = d
  · subst h
    rw [if_pos rfl, if_pos rfl]; split <;> rfl
  · rw [if_neg (fun e => h (by cases e; rfl)), if_neg h, List.getD_eq_getElem?_getD]

theorem W_region_cons {T : Tbl} {all ops : List AOper} {o : AOper} {fr : List Value} {H : Mem} {Q} : WO T all (o :: ops) fr H Q =
    match wantedA all fr o with
    | some true =>
      match aop o.op (ev fr) H with
      | some (.val v, H') => WO T all ops (put fr o.dst v) H' Q
      | some (.panic v, H') => Q (.panic v) fr H'
      | some (.enter g args, H') => Ev T g args H' fun r H'' =>
        match r with
        | .ok v => WO T all ops (put fr o.dst v) H'' Q
        | .error v => Q (.panic v) fr H''
      | none => False
    | some false => WO T all ops (put fr o.dst undef) H Q
    | none => False := rfl

/-- An operation without a guard, that comes to a value. -/
theorem WO.val {T : Tbl} {all ops : List AOper} {d : Option Nat} {op : AOp} {fr : List Value} {H H' : Mem} {Q} {v : Value} (h : aop op (ev fr) H = some (.val v, H')) (k : WO T all ops (put fr d v) H' Q) : WO T all (⟨d, op, none⟩ :: ops) fr H Q := by
  rw [W_region_cons]
  simp only [wantedA, h]; exact k

theorem wantedA_guard {all : List AOper} {fr : List Value} {d : Option Nat} {op : AOp} {j : Nat} {b : Bool} {dj : Nat} {c : Bool} (h1 : (all[j]?).bind (·.dst) = some dj) (h2 : fr[dj]? = some (.bool c)) : wantedA all fr ⟨d, op, some (j, b)⟩ = some (c == b) := by
  simp only [wantedA, h1, h2]

theorem get_of_g {fr : List Value} {d : Nat} {v : Value} (hl : d < fr.length) (h : fr.getD d undef = v) : fr[d]? = some v := by
  rw [List.getD_eq_getElem?_getD] at h
  rw [List.getElem?_eq_getElem hl] at h ⊢
  simpa using h

end Go.Proofs.Am

/- What the cells of an input are. -/
namespace Go.Proofs.Am
open Go Go.RowKit

/-- What may not be written stays. -/
def Keeps (M M' : Mem) : Prop := ∀ (b : Nat) (CS : List Value), M[b]? = some (Blk.cells CS 0 true) → M'[b]? = some (Blk.cells CS 0 true)

theorem Keeps.refl (M : Mem) : Keeps M M := fun _ _ h => h
theorem Keeps.trans {M M1 M2 : Mem} (h : Keeps M M1) (k : Keeps M1 M2) : Keeps M M2 := fun b CS e => k b CS (h b CS e)
theorem Keeps.append (M X : Mem) : Keeps M (M ++ X) := fun _ _ h => get_mono h

/-- What a cell of an input may be. -/
inductive TD where
  | int (k : IntKind)
  | bool
  | str
  | slice (e : List TD)

inductive CellOK (M : Mem) : TD → Value → Prop
  | int (k : IntKind) (n : Int) (h : k.min ≤ n ∧ n ≤ k.max) : CellOK M (.int k) (.int k n)
  | bool (b : Bool) : CellOK M .bool (.bool b)
  | str (s : ByteArray) (h : s.size ≤ reachBytes) : CellOK M .str (.string s)
  | nil (e : List TD) : CellOK M (.slice e) (.slice none 0 0)
  | slice {e : List TD} {b n c : Nat} {CS : List Value} (hn : n ≤ c) (hc : c ≤ reachBytes) (hb : M[b]? = some (.cells CS 0 true)) (hl : CS.length = c * e.length)
      (h : ∀ (i j : Nat) (td : TD) (v : Value), i < c → e[j]? = some td → CS[i * e.length + j]? = some v → CellOK M td v) : CellOK M (.slice e) (.slice (some ⟨b, 0, none⟩) n c)

theorem CellOK.mono {M : Mem} {td : TD} {v : Value} (h : CellOK M td v) (M' : Mem) (hm : Keeps M M') : CellOK M' td v := by
  induction h with
  | int k n h => exact .int k n h
  | bool b => exact .bool b
  | str s h => exact .str s h
  | nil e => exact .nil e
  | slice hn hc hb hl h ih => exact .slice hn hc (hm _ _ hb) hl ih

/-- Cells, each as it may be. -/
def CellsOK (M : Mem) (tds : List TD) (cs : List Value) : Prop := cs.length = tds.length ∧ ∀ (j : Nat) (td : TD) (v : Value), tds[j]? = some td → cs[j]? = some v → CellOK M td v

theorem CellsOK.append {M : Mem} {t1 t2 : List TD} {c1 c2 : List Value} (h1 : CellsOK M t1 c1) (h2 : CellsOK M t2 c2) : CellsOK M (t1 ++ t2) (c1 ++ c2) := by
  refine ⟨by simp [h1.1, h2.1], fun j td v e1 e2 => ?_⟩
  by_cases hj : j < t1.length
  · rw [List.getElem?_append_left hj] at e1
    rw [List.getElem?_append_left (by rw [h1.1]; exact hj)] at e2
    exact h1.2 j td v e1 e2
  · rw [List.getElem?_append_right (by omega)] at e1
    rw [List.getElem?_append_right (by rw [h1.1]; omega)] at e2
    rw [h1.1] at e2
    exact h2.2 _ td v e1 e2

/-- The cells of a type. -/
def tds (P : Program) : Nat → TypeId → Option (List TD)
  | 0, _ => none
  | m + 1, t =>
    match P.underlying t with
    | some .bool => some [.bool]
    | some (.int k) => some [.int k]
    | some .string => some [.str]
    | some (.slice e) => if 0 < P.bytesOf e then (tds P m e).map fun l => [.slice l] else none
    | some (.struct fs) => (fs.toList.mapM fun f => tds P m f.type).map List.flatten
    | some (.array n e) => (tds P m e).map fun l => (List.replicate n l).flatten
    | _ => none

/-- What a reading leaves in memory. -/
def Fits {H : Type} (l : List TD) (d : DataW H) : Prop := ∀ M, M.length ≤ (mk d M).2.length ∧ (∀ b, b < M.length → (mk d M).2[b]? = M[b]?) ∧ ∀ M', Keeps (mk d M).2 M' → CellsOK M' l (mk d M).1

theorem mkAll_fits {H : Type} : ∀ (ds : List (DataW H)) (ls : List (List TD)), ds.length = ls.length → (∀ (j : Nat) (d : DataW H) (l : List TD), ds[j]? = some d → ls[j]? = some l → Fits l d) →
    ∀ M, M.length ≤ (mkAll ds M).2.length ∧ (∀ b, b < M.length → (mkAll ds M).2[b]? = M[b]?) ∧ ∀ M', Keeps (mkAll ds M).2 M' → CellsOK M' ls.flatten (mkAll ds M).1
  | [], [], _, _, M => ⟨by simp [mkAll], fun b _ => by simp [mkAll], fun M' _ => ⟨by simp [mkAll], fun j td v e => by simp at e⟩⟩
  | [], _ :: _, h, _, _ => by simp at h
  | _ :: _, [], h, _, _ => by simp at h
  | d :: ds, l :: ls, hl, hk, M => by
    obtain ⟨a1, a2, a3⟩ := hk 0 d l rfl rfl M
    obtain ⟨b1, b2, b3⟩ := mkAll_fits ds ls (by simpa using hl) (fun j d' l' e e' => hk (j + 1) d' l' (by simpa using e) (by simpa using e')) (mk d M).2
    refine ⟨by simp only [mkAll]; omega, fun b hb => by simp only [mkAll]; rw [b2 b (by omega), a2 b hb], fun M' hM => ?_⟩
    simp only [mkAll, List.flatten_cons] at hM ⊢
    refine CellsOK.append (a3 M' fun b CS e => hM b CS ?_) (b3 M' hM)
    rw [b2 b (List.getElem?_eq_some_iff.1 e).1]; exact e

theorem cells_flat {M : Mem} {l : List TD} {c : Nat} {CS : List Value} (h : CellsOK M (List.replicate c l).flatten CS) : CS.length = c * l.length ∧ ∀ (i j : Nat) (td : TD) (v : Value), i < c → l[j]? = some td → CS[i * l.length + j]? = some v → CellOK M td v := by
  have key : ∀ (c i j : Nat), i < c → j < l.length → (List.replicate c l).flatten[i * l.length + j]? = l[j]? := by
    intro c
    induction c with
    | zero => intro i j h; omega
    | succ c ih =>
      intro i j hi hj
      rw [List.replicate_succ, List.flatten_cons]
      cases i with
      | zero => rw [Nat.zero_mul, Nat.zero_add, List.getElem?_append_left hj]
      | succ i =>
        rw [List.getElem?_append_right (by rw [Nat.add_mul]; omega), show (i + 1) * l.length + j - l.length = i * l.length + j from by rw [Nat.add_mul]; omega]
        exact ih i j (by omega) hj
  refine ⟨by rw [h.1]; simp, fun i j td v hi e e' => h.2 _ td v ?_ e'⟩
  rw [key c i j hi (List.getElem?_eq_some_iff.1 e).1]; exact e

theorem weightsAll_mem {H : Type} {P : Program} {e : TypeId} {p : Nat → Bool} : ∀ {ds : List (DataW H)}, (DataW.weightsAll P e ds).all p = true → ∀ d, d ∈ ds → (d.weights P e).all p = true
  | [], _, d, h => by simp at h
  | x :: r, hp, d, h => by
    simp only [DataW.weightsAll, List.all_append, Bool.and_eq_true] at hp
    rcases List.mem_cons.1 h with rfl | h
    · exact hp.1
    · exact weightsAll_mem hp.2 d h

theorem weightsEach_get {H : Type} {P : Program} {p : Nat → Bool} : ∀ {ts : List TypeId} {ds : List (DataW H)}, (DataW.weightsEach P ts ds).all p = true → ∀ (j : Nat) (t : TypeId) (d : DataW H), ts[j]? = some t → ds[j]? = some d → (d.weights P t).all p = true
  | [], _, _, j, t, d, e, _ => by simp at e
  | _ :: _, [], _, j, t, d, _, e => by simp at e
  | t :: ts, x :: r, hp, j, t', d, e1, e2 => by
    simp only [DataW.weightsEach, List.all_append, Bool.and_eq_true] at hp
    cases j with
    | zero => simp at e1 e2; subst e1; subst e2; exact hp.1
    | succ j => exact weightsEach_get hp.2 j t' d (by simpa using e1) (by simpa using e2)

theorem trod_fits {H : Type} {enc : TypeId × Value → H} {P : Program} {w : World} {base : Nat} {held : Bool} : ∀ (k m : Nat) (t : TypeId) (cells : List Value) (d : DataW H) (ps : List MemPlace) (l : List TD),
    DataW.trod enc P w base (fun _ => true) held k t cells = some (d, ps) → tds P m t = some l → (d.weights P t).all (fun x => decide (x ≤ reachBytes)) = true → Fits l d
  | 0, _, _, _, _, _, _, h, _, _ => by simp [DataW.trod] at h
  | k + 1, 0, _, _, _, _, _, _, hp, _ => by simp [tds] at hp
  | k + 1, m + 1, t, cells, d, ps, l, h, hp, hw => by
    have atom : ∀ (v : Value) (td : TD), (∀ M, CellOK M td v) → (∀ M, mk d M = ([v], M)) → l = [td] → Fits l d := by
      rintro v td hv hmk rfl M
      rw [hmk]
      refine ⟨Nat.le_refl _, fun b _ => rfl, fun M' _ => ⟨rfl, fun j td' v' e e' => ?_⟩⟩
      cases j with
      | zero => simp at e e'; subst e; subst e'; exact hv M'
      | succ j => simp at e
    unfold DataW.trod at h
    simp only [tds] at hp
    split at hp
    · rename_i hu
      rw [hu] at h
      simp only at h
      split at h <;> first | (cases h; done) | skip
      all_goals first | (rename_i h1; cases h1; done) | skip
      rename_i b _
      simp only [Option.some.injEq, Prod.mk.injEq] at h hp
      obtain ⟨rfl, _⟩ := h
      exact atom (.bool b) .bool (fun _ => .bool b) (fun M => by simp [mk]) hp.symm
    · rename_i kk hu
      rw [hu] at h
      simp only at h
      split at h <;> first | (cases h; done) | skip
      all_goals first | (rename_i h1; cases h1; done) | skip
      rename_i k1 k' n he
      cases he
      split at h
      · rename_i hk
        obtain ⟨rfl, hwf⟩ := hk
        simp only [Lit.wf, Bool.and_eq_true, decide_eq_true_eq] at hwf
        simp only [Option.some.injEq, Prod.mk.injEq] at h hp
        obtain ⟨rfl, _⟩ := h
        exact atom (.int k' n) (.int k') (fun _ => .int k' n hwf) (fun M => by simp [mk]) hp.symm
      · cases h
    · rename_i hu
      rw [hu] at h
      simp only at h
      split at h <;> first | (cases h; done) | skip
      all_goals first | (rename_i h1; cases h1; done) | skip
      rename_i s _
      split at h
      · rename_i hsz
        simp only [Option.some.injEq, Prod.mk.injEq] at h hp
        obtain ⟨rfl, _⟩ := h
        simp only [DataW.weights, List.all_cons, List.all_nil, Bool.and_true, decide_eq_true_eq] at hw
        have hsz : s.size ≤ reachBytes := hw
        exact atom (.string s) .str (fun _ => .str s hsz) (fun M => by simp [mk, byteArray_eta]) hp.symm
      · cases h
    · rename_i e hu
      rw [hu] at h
      split at hp
      rotate_left
      · cases hp
      rename_i hbytes
      simp only [Option.map_eq_some_iff] at hp
      obtain ⟨le, hle, rfl⟩ := hp
      simp only at h
      split at h <;> first | (cases h; done) | skip
      all_goals first | (rename_i h1; cases h1; done) | skip
      · simp only [Option.some.injEq, Prod.mk.injEq] at h
        obtain ⟨rfl, _⟩ := h
        exact atom (.slice none 0 0) (.slice le) (fun _ => .nil le) (fun M => by simp [mk]) rfl
      · rename_i e' a len cap he
        cases he
        simp only [if_true] at h
        split at h
        · rename_i hb
          obtain ⟨_, hlc, hcap⟩ := hb
          simp only [Option.bind_eq_some_iff, Option.map_eq_some_iff, Prod.mk.injEq] at h
          obtain ⟨elems, he1, rest, hr1, rfl, _⟩ := h
          obtain ⟨l1, g1⟩ := mapM_some he1
          obtain ⟨l2, g2⟩ := mapM_some hr1
          simp at l1 l2
          simp only [DataW.weights, hu, List.all_cons, List.all_append, Bool.and_eq_true, decide_eq_true_eq, List.length_map] at hw
          obtain ⟨hw1, hw2, hw3⟩ := hw
          have hcr : cap ≤ reachBytes := by
            have : elems.length + rest.length ≤ (elems.length + rest.length) * P.bytesOf e := Nat.le_mul_of_pos_right _ hbytes
            omega
          have hwx : ∀ (x : DataW H × List MemPlace), x ∈ elems ++ rest → (x.1.weights P e).all (fun y => decide (y ≤ reachBytes)) = true := by
            intro x hx
            rcases List.mem_append.1 hx with hx | hx
            · exact weightsAll_mem hw2 x.1 (List.mem_map.2 ⟨x, hx, rfl⟩)
            · exact weightsAll_mem hw3 x.1 (List.mem_map.2 ⟨x, hx, rfl⟩)
          have elem : ∀ (x : DataW H × List MemPlace), x ∈ elems ++ rest → Fits le x.1 := by
            intro x hx0
            have hx := hx0
            have key : ∀ i, ((w.cells? base (a.add (i * P.cellsOf e)) (P.cellsOf e)).bind (DataW.trod enc P w base (fun _ => true) held k e)) = some x → Fits le x.1 := by
              intro i hx
              simp only [Option.bind_eq_some_iff] at hx
              obtain ⟨c, hc, ht⟩ := hx
              exact trod_fits k m e c x.1 x.2 le ht hle (hwx x hx0)
            rcases List.mem_append.1 hx with hx | hx
            · obtain ⟨i, hi⟩ := List.mem_iff_getElem?.1 hx
              have hil := (List.getElem?_eq_some_iff.1 hi).1
              exact key _ (g1 i i x (List.getElem?_range (by omega)) hi)
            · obtain ⟨i, hi⟩ := List.mem_iff_getElem?.1 hx
              have hil := (List.getElem?_eq_some_iff.1 hi).1
              exact key _ (g2 i i x (List.getElem?_range (by omega)) hi)
          intro M
          have hmk : mk (DataW.slice (elems.map fun x => x.1) (rest.map fun x => x.1)) M = ([.slice (some ⟨(mkAll ((elems ++ rest).map fun x => x.1) M).2.length, 0, none⟩) len cap], (mkAll ((elems ++ rest).map fun x => x.1) M).2 ++ [.cells (mkAll ((elems ++ rest).map fun x => x.1) M).1 0 true]) := by
            rw [List.map_append, mkAll_append]
            simp only [mk, List.length_map, ← l1, ← l2]
            rw [show len + (cap - len) = cap from by omega]
          have hlen : ((elems ++ rest).map fun x => x.1).length = (List.replicate cap le).length := by
            rw [List.length_map, List.length_append, List.length_replicate]; omega
          obtain ⟨b1, b2, b3⟩ := mkAll_fits ((elems ++ rest).map fun x => x.1) (List.replicate cap le) hlen (by
            intro j d l' e1 e2
            rw [List.getElem?_map, Option.map_eq_some_iff] at e1
            obtain ⟨x, hx, rfl⟩ := e1
            have := List.mem_replicate.1 (List.mem_iff_getElem?.2 ⟨j, e2⟩)
            rw [this.2]
            exact elem x (List.mem_iff_getElem?.2 ⟨j, hx⟩)) M
          rw [hmk]
          refine ⟨by rw [List.length_append]; exact Nat.le_trans b1 (Nat.le_add_right _ _), fun b hb => ?_, fun M' hM => ⟨rfl, fun j td v e1 e2 => ?_⟩⟩
          · rw [List.getElem?_append_left (by omega)]; exact b2 b hb
          · cases j with
            | succ j => simp at e1
            | zero =>
              simp at e1 e2; subst e1; subst e2
              obtain ⟨c1, c2⟩ := cells_flat (b3 M' fun b CS e => hM b CS (get_mono e))
              exact .slice hlc hcr (hM _ _ (by simp)) c1 c2
        · cases h
    · rename_i fs hu
      rw [hu] at h
      simp only [Option.map_eq_some_iff] at hp
      obtain ⟨ls, hls, rfl⟩ := hp
      simp only at h
      split at h
      · simp only [Option.map_eq_some_iff, Prod.mk.injEq] at h
        obtain ⟨xs, hx, rfl, _⟩ := h
        obtain ⟨l1, g1⟩ := mapM_some hx
        obtain ⟨l2, g2⟩ := mapM_some hls
        intro M
        simp only [mk]
        refine mkAll_fits _ ls (by rw [List.length_map, ← l1, l2]) (fun j d l' e1 e2 => ?_) M
        rw [List.getElem?_map, Option.map_eq_some_iff] at e1
        obtain ⟨x, hx1, rfl⟩ := e1
        have hjl := (List.getElem?_eq_some_iff.1 hx1).1
        have hf := List.getElem?_eq_getElem (l := fs.toList) (i := j) (by omega)
        simp only [DataW.weights, hu] at hw
        exact trod_fits k m _ _ x.1 x.2 l' (g1 j _ x hf hx1) (g2 j _ l' hf e2) (weightsEach_get hw j _ x.1 (by rw [List.getElem?_map, hf]; rfl) (by rw [List.getElem?_map, hx1]; rfl))
      · cases h
    · rename_i n e hu
      rw [hu] at h
      simp only [Option.map_eq_some_iff] at hp
      obtain ⟨le, hle, rfl⟩ := hp
      simp only at h
      split at h
      · simp only [Option.map_eq_some_iff, Prod.mk.injEq] at h
        obtain ⟨xs, hx, rfl, _⟩ := h
        obtain ⟨l1, g1⟩ := mapM_some hx
        simp at l1
        intro M
        simp only [mk]
        refine mkAll_fits _ _ (by rw [List.length_map, ← l1, List.length_replicate]) (fun j d l' e1 e2 => ?_) M
        rw [List.getElem?_map, Option.map_eq_some_iff] at e1
        obtain ⟨x, hx1, rfl⟩ := e1
        have hjl := (List.getElem?_eq_some_iff.1 hx1).1
        have := List.mem_replicate.1 (List.mem_iff_getElem?.2 ⟨j, e2⟩)
        rw [this.2]
        simp only [DataW.weights, hu] at hw
        exact trod_fits k m e _ x.1 x.2 le (g1 j j x (List.getElem?_range (by omega)) hx1) hle (weightsAll_mem hw x.1 (List.mem_map.2 ⟨x, List.mem_iff_getElem?.2 ⟨j, hx1⟩, rfl⟩))
      · cases h
    · cases hp

end Go.Proofs.Am
