/- HistoryTwice holds: for every input the call returns true, and each argument reads afterwards as it read before. Conditions: none but the row's own. -/
import Derived.Test.YtcpadbcapeiicaaGreatShown
import Derived.Test.YtcpadbcapeiicaaGreatRows
import Derived.WalkKit
import Derived.ProofKit
import Derived.OpenShut
import Derived.ShutString
import Derived.ChangeOld
import Derived.Below
import Derived.SizedLaws
set_option linter.unusedVariables false
set_option linter.unusedSimpArgs false
namespace Go.Proofs.YtcpadbcapeiicaaGreat
open Go.ChangeShapes Go.WideShapes Go.ChangeAt Go.RowKit
open Go.ChangeMaps (open_string shut_string)
open Go.Proofs.Am

theorem own : ownKnob Tryz.prog.godebug = none := by kernel_rfl
theorem laidOut : laidOutB Tryz.prog = true := by kernel_rfl
theorem mixed : Tables.follows Tryz.prog.toTables Departure.mixedOrders = true := by kernel_rfl

/-- The seat's table. -/
noncomputable def tab : Tbl := with1 (T0 Tryz.prog) 7 (closed (.bool true))
theorem tab_tb : Tb tab := fun f h => by simp [tab, with1, h]
theorem tab_7 : tab 7 = some (.prim (closed (.bool true))) := by simp [tab, with1]
theorem tab_ok (w : World) : TblOK (ctxOf Tryz.prog w) tab :=
  with1_ok (T0_ok _) (closed_ok (K := ctxOf Tryz.prog w) rfl mixed (T0_ok _) (by rfl) shown_run)

namespace historyTwice

theorem run {H : Type} (ds : List (DataW H)) {enc : TypeId × Value → H} {W : World} {vs : List Value} {ps} (h : DataW.TrodAll enc Tryz.prog W 0 (fun _ => true) true Tryz.f3.params.toList vs ds ps)
    (hw : (DataW.weightsEach Tryz.prog Tryz.f3.params.toList ds).all (fun x => decide (x ≤ reachBytes)) = true) :
    Ev tab (.fn 3) (mkArgs Tryz.prog Tryz.f3.params.toList ds []).1 (mkArgs Tryz.prog Tryz.f3.params.toList ds []).2 fun r _ => r = .ok (.bool true) := by
  obtain ⟨_, _, pargs, h1, h2, h3⟩ := Pm.args_ok (m := 8) _ _ ds _ [callsTD, logTD, .int .u8, .int .u8] h (by kernel_rfl) (by
    rw [Tryz.params3]
    intro j t td e1 e2
    match j with
    | 0 => simp at e1 e2; subst e1; subst e2; exact ⟨by kernel_rfl, by kernel_rfl⟩
    | 1 => simp at e1 e2; subst e1; subst e2; exact ⟨by kernel_rfl, by kernel_rfl⟩
    | 2 => simp at e1 e2; subst e1; subst e2; exact ⟨by kernel_rfl, by kernel_rfl⟩
    | 3 => simp at e1 e2; subst e1; subst e2; exact ⟨by kernel_rfl, by kernel_rfl⟩
    | j + 4 => simp at e1) (fun j t d e1 e2 => weightsEach_get hw j t d e1 e2) []
  match pargs, h1 with
  | [p0, p1, p2, p3], _ =>
    obtain ⟨l, rfl, hs⟩ := ty_calls (h2 0 _ p0 rfl rfl)
    obtain ⟨log, rfl, hl, hi⟩ := ty_log (h2 1 _ p1 rfl rfl)
    obtain ⟨a, rfl, ha⟩ := (h2 2 _ p2 rfl rfl).int_inv
    obtain ⟨b, rfl, hb⟩ := (h2 3 _ p3 rfl rfl).int_inv
    have e1 : IntKind.min .u8 = 0 := by decide
    have e2 : IntKind.max .u8 = 255 := by decide
    rw [e1, e2] at ha hb
    exact Pm.law_start h3 (law_twice tab_tb tab_7 l hs log hl hi a b ha hb)

set_option maxRecDepth 100000 in
theorem lifted (os : Os) (started : os.Started) (H : Type) (enc : TypeId × Value → H) :
    ReturnsInHanded {} Tryz.checked os 3 .any (Rows.historyTwiceSpec.pre6 enc Tryz.prog Tryz.f3 Rows.historyTwiceRow.domain false) (Rows.historyTwiceSpec.post enc Tryz.prog Tryz.f3 false true false false) := by
  refine returnsInHanded_of_change_sized (C := Tryz.checked) own started (by kernel_rfl) Tryz.func3
    (ChangeSpec.witness6 (enc := enc) (C := Tryz.checked) false ⟨#[], #[.slice none 0 0, .slice none 0 0, .int .u8 0, .int .u8 0], []⟩ 8 (by kernel_rfl) (by kernel_rfl) (by kernel_rfl) (by kernel_rfl)) ?_
  intro W base args ds gs before hval0 hW hcnd hsz0 _
  have hval : ∀ (j : Nat) t v, Tryz.f3.params.toList[j]? = some t → args.toList[j]? = some v → Value.okWide Tryz.prog W .any base t v := fun j t v e1 e2 => hval0 j t v (by simpa using e1) (by simpa using e2)
  have hW' := hW
  obtain ⟨p, q, hA0, hV, rfl, hfz, hnd⟩ := hW
  have hA : DataW.TrodAll enc Tryz.prog W 0 (fun _ => true) true Tryz.f3.params.toList args.toList ds p := hA0
  obtain ⟨rfl, rfl⟩ := trodVars_none hV
  have hsz : (DataW.weightsEach Tryz.prog Tryz.f3.params.toList ds).all (fun x => decide (x ≤ reachBytes)) = true := by
    have e : Rows.historyTwiceSpec.plain.varTypes Tryz.prog = [] := by kernel_rfl
    have e2 : (DataW.weightsEach Tryz.prog (Tryz.f3.params.toList ++ []) (ds ++ [])).all (fun x => decide (x ≤ reachBytes)) = true := by rw [← e]; exact hsz0
    simpa using e2
  have hcall := law_calls (P := Tryz.prog) (T := tab) (f := 3) mixed (fun w => tab_ok w) (m := 8) hA (by kernel_rfl) hval (run ds hA hsz)
  refine hcall.mono fun e W' ⟨he, bel⟩ => ?_
  subst he
  have hback := below_all laidOut bel _ _ _ _ (by kernel_rfl) hA
  rw [Tryz.params3] at hA hback
  obtain ⟨v0, vs0, d0, ds0, p0, q0, hargs, rfl, rfl, h0, r0⟩ := trodAll_cons hA
  obtain ⟨v1, vs1, d1, ds1, p1, q1, rfl, rfl, rfl, h1, r1⟩ := trodAll_cons r0
  obtain ⟨v2, vs2, d2, ds2, p2, q2, rfl, rfl, rfl, h2, r2⟩ := trodAll_cons r1
  obtain ⟨v3, vs3, d3, ds3, p3, q3, rfl, rfl, rfl, h3, r3⟩ := trodAll_cons r2
  obtain ⟨rfl, rfl, rfl⟩ := trodAll_nil r3
  exact ⟨_, rfl, _, _, _, [], _, [], hW', trodAll_mk1 (shut_bool Tryz.underlying4 _), hback, rfl, bel.frame _, fun h => by cases h⟩
theorem over : Rows.historyTwiceRow.holds Tryz.pinned (OpenSpec.ofChange Rows.historyTwiceSpec) :=
  OpenClaim.holds_of_wide 3 Tryz.f3 rfl rfl rfl rfl rfl rfl rfl ⟨rfl, rfl, rfl, rfl, rfl⟩ rfl rfl rfl rfl rfl (by kernel_rfl) Tryz.func3 (by kernel_rfl)
    (of_decide_eq_true (by kernel_rfl)) (by unfold Func.isWrapper; first | (rw [if_pos (by decide +kernel)]; kernel_rfl) | (rw [if_neg (by decide +kernel)]; exact ⟨rfl, rfl⟩))
    (fun os started H enc _ => lifted os started H enc)
theorem proved : Rows.HistoryTwiceSaid := over
#print axioms proved
end historyTwice
end Go.Proofs.YtcpadbcapeiicaaGreat
