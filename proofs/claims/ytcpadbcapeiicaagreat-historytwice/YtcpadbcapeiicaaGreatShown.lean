/- The closed check of the layer answers true. -/
import Derived.Test.YtcpadbcapeiicaaGreatSteps
import Derived.Test.YtcpadbcapeiicaaGreatRows
set_option linter.unusedVariables false
set_option linter.unusedSimpArgs false
namespace Go.Proofs.YtcpadbcapeiicaaGreat
open Go.Proofs.Am

def okTrue : Option (Except Value Value × Mem) → Bool
  | some (.ok (.bool b), _) => b
  | _ => false

theorem okTrue_spec {x : Option (Except Value Value × Mem)} (h : okTrue x = true) : ∃ H', x = some (.ok (.bool true), H') := by
  unfold okTrue at h
  split at h
  · subst h; exact ⟨_, rfl⟩
  · cases h

theorem shown_ok : okTrue (inv (T0 Tryz.prog) 60 (.fn 7) [] []) = true := by kernel_rfl

theorem shown_run : ∃ n H', inv (T0 Tryz.prog) n (.fn 7) [] [] = some (.ok (.bool true), H') := by
  obtain ⟨H', h⟩ := okTrue_spec shown_ok
  exact ⟨60, H', h⟩
end Go.Proofs.YtcpadbcapeiicaaGreat
