/- UnifySteps: for every input the law returns true, and its arguments read as they did. No condition. -/
import Derived.Test.YtafpbdmggnfdnaaUnifyStepsPt1
import Derived.Test.YtafpbdmggnfdnaaUnifyStepsPt2
import Derived.Test.YtafpbdmggnfdnaaUnifyStepsPt3
import Derived.Test.YtafpbdmggnfdnaaUnifyStepsPt4
import Derived.Test.YtafpbdmggnfdnaaUnifyStepsPt5
import Derived.Test.YtafpbdmggnfdnaaUnifyStepsPt6
import Derived.Test.YtafpbdmggnfdnaaUnifyStepsPt7
import Derived.Test.YtafpbdmggnfdnaaUnifyStepsPt8
import Derived.Test.YtafpbdmggnfdnaaUnifyStepsPt9
import Derived.Test.YtafpbdmggnfdnaaUnifyStepsPt10
import Derived.Test.YtafpbdmggnfdnaaUnifyStepsPt11
import Derived.Test.YtafpbdmggnfdnaaUnifyStepsPt12
import Derived.Test.YtafpbdmggnfdnaaUnifyStepsPt13
import Derived.Test.YtafpbdmggnfdnaaUnifyStepsPt14
import Derived.Test.YtafpbdmggnfdnaaUnifyStepsPt15
import Derived.Test.YtafpbdmggnfdnaaUnifyStepsPt16
import Derived.Test.YtafpbdmggnfdnaaUnifyStepsPt17
import Derived.Test.YtafpbdmggnfdnaaUnifyStepsPt18
import Derived.Test.YtafpbdmggnfdnaaUnifyStepsPt19
import Derived.ProofKit
import Derived.OpenShut
import Derived.ShutString
import Derived.ChangeOld
import Derived.Below
import Derived.SizedLaws
namespace Go.Proofs.Ytafpbdmggnfdnaa.unifySteps
open Go.ChangeShapes Go.WideShapes Go.ChangeAt Go.RowKit
open Go.ChangeMaps (open_string shut_string)
set_option linter.unusedVariables false

theorem own : ownKnob Try.prog.godebug = none := by kernel_rfl
theorem laidOut : laidOutB Try.prog = true := by kernel_rfl

set_option maxRecDepth 100000 in
theorem lifted (os : Os) (started : os.Started) (H : Type) (enc : TypeId × Value → H) :
    ReturnsInHanded {} Try.checked os 3 .any (Rows.unifyStepsSpec.pre6 enc Try.prog Try.f3 Rows.unifyStepsRow.domain false) (Rows.unifyStepsSpec.post enc Try.prog Try.f3 false true false false) := by
  refine returnsInHanded_of_change_sized (C := Try.checked) own started (by kernel_rfl) Try.func3
    (ChangeSpec.witness6 (enc := enc) (C := Try.checked) false ⟨#[], #[.slice none 0 0], []⟩ 8 (by kernel_rfl) (by kernel_rfl) (by kernel_rfl) (by kernel_rfl)) ?_
  intro W base args ds gs before hval0 hW hcnd hsz0 _
  have hval : ∀ (j : Nat) t v, Try.f3.params[j]? = some t → args[j]? = some v → Value.okWide Try.prog W .any base t v := hval0
  have hsz : (DataW.weightsEach Try.prog (Try.f3.params.toList ++ Rows.unifyStepsSpec.plain.varTypes Try.prog) (ds ++ gs)).all (· ≤ reachBytes) = true := hsz0
  have hW' := hW
  obtain ⟨p, q, hA0, hV, rfl, hfz, hnd⟩ := hW
  have hA : DataW.TrodAll enc Try.prog W 0 (fun _ => true) true Try.f3.params.toList args.toList ds p := hA0
  rw [Try.params3] at hA hval hsz
  obtain ⟨v0, vs0, d0, ds0, p0, q0, hargs, rfl, rfl, h0, r0⟩ := trodAll_cons hA
  obtain ⟨rfl, rfl, rfl⟩ := trodAll_nil r0
  obtain rfl : args = #[v0] := by cases args; simp_all
  obtain ⟨rfl, rfl⟩ := trodVars_none hV
  have k0 := h0
  have lt0 : ∀ x ∈ p0, x.block < W.heap.size := by obtain ⟨m, hm⟩ := k0; exact DataW.trod_lt m _ _ _ hm
  obtain ⟨A0, c0, xs0, rfl, T0, L0, C0⟩ := open_ops (hval 0 22 v0 rfl rfl) h0 (sized_all hsz (j := 0) (t := 22) rfl rfl)
  clear hA0 hval0
  simp only [List.append_nil] at hW'
  refine (unifySteps_walk A0 c0 xs0 W T0 L0 C0).mono fun e W' ⟨he, bel⟩ => ?_
  subst he
  exact ⟨_, rfl, _, _, _, [], _, [], hW', trodAll_mk1 (shut_bool Try.underlying4 _), (trodAll_cons_mk (Below.trod laidOut (by kernel_rfl) (of_decide_eq_true (by kernel_rfl)) k0 bel lt0) trodAll_mk0), rfl, bel.frame _, fun h => by cases h⟩

theorem over : Rows.unifyStepsRow.holds Try.pinned (OpenSpec.ofChange Rows.unifyStepsSpec) :=
  OpenClaim.holds_of_wide 3 Try.f3 rfl rfl rfl rfl rfl rfl rfl ⟨rfl, rfl, rfl, rfl, rfl⟩ rfl rfl rfl rfl rfl (by kernel_rfl) Try.func3 (by kernel_rfl)
    (of_decide_eq_true (by kernel_rfl)) (by unfold Func.isWrapper; first | (rw [if_pos (by decide +kernel)]; kernel_rfl) | (rw [if_neg (by decide +kernel)]; exact ⟨rfl, rfl⟩))
    (fun os started H enc _ => lifted os started H enc)
end Go.Proofs.Ytafpbdmggnfdnaa.unifySteps
namespace Go.Proofs.Ytafpbdmggnfdnaa
/-- UnifySteps, proved. -/
theorem unifySteps_holds : Rows.UnifyStepsSaid := unifySteps.over
#print axioms unifySteps_holds
end Go.Proofs.Ytafpbdmggnfdnaa
