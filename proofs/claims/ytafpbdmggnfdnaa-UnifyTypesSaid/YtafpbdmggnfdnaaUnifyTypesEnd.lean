/- UnifyTypes: for every input the law returns true, and its arguments read as they did. No condition. -/
import Derived.Test.YtafpbdmggnfdnaaUnifyTypesPt1
import Derived.Test.YtafpbdmggnfdnaaUnifyTypesPt2
import Derived.Test.YtafpbdmggnfdnaaUnifyTypesPt3
import Derived.Test.YtafpbdmggnfdnaaUnifyTypesPt4
import Derived.Test.YtafpbdmggnfdnaaUnifyTypesPt5
import Derived.Test.YtafpbdmggnfdnaaUnifyTypesPt6
import Derived.Test.YtafpbdmggnfdnaaUnifyTypesPt7
import Derived.Test.YtafpbdmggnfdnaaUnifyTypesPt8
import Derived.Test.YtafpbdmggnfdnaaUnifyTypesPt9
import Derived.Test.YtafpbdmggnfdnaaUnifyTypesPt10
import Derived.Test.YtafpbdmggnfdnaaUnifyTypesPt11
import Derived.Test.YtafpbdmggnfdnaaUnifyTypesPt12
import Derived.Test.YtafpbdmggnfdnaaUnifyTypesPt13
import Derived.Test.YtafpbdmggnfdnaaUnifyTypesPt14
import Derived.Test.YtafpbdmggnfdnaaUnifyTypesPt15
import Derived.Test.YtafpbdmggnfdnaaUnifyTypesPt16
import Derived.Test.YtafpbdmggnfdnaaUnifyTypesPt17
import Derived.Test.YtafpbdmggnfdnaaUnifyTypesPt18
import Derived.Test.YtafpbdmggnfdnaaUnifyTypesPt19
import Derived.ProofKit
import Derived.OpenShut
import Derived.ShutString
import Derived.ChangeOld
import Derived.Below
import Derived.SizedLaws
namespace Go.Proofs.Ytafpbdmggnfdnaa.unifyTypes
open Go.ChangeShapes Go.WideShapes Go.ChangeAt Go.RowKit
open Go.ChangeMaps (open_string shut_string)
set_option linter.unusedVariables false

theorem own : ownKnob Try.prog.godebug = none := by kernel_rfl
theorem laidOut : laidOutB Try.prog = true := by kernel_rfl

set_option maxRecDepth 100000 in
theorem lifted (os : Os) (started : os.Started) (H : Type) (enc : TypeId × Value → H) :
    ReturnsInHanded {} Try.checked os 4 .any (Rows.unifyTypesSpec.pre6 enc Try.prog Try.f4 Rows.unifyTypesRow.domain false) (Rows.unifyTypesSpec.post enc Try.prog Try.f4 false true false false) := by
  refine returnsInHanded_of_change_sized (C := Try.checked) own started (by kernel_rfl) Try.func4
    (ChangeSpec.witness6 (enc := enc) (C := Try.checked) false ⟨#[], #[.slice none 0 0, .slice none 0 0], []⟩ 8 (by kernel_rfl) (by kernel_rfl) (by kernel_rfl) (by kernel_rfl)) ?_
  intro W base args ds gs before hval0 hW hcnd hsz0 _
  have hval : ∀ (j : Nat) t v, Try.f4.params[j]? = some t → args[j]? = some v → Value.okWide Try.prog W .any base t v := hval0
  have hsz : (DataW.weightsEach Try.prog (Try.f4.params.toList ++ Rows.unifyTypesSpec.plain.varTypes Try.prog) (ds ++ gs)).all (· ≤ reachBytes) = true := hsz0
  have hW' := hW
  obtain ⟨p, q, hA0, hV, rfl, hfz, hnd⟩ := hW
  have hA : DataW.TrodAll enc Try.prog W 0 (fun _ => true) true Try.f4.params.toList args.toList ds p := hA0
  rw [Try.params4] at hA hval hsz
  obtain ⟨v0, vs0, d0, ds0, p0, q0, hargs, rfl, rfl, h0, r0⟩ := trodAll_cons hA
  obtain ⟨v1, vs1, d1, ds1, p1, q1, rfl, rfl, rfl, h1, r1⟩ := trodAll_cons r0
  obtain ⟨rfl, rfl, rfl⟩ := trodAll_nil r1
  obtain rfl : args = #[v0, v1] := by cases args; simp_all
  obtain ⟨rfl, rfl⟩ := trodVars_none hV
  have k0 := h0
  have lt0 : ∀ x ∈ p0, x.block < W.heap.size := by obtain ⟨m, hm⟩ := k0; exact DataW.trod_lt m _ _ _ hm
  obtain ⟨A0, c0, xs0, rfl, T0, L0, C0⟩ := open_ops (hval 0 22 v0 rfl rfl) h0 (sized_all hsz (j := 0) (t := 22) rfl rfl)
  have k1 := h1
  have lt1 : ∀ x ∈ p1, x.block < W.heap.size := by obtain ⟨m, hm⟩ := k1; exact DataW.trod_lt m _ _ _ hm
  obtain ⟨A1, c1, xs1, rfl, T1, L1⟩ := open_ints (hval 1 30 v1 rfl rfl) h1 (sized_all hsz (j := 1) (t := 30) rfl rfl)
  clear hA0 hval0
  simp only [List.append_nil] at hW'
  refine (unifyTypes_walk A0 c0 xs0 A1 c1 xs1 W T0 L0 C0 T1 L1).mono fun e W' ⟨he, bel⟩ => ?_
  subst he
  exact ⟨_, rfl, _, _, _, [], _, [], hW', trodAll_mk1 (shut_bool Try.underlying4 _), (trodAll_cons_mk (Below.trod laidOut (by kernel_rfl) (of_decide_eq_true (by kernel_rfl)) k0 bel lt0) (trodAll_cons_mk (Below.trod laidOut (by kernel_rfl) (of_decide_eq_true (by kernel_rfl)) k1 bel lt1) trodAll_mk0)), rfl, bel.frame _, fun h => by cases h⟩

theorem over : Rows.unifyTypesRow.holds Try.pinned (OpenSpec.ofChange Rows.unifyTypesSpec) :=
  OpenClaim.holds_of_wide 4 Try.f4 rfl rfl rfl rfl rfl rfl rfl ⟨rfl, rfl, rfl, rfl, rfl⟩ rfl rfl rfl rfl rfl (by kernel_rfl) Try.func4 (by kernel_rfl)
    (of_decide_eq_true (by kernel_rfl)) (by unfold Func.isWrapper; first | (rw [if_pos (by decide +kernel)]; kernel_rfl) | (rw [if_neg (by decide +kernel)]; exact ⟨rfl, rfl⟩))
    (fun os started H enc _ => lifted os started H enc)
end Go.Proofs.Ytafpbdmggnfdnaa.unifyTypes
namespace Go.Proofs.Ytafpbdmggnfdnaa
/-- UnifyTypes, proved. -/
theorem unifyTypes_holds : Rows.UnifyTypesSaid := unifyTypes.over
#print axioms unifyTypes_holds
end Go.Proofs.Ytafpbdmggnfdnaa
