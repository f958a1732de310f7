/- ImageLong: for every input that can be read the function returns true, and leaves what it was given as it was. -/
import Derived.Test.YthcdfbkdkeodpaaX3
import Derived.Test.YthcdfbkdkeodpaaRows
namespace Go.Proofs.Ythcdfbkdkeodpaa.imageLong
open Go.ChangeShapes Go.WideShapes Go.ChangeAt Go.RowKit Go.CE
theorem own : ownKnob Try.prog.godebug = none := by kernel_rfl
theorem laidOut : laidOutB Try.prog = true := by kernel_rfl
set_option maxRecDepth 100000 in
theorem lifted (os : Os) (started : os.Started) (H : Type) (enc : TypeId × Value → H) :
    ReturnsInHanded {} Try.checked os 5 .any (Rows.imageLongSpec.pre6 enc Try.prog Try.f5 Rows.imageLongRow.domain false) (Rows.imageLongSpec.post enc Try.prog Try.f5 false true false false) := by
  refine returnsInHanded_of_change (C := Try.checked) own started (by kernel_rfl) Try.func5
    (ChangeSpec.witness6 (enc := enc) (C := Try.checked) false ⟨#[], #[(stateD nilV zeroS : D).val T fun _ => 0], []⟩ 8 (by kernel_rfl) (by kernel_rfl) (by kernel_rfl) (by kernel_rfl)) ?_
  intro W base args ds gs before hval0 hW hcnd _
  have hval : ∀ (j : Nat) t v, Try.f5.params[j]? = some t → args[j]? = some v → Value.okWide Try.prog W .any base t v := hval0
  have hW' := hW
  obtain ⟨p, q, hA0, hV, rfl, hfz, hnd⟩ := hW
  have hA : DataW.TrodAll enc Try.prog W 0 (fun _ => true) true Try.f5.params.toList args.toList ds p := hA0
  rw [Try.params5] at hA hval
  obtain ⟨v0, vs0, d0, ds0, p0, q0, hargs, rfl, rfl, h0, r0⟩ := trodAll_cons hA
  obtain ⟨rfl, rfl, rfl⟩ := trodAll_nil r0
  obtain rfl : args = #[v0] := by cases args; simp_all
  obtain ⟨rfl, rfl⟩ := trodVars_none hV
  have k0 := h0
  have lt0 : ∀ x ∈ p0, x.block < W.heap.size := by obtain ⟨m, hm⟩ := k0; exact DataW.trod_lt m _ _ _ hm
  obtain ⟨D0, y0, e0, o0, c0⟩ := open_arg tab_ok 9 (t := 35) (by kernel_rfl) (hval 0 _ v0 rfl rfl) h0
  obtain ⟨x0, s0, rfl, in0⟩ := ty_state y0
  clear hA0 hval0
  have hcall := (Fun.pure (c_imageLong x0 s0) ⟨c0, trivial⟩) (fun _ => 0) W allD (OkL_iff.1 ⟨o0, trivial⟩)
  have hargs : #[v0] = ([(stateD x0 s0 : D)].map (D.val T fun _ => 0)).toArray := by rw [e0]; rfl
  rw [hargs]
  refine hcall.mono fun e W' ⟨he, bel⟩ => ?_
  rw [← hargs]
  subst he
  exact ⟨_, rfl, _, _, _, [], _, [], hW', trodAll_mk1 (shut_bool Try.underlying4 _), (trodAll_cons_mk (Below.trod laidOut (by kernel_rfl) (of_decide_eq_true (by kernel_rfl)) k0 bel lt0) trodAll_mk0), rfl, bel.frame _, fun h => by cases h⟩
theorem holds : Rows.ImageLongSaid :=
  OpenClaim.holds_of_wide 5 Try.f5 rfl rfl rfl rfl rfl rfl rfl ⟨rfl, rfl, rfl, rfl, rfl⟩ rfl rfl rfl rfl rfl (by kernel_rfl) Try.func5 (by kernel_rfl)
    (of_decide_eq_true (by kernel_rfl)) (by unfold Func.isWrapper; first | (rw [if_pos (by decide +kernel)]; kernel_rfl) | (rw [if_neg (by decide +kernel)]; exact ⟨rfl, rfl⟩))
    (fun os started H enc _ => lifted os started H enc)
#print axioms holds
end Go.Proofs.Ythcdfbkdkeodpaa.imageLong
