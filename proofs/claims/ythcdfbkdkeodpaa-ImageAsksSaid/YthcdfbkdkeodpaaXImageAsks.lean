/- ImageAsks: for every input that can be read the function returns true, and leaves what it was given as it was. -/
import Derived.Test.YthcdfbkdkeodpaaX3
import Derived.Test.YthcdfbkdkeodpaaRows
namespace Go.Proofs.Ythcdfbkdkeodpaa.imageAsks
open Go.ChangeShapes Go.WideShapes Go.ChangeAt Go.RowKit Go.CE
theorem own : ownKnob Try.prog.godebug = none := by kernel_rfl
theorem laidOut : laidOutB Try.prog = true := by kernel_rfl
set_option maxRecDepth 100000 in
theorem lifted (os : Os) (started : os.Started) (H : Type) (enc : TypeId × Value → H) :
    ReturnsInHanded {} Try.checked os 3 .any (Rows.imageAsksSpec.pre6 enc Try.prog Try.f3 Rows.imageAsksRow.domain false) (Rows.imageAsksSpec.post enc Try.prog Try.f3 false true false false) := by
  refine returnsInHanded_of_change (C := Try.checked) own started (by kernel_rfl) Try.func3
    (ChangeSpec.witness6 (enc := enc) (C := Try.checked) false ⟨#[], #[(stateD nilV zeroS : D).val T fun _ => 0, (.sl 1 nilV 0 (fun _ => .v (.int .u8 0)) : D).val T fun _ => 0], []⟩ 8 (by kernel_rfl) (by kernel_rfl) (by kernel_rfl) (by kernel_rfl)) ?_
  intro W base args ds gs before hval0 hW hcnd _
  have hval : ∀ (j : Nat) t v, Try.f3.params[j]? = some t → args[j]? = some v → Value.okWide Try.prog W .any base t v := hval0
  have hW' := hW
  obtain ⟨p, q, hA0, hV, rfl, hfz, hnd⟩ := hW
  have hA : DataW.TrodAll enc Try.prog W 0 (fun _ => true) true Try.f3.params.toList args.toList ds p := hA0
  rw [Try.params3] at hA hval
  obtain ⟨v0, vs0, d0, ds0, p0, q0, hargs, rfl, rfl, h0, r0⟩ := trodAll_cons hA
  obtain ⟨v1, vs1, d1, ds1, p1, q1, rfl, rfl, rfl, h1, r1⟩ := trodAll_cons r0
  obtain ⟨rfl, rfl, rfl⟩ := trodAll_nil r1
  obtain rfl : args = #[v0, v1] := by cases args; simp_all
  obtain ⟨rfl, rfl⟩ := trodVars_none hV
  have k0 := h0
  have lt0 : ∀ x ∈ p0, x.block < W.heap.size := by obtain ⟨m, hm⟩ := k0; exact DataW.trod_lt m _ _ _ hm
  obtain ⟨D0, y0, e0, o0, c0⟩ := open_arg tab_ok 9 (t := 35) (by kernel_rfl) (hval 0 _ v0 rfl rfl) h0
  obtain ⟨x0, s0, rfl, in0⟩ := ty_state y0
  have k1 := h1
  have lt1 : ∀ x ∈ p1, x.block < W.heap.size := by obtain ⟨m, hm⟩ := k1; exact DataW.trod_lt m _ _ _ hm
  obtain ⟨D1, y1, e1, o1, c1⟩ := open_arg tab_ok 9 (t := 36) (by kernel_rfl) (hval 1 _ v1 rfl rfl) h1
  obtain ⟨x1, n1, g1, rfl, in1, _⟩ := ty_bytes y1
  clear hA0 hval0
  have hcall := (Fun.pure (c_imageAsksL x0 s0 x1 n1 g1 in1) ⟨c0, c1, trivial⟩) (fun _ => 0) W allD (OkL_iff.1 ⟨o0, o1, trivial⟩)
  have hargs : #[v0, v1] = ([(stateD x0 s0 : D), (.sl 1 x1 n1 g1 : D)].map (D.val T fun _ => 0)).toArray := by rw [e0, e1]; rfl
  rw [hargs]
  refine hcall.mono fun e W' ⟨he, bel⟩ => ?_
  rw [← hargs]
  subst he
  exact ⟨_, rfl, _, _, _, [], _, [], hW', trodAll_mk1 (shut_bool Try.underlying4 _), (trodAll_cons_mk (Below.trod laidOut (by kernel_rfl) (of_decide_eq_true (by kernel_rfl)) k0 bel lt0) (trodAll_cons_mk (Below.trod laidOut (by kernel_rfl) (of_decide_eq_true (by kernel_rfl)) k1 bel lt1) trodAll_mk0)), rfl, bel.frame _, fun h => by cases h⟩
theorem holds : Rows.ImageAsksSaid :=
  OpenClaim.holds_of_wide 3 Try.f3 rfl rfl rfl rfl rfl rfl rfl ⟨rfl, rfl, rfl, rfl, rfl⟩ rfl rfl rfl rfl rfl (by kernel_rfl) Try.func3 (by kernel_rfl)
    (of_decide_eq_true (by kernel_rfl)) (by unfold Func.isWrapper; first | (rw [if_pos (by decide +kernel)]; kernel_rfl) | (rw [if_neg (by decide +kernel)]; exact ⟨rfl, rfl⟩))
    (fun os started H enc _ => lifted os started H enc)
#print axioms holds
end Go.Proofs.Ythcdfbkdkeodpaa.imageAsks
