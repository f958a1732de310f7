/- ImageBack: for every input that can be read the function returns true, and leaves what it was given as it was. -/
import Derived.Test.YthcdfbkdkeodpaaX4
import Derived.Test.YthcdfbkdkeodpaaX3
import Derived.Test.YthcdfbkdkeodpaaRows
namespace Go.Proofs.Ythcdfbkdkeodpaa.imageBack
open Go.ChangeShapes Go.WideShapes Go.ChangeAt Go.RowKit Go.CE
theorem own : ownKnob Try.prog.godebug = none := by kernel_rfl
theorem laidOut : laidOutB Try.prog = true := by kernel_rfl
set_option maxRecDepth 100000 in
theorem lifted (os : Os) (started : os.Started) (H : Type) (enc : TypeId × Value → H) :
    ReturnsInHanded {} Try.checked os 4 .any (Rows.imageBackSpec.pre6 enc Try.prog Try.f4 Rows.imageBackRow.domain false) (Rows.imageBackSpec.post enc Try.prog Try.f4 false true false false) := by
  refine returnsInHanded_of_change (C := Try.checked) own started (by kernel_rfl) Try.func4
    (ChangeSpec.witness6 (enc := enc) (C := Try.checked) false ⟨#[], #[(stateD nilV zeroS : D).val T fun _ => 0, (i64 0 : D).val T fun _ => 0, (.v (.int .u8 0) : D).val T fun _ => 0], []⟩ 8 (by kernel_rfl) (by kernel_rfl) (by kernel_rfl) (by kernel_rfl)) ?_
  intro W base args ds gs before hval0 hW hcnd _
  have hval : ∀ (j : Nat) t v, Try.f4.params[j]? = some t → args[j]? = some v → Value.okWide Try.prog W .any base t v := hval0
  have hW' := hW
  obtain ⟨p, q, hA0, hV, rfl, hfz, hnd⟩ := hW
  have hA : DataW.TrodAll enc Try.prog W 0 (fun _ => true) true Try.f4.params.toList args.toList ds p := hA0
  rw [Try.params4] at hA hval
  obtain ⟨v0, vs0, d0, ds0, p0, q0, hargs, rfl, rfl, h0, r0⟩ := trodAll_cons hA
  obtain ⟨v1, vs1, d1, ds1, p1, q1, rfl, rfl, rfl, h1, r1⟩ := trodAll_cons r0
  obtain ⟨v2, vs2, d2, ds2, p2, q2, rfl, rfl, rfl, h2, r2⟩ := trodAll_cons r1
  obtain ⟨rfl, rfl, rfl⟩ := trodAll_nil r2
  obtain rfl : args = #[v0, v1, v2] := by cases args; simp_all
  obtain ⟨rfl, rfl⟩ := trodVars_none hV
  have k0 := h0
  have lt0 : ∀ x ∈ p0, x.block < W.heap.size := by obtain ⟨m, hm⟩ := k0; exact DataW.trod_lt m _ _ _ hm
  obtain ⟨D0, y0, e0, o0, c0⟩ := open_arg tab_ok 9 (t := 35) (by kernel_rfl) (hval 0 _ v0 rfl rfl) h0
  obtain ⟨x0, s0, rfl, in0⟩ := ty_state y0
  have k1 := h1
  have lt1 : ∀ x ∈ p1, x.block < W.heap.size := by obtain ⟨m, hm⟩ := k1; exact DataW.trod_lt m _ _ _ hm
  obtain ⟨D1, y1, e1, o1, c1⟩ := open_arg tab_ok 9 (t := 3) (by kernel_rfl) (hval 1 _ v1 rfl rfl) h1
  obtain ⟨n1, rfl, in1⟩ := ty_int y1
  have k2 := h2
  have lt2 : ∀ x ∈ p2, x.block < W.heap.size := by obtain ⟨m, hm⟩ := k2; exact DataW.trod_lt m _ _ _ hm
  obtain ⟨D2, y2, e2, o2, c2⟩ := open_arg tab_ok 9 (t := 5) (by kernel_rfl) (hval 2 _ v2 rfl rfl) h2
  obtain ⟨n2, rfl, in2⟩ := ty_byte y2
  clear hA0 hval0
  have hcall := (Fun.pure (c_imageBackL x0 s0 in0 n1 n2 in2) ⟨c0, c1, c2, trivial⟩) (fun _ => 0) W allD (OkL_iff.1 ⟨o0, o1, o2, trivial⟩)
  have hargs : #[v0, v1, v2] = ([(stateD x0 s0 : D), (i64 n1 : D), (.v (.int .u8 n2) : D)].map (D.val T fun _ => 0)).toArray := by rw [e0, e1, e2]; rfl
  rw [hargs]
  refine hcall.mono fun e W' ⟨he, bel⟩ => ?_
  rw [← hargs]
  subst he
  exact ⟨_, rfl, _, _, _, [], _, [], hW', trodAll_mk1 (shut_bool Try.underlying4 _), (trodAll_cons_mk (Below.trod laidOut (by kernel_rfl) (of_decide_eq_true (by kernel_rfl)) k0 bel lt0) (trodAll_cons_mk (Below.trod laidOut (by kernel_rfl) (of_decide_eq_true (by kernel_rfl)) k1 bel lt1) (trodAll_cons_mk (Below.trod laidOut (by kernel_rfl) (of_decide_eq_true (by kernel_rfl)) k2 bel lt2) trodAll_mk0))), rfl, bel.frame _, fun h => by cases h⟩
theorem holds : Rows.ImageBackSaid :=
  OpenClaim.holds_of_wide 4 Try.f4 rfl rfl rfl rfl rfl rfl rfl ⟨rfl, rfl, rfl, rfl, rfl⟩ rfl rfl rfl rfl rfl (by kernel_rfl) Try.func4 (by kernel_rfl)
    (of_decide_eq_true (by kernel_rfl)) (by unfold Func.isWrapper; first | (rw [if_pos (by decide +kernel)]; kernel_rfl) | (rw [if_neg (by decide +kernel)]; exact ⟨rfl, rfl⟩))
    (fun os started H enc _ => lifted os started H enc)
#print axioms holds
end Go.Proofs.Ythcdfbkdkeodpaa.imageBack
