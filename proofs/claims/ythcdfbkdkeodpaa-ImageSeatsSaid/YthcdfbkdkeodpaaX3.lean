/- Contracts: calls whose answer their arguments tell; what layer 7 tells of a few. -/
import Derived.Test.YthcdfbkdkeodpaaX2
import Derived.Test.YthcdfbkdkeodpaaX1
import Derived.OpenShut
import Derived.ShutString
import Derived.ChangeOld
import Derived.Carry
import Derived.ProofKit
namespace Go.CE
open Go.RowKit Go.Proofs

variable {w0 w : World} {pins : Pins} {N : Nat} {env : Env} {gs : List Nat} {L : List Ent} {β : Nat → Nat} {a : Act} {ds : List Deferred}

/-- A slice's argument, its elements told in other words. -/
theorem Ok.slx {T : Tab} {w : World} {A : Dom} {sz n : Nat} {x : Value} {g g' : Nat → D} (h : ∀ i, i < n → g i = g' i) (ho : Ok T w A (.sl sz x n g)) : Ok T w A (.sl sz x n g') := by
  obtain ⟨⟨a, cap, h1, h2, h3, h4⟩, h5⟩ := ho
  refine ⟨⟨a, cap, h1, h2, h3, ?_⟩, fun i hi => by rw [← h i hi]; exact h5 i hi⟩
  rcases h4 with h4 | ⟨b, o, cur, e, fr, k1, k2, k3, k4⟩
  · exact .inl h4
  · exact .inr ⟨b, o, cur, e, fr, k1, k2, k3, fun i hi j v hv => k4 i hi j v (by rw [h i hi]; exact hv)⟩
theorem Fun.slx {P : Program} {T : Tab} {f sz n : Nat} {x : Value} {g g' : Nat → D} {xs : List D} {R : D → Prop} (h : ∀ i, i < n → g i = g' i) (hf : Fun P T f (.sl sz x n g' :: xs) R) : Fun P T f (.sl sz x n g :: xs) R := by
  intro G β w hM ho hg1 hg2
  exact hf G β w hM (fun d hd => by
    rcases List.mem_cons.1 hd with rfl | hd
    · exact Ok.slx h (ho _ (by simp))
    · exact ho d (by simp [hd])) hg1 hg2

def listOf (n : Nat) (g : Nat → D) : List Int := (List.range n).map fun i => intD (g i)
theorem listOf_len (n : Nat) (g : Nat → D) : (listOf n g).length = n := by simp [listOf]
theorem listOf_row (l : List Int) : listOf l.length (rowD l) = l := by
  refine List.ext_getElem (by simp [listOf]) fun i h1 h2 => ?_
  simp [listOf, rowD, intD, List.getD_eq_getElem?_getD, List.getElem?_eq_getElem h2]
theorem rowD_listOf {n i : Nat} {g : Nat → D} (h : i < n) (hg : ∃ m, g i = .v (.int .u8 m)) : g i = rowD (listOf n g) i := by
  obtain ⟨m, hm⟩ := hg
  simp [rowD, listOf, List.getD_eq_getElem?_getD, h, hm, intD]

theorem e_of : Enters Try.prog 18 := enters_of Try.func18 rfl (by kernel_rfl)
theorem e_get : Enters Try.prog 13 := enters_of Try.func13 rfl (by kernel_rfl)

def C7 : Calls' := fun f ds => match ds with
  | [.v (.string s)] => if Nat.beq f 17 then some (u64 (fnv s s.size), .c (s.size ≤ maxLen)) else none
  | [.sl 1 _ n g] => if Nat.beq f 16 then some (u64 (sumB (listOf n g)), .c (∀ i, i < n → ∃ m, g i = .v (.int .u8 m))) else none
  | [d] => if Nat.beq f 18 then some (u64 (if mayStateB (unState d) = true then sumB (putB (unState d)) else 0), .c (∃ x s, d = stateD x s)) else none
  | _ => none
theorem C7_ok : COk Try.prog T C7 := by
  intro f ds d q h hq
  unfold C7 at h
  split at h
  · split at h
    · rename_i hf
      have hf := Nat.eq_of_beq_eq_true hf
      subst hf
      simp only [Option.some.injEq, Prod.mk.injEq] at h
      obtain ⟨rfl, rfl⟩ := h
      exact ⟨e_rseed, (c_rseed _ hq).pure ⟨trivial, trivial⟩, fun _ _ => rfl⟩
    · cases h
  · split at h
    · rename_i x n g hf
      have hf := Nat.eq_of_beq_eq_true hf
      subst hf
      simp only [Option.some.injEq, Prod.mk.injEq] at h
      obtain ⟨rfl, rfl⟩ := h
      have h1 := c_sum x (listOf n g)
      rw [listOf_len] at h1
      have hq : ∀ i, i < n → ∃ m, g i = .v (.int .u8 m) := hq
      exact ⟨e_sum, (h1.slx fun i hi => rowD_listOf hi (hq i hi)).pure ⟨fun i hi => by obtain ⟨m, hm⟩ := hq i hi; show Cl (g i); rw [hm]; trivial, trivial⟩, fun _ _ => rfl⟩
    · cases h
  · split at h
    · rename_i hf
      have hf := Nat.eq_of_beq_eq_true hf
      subst hf
      simp only [Option.some.injEq, Prod.mk.injEq] at h
      obtain ⟨rfl, rfl⟩ := h
      obtain ⟨x, s, rfl⟩ := hq
      exact ⟨e_of, (c_of x s).pure ⟨state_cl x s, trivial⟩, fun _ _ => rfl⟩
    · cases h
  · cases h
theorem K7 : Kit Try.prog T C7 := ⟨tab_ok, zero_ok, C7_ok, mixed⟩

theorem Byt.append {l m : List Int} (h : Byt l) (h2 : Byt m) : Byt (l ++ m) := fun v hv => by
  rcases List.mem_append.1 hv with hv | hv
  · exact h v hv
  · exact h2 v hv
theorem by8_byt (n : Int) : 0 ≤ by8 n ∧ by8 n ≤ 255 := by rw [by8, IntKind.wrap_u8]; omega
theorem Byt.le (n : Int) (b : Nat) : Byt (le n b) := fun v hv => by
  simp only [CE.le, List.mem_map] at hv
  obtain ⟨i, _, rfl⟩ := hv
  exact by8_byt _
theorem Byt.flat {α : Type} {f : α → List Int} (h : ∀ x, Byt (f x)) (g : Nat → α) (n : Nat) : Byt (flat f g n) := fun v hv => by
  simp only [CE.flat, List.mem_flatMap] at hv
  obtain ⟨i, _, hv⟩ := hv
  exact h _ v hv
theorem Byt.quad (q : Nat → Int) (n : Nat) : Byt (quadB q n) := fun v hv => by
  simp only [quadB, List.mem_flatMap] at hv
  obtain ⟨i, _, hv⟩ := hv
  exact Byt.le _ _ v hv
theorem shipB_byt (s : Ship) : Byt (shipB s) := by
  unfold shipB
  split
  · exact (((Byt.le _ _).append (Byt.quad _ _)).append (Byt.le _ _)).append (Byt.le _ _)
  · exact Byt.le _ _
theorem shotB_byt (s : Shot) : Byt (shotB s) := ((Byt.le _ _).append (Byt.quad _ _)).append (Byt.le _ _)
theorem seatBy_byt (s : Seat) : Byt (seatBy s) := (Byt.le _ _).append (Byt.le _ _)
theorem putB_byt (s : State) : Byt (putB s) := (((((((Byt.le _ _).append (Byt.le _ _)).append (Byt.flat shipB_byt _ _)).append (Byt.le _ _)).append (Byt.flat shotB_byt _ _)).append (Byt.le _ _)).append (Byt.flat seatBy_byt _ _))

def strA : ByteArray := ⟨#[97]⟩
def stA : State := startS strA
def stB : State := ⟨{ stA.game with ships := upd stA.game.ships 0 { ship0 with on := true } }, stA.roster⟩

theorem putA_may : mayStateB stA = true := by kernel_rfl
theorem putA_len : (putB stA).length = 49 := by kernel_rfl
theorem putB_may : mayStateB stB = false := by kernel_rfl
theorem getA_code : (getB (putB stA)).2 = 0 := by kernel_rfl
theorem getA_dice : (getB (putB stA)).1.game.dice = fnv strA 1 := by kernel_rfl
theorem getA_peer : ((getB (putB stA)).1.roster.seats 3).peer = -1 := by kernel_rfl
theorem get0 : (getB []).2 = 2 := by kernel_rfl

theorem stB_tree : stateD nilV stB = .st 35 [.st 28 [i64 stA.game.frame, u64 stA.game.dice, .ar 8 7 fun j => if j = 0 then shipD { ship0 with on := true } else shipD (stA.game.ships j), .sl 6 nilV stA.game.n fun i => shotD (stA.game.shots i)], rosterD stA.roster] := by
  simp only [stateD, gameD, stB, ship_ite]

theorem c_told7 : Fun Try.prog T 9 [] fun y => y = bol true := by
  refine Con.intro Try.func9 rfl rfl rfl rfl fun G w0 β0 β a w hS => ?_
  refine regS K0 [] hS rfl rfl trivial fun β a w hS => ?_
  refine wp_seq (regp K0 hS rfl trivial fun β a w hS => ?_)
  refine call0 e_rstart (c_start strA (by decide)) hS [] rfl rfl rfl rfl rfl ⟨trivial, trivial⟩ rfl ?_
  rintro y rfl β a w hS
  refine rege K0 [1] hS rfl rfl trivial fun β a w hS => ?_
  refine wp_seq (regp K0 hS rfl trivial fun β a w hS => ?_)
  refine call0 e_put (c_put nilV stA) hS [1] rfl rfl rfl rfl rfl ⟨state_cl _ _, trivial⟩ rfl ?_
  intro y hy β a w hS
  simp only [putA_may, if_true] at hy
  obtain ⟨x1, rfl⟩ := hy
  refine rege K0 [1, 2, 3] hS rfl rfl trivial fun β a w hS => ?_
  refine wp_seq (regp K0 hS rfl trivial fun β a w hS => ?_)
  refine call0 e_get (c_get x1 (putB stA) (putB_byt stA)) hS [1, 2, 3] rfl rfl rfl rfl rfl ⟨fun _ _ => trivial, trivial⟩ rfl ?_
  rintro y ⟨x2, rfl⟩ β a w hS
  have e1 : getB (putB stA) = ((getB (putB stA)).1, 0) := by rw [← getA_code]
  rw [e1] at hS
  have e2 := getA_dice
  have e3 := getA_peer
  have e4 := putA_len
  generalize (getB (putB stA)).1 = t at hS e2 e3
  generalize putB stA = lA at hS e4
  refine rege K0 [1, 2, 3, 4, 5] hS rfl rfl trivial fun β a w hS => ?_
  refine wp_seq (regp K0 hS rfl trivial fun β a w hS => ?_)
  refine call0 e_get ((c_get (.slice none 0 0) [] (fun _ h => by cases h)).slx (g := fun _ => default) fun i hi => absurd hi (Nat.not_lt_zero _)) hS [1, 2, 3, 4, 5] rfl rfl rfl rfl rfl ⟨fun _ h => absurd h (Nat.not_lt_zero _), trivial⟩ rfl ?_
  rintro y ⟨x3, rfl⟩ β a w hS
  rw [get0] at hS
  refine rege K0 [1, 2, 3, 4, 5, 7] hS rfl rfl trivial fun β a w hS => ?_
  refine regS K0 [1, 2, 3, 4, 5, 7] hS rfl rfl ⟨by decide, trivial⟩ fun β a w hS => ?_
  have hS : Ste T w0 (pinsOf β0 0 0 G) Try.f9.ntmps [] [(1, .d (.p 0 [])), (2, .d (.sl 1 x1 lA.length (rowD lA))), (3, .d (i64 0)), (4, .d (.p 1 [])), (5, .d (i64 0)), (7, .d (i64 2))] [] [.var 35 (stateD nilV stB), .var 35 (stateD x2 t), .var 35 (stateD x3 (getB []).1)] β a w := by
    rw [stB_tree]; exact Ste.sub hS ⟨rfl, rfl, rfl, rfl, rfl, rfl, trivial⟩
  refine wp_seq (regp K0 hS rfl trivial fun β a w hS => ?_)
  refine call0 e_put (c_put nilV stB) hS [1, 2, 3, 4, 5, 7] rfl rfl rfl rfl rfl ⟨state_cl _ _, trivial⟩ rfl ?_
  intro y hy β a w hS
  simp only [putB_may, Bool.false_eq_true, if_false] at hy
  subst hy
  refine rege K0 [1, 2, 3, 4, 5, 7, 9] hS rfl rfl trivial fun β a w hS => ?_
  refine regqS K7 [0] (by kernel_rfl) hS rfl rfl ⟨fun _ i hi => absurd hi (Nat.not_lt_zero _), fun _ => ⟨_, _, rfl⟩, fun _ => ⟨by decide, by decide⟩, fun _ => by decide, trivial⟩ fun a w hS => ?_
  refine wp_ret (fret1 K0 rfl hS rfl trivial ?_)
  have e5 : ((lA.length : Int) == 49) = true := by rw [e4]; rfl
  have e6 : (t.game.dice == fnv strA strA.size) = true := by rw [e2]; exact beq_self_eq_true _
  have e7 : ((t.roster.seats 3).peer == -1) = true := by rw [e3]; rfl
  have e8 : ((if mayStateB stB = true then sumB (putB stB) else 0) == 0) = true := by rw [putB_may]; rfl
  have e9 : (sumB (listOf 0 fun _ => default) == 14695981039346656037) = true := by kernel_rfl
  show bol ((((((((((0 : Int) == 0) && ((lA.length : Int) == 49)) && ((0 : Int) == 0)) && (t.game.dice == fnv strA strA.size)) && ((t.roster.seats 3).peer == -1)) && ((2 : Int) == 2)) && ((1 : Int) == 1)) && ((if mayStateB stB = true then sumB (putB stB) else 0) == 0)) && (sumB (listOf 0 fun _ => default) == 14695981039346656037)) = bol true
  rw [e5, e6, e7, e8, e9]
  rfl

end Go.CE

/- How long an image is: for every state the law's function answers true. -/
namespace Go.CE
open Go.RowKit Go.Proofs

theorem e_told7 : Enters Try.prog 9 := enters_of Try.func9 rfl (by kernel_rfl)
def C8 : Calls' := fun f ds => match ds with
  | [] => if Nat.beq f 9 then some (bol true, .t) else none
  | ds => C7 f ds
theorem C8_ok : COk Try.prog T C8 := by
  intro f ds d q h hq
  unfold C8 at h
  split at h
  · split at h
    · rename_i hf
      have hf := Nat.eq_of_beq_eq_true hf
      subst hf
      simp only [Option.some.injEq, Prod.mk.injEq] at h
      obtain ⟨rfl, rfl⟩ := h
      exact ⟨e_told7, c_told7.pure trivial, fun _ _ => rfl⟩
    · cases h
  · exact C7_ok _ _ _ _ h hq
theorem K8 : Kit Try.prog T C8 := ⟨tab_ok, zero_ok, C8_ok, mixed⟩

/-- How many of the first ships are there. -/
def ons (s : State) : Nat → Nat
  | 0 => 0
  | i + 1 => if (s.game.ships i).on = true then ons s i + 1 else ons s i
theorem ons_le (s : State) : ∀ i, ons s i ≤ i
  | 0 => Nat.le_refl 0
  | i + 1 => by have := ons_le s i; simp only [ons]; split <;> omega
theorem ships_len (s : State) : ∀ i, (flat shipB s.game.ships i).length = i + 21 * ons s i
  | 0 => rfl
  | i + 1 => by
    rw [flat_succ, List.length_append, ships_len s i]
    simp only [ons, shipB]
    split <;> simp only [List.length_append, le_len, quadB_len] <;> omega
theorem flat_eq {α : Type} {f : α → List Int} {c : Nat} (h : ∀ a, (f a).length = c) (g : Nat → α) : ∀ n, (flat f g n).length = c * n
  | 0 => by simp [flat]
  | n + 1 => by rw [flat_succ, List.length_append, flat_eq h g n, h, Nat.mul_succ]
theorem putB_len (s : State) : (putB s).length = 49 + 18 * s.game.n + 21 * ons s 8 := by
  have h1 := ships_len s 8
  have h2 := flat_eq (f := shotB) (c := 18) (fun a => by simp only [shotB, List.length_append, le_len, quadB_len]) s.game.shots s.game.n
  have h3 := flat_eq (f := seatBy) (c := 3) (fun a => by simp only [seatBy, List.length_append, le_len]) s.roster.seats 8
  simp only [putB, put3, put2, put1, List.length_append, le_len, h1, h2, h3]
  omega
theorem wr64 {n : Int} (h : -9223372036854775808 ≤ n ∧ n ≤ 9223372036854775807) : IntKind.i64.wrap n = n := IntWalk.i64_in _ ⟨by omega, by omega⟩

theorem c_imageLong (x : Value) (s : State) : Fun Try.prog T 5 [stateD x s] fun y => y = bol true := by
  refine Con.intro Try.func5 rfl rfl rfl rfl fun G w0 β0 β a w hS => ?_
  refine regS K0 [1] hS rfl rfl trivial fun β a w hS => ?_
  refine wp_seq (regp K0 hS rfl trivial fun β a w hS => ?_)
  refine call0 e_put (c_put x s) hS [1] rfl rfl rfl rfl rfl ⟨state_cl _ _, trivial⟩ rfl ?_
  intro y hy β a w hS
  cases hm : mayStateB s with
  | false =>
    simp only [hm, Bool.false_eq_true, if_false] at hy
    subst hy
    refine rege K0 [1, 3, 4] hS rfl rfl trivial fun β a w hS => ?_
    refine wp_seq ?_
    refine regS K0 [1, 3, 13] hS rfl rfl trivial fun β a w hS => ?_
    refine cnd hS rfl (fun h => ?_) (fun h => absurd h (by decide))
    refine regS K8 [2] hS rfl rfl trivial fun β a w hS => ?_
    exact wp_ret (fret1 K0 rfl hS rfl trivial rfl)
  | true =>
    have hn := may_n hm
    simp only [hm, if_true] at hy
    obtain ⟨x', rfl⟩ := hy
    have hlen := putB_len s
    have ho := ons_le s 8
    generalize putB s = l at hS hlen
    refine rege K0 [1, 3, 4] hS rfl rfl trivial fun β a w hS => ?_
    refine wp_seq ?_
    refine regS K0 [1, 3, 13] hS rfl rfl trivial fun β a w hS => ?_
    refine cnd hS rfl (fun h => absurd h (by decide)) (fun h => wp_skip ?_)
    refine regS K0 [1, 3, 5] hS rfl rfl trivial fun β a w hS => ?_
    refine wp_seq ?_
    refine regS K0 [1, 3, 5, 6] hS rfl rfl trivial fun β a w hS => ?_
    refine wp_block ?_
    refine lop (fun i : Nat => 8 - i) (fun i => i ≤ 8) (fun i => [(1, .d (.p 0 [])), (3, .d (.sl 1 x' l.length (rowD l))), (5, .d (i64 ((49 + 18 * s.game.n + 21 * ons s i : Nat) : Int))), (6, .d (i64 i))]) (fun _ => [.var 35 (stateD x s)]) 0 (Nat.zero_le _) (Ste.sub hS ⟨rfl, rfl, ?_, rfl, trivial⟩) ?_
    · show some (B.d (.v (.int .i64 (IntKind.i64.wrap (49 + IntKind.i64.wrap (18 * (s.game.n : Int))))))) = some (B.d (i64 ((49 + 18 * s.game.n + 21 * ons s 0 : Nat) : Int)))
      rw [wr64 (n := 18 * (s.game.n : Int)) (by omega), wr64 (by omega)]
      simp only [ons]
      have : (49 + 18 * (s.game.n : Int)) = ((49 + 18 * s.game.n + 21 * 0 : Nat) : Int) := by omega
      rw [this]; rfl
    intro i hi β a w hS
    have hoi := ons_le s i
    refine wp_seq ?_
    refine regS K0 [1, 3, 5, 6, 27] hS rfl rfl trivial fun β a w hS => ?_
    refine cnd hS rfl (fun hlt => wp_skip ?_) (fun hge => wp_exit ?_)
    · have hlt : i < 8 := by have : (i : Int) < 8 := by simpa using hlt
                             omega
      refine wp_seq ?_
      refine wp_block ?_
      refine regS K0 [1, 3, 5, 6, 35] hS rfl rfl ⟨⟨by omega, by omega⟩, trivial⟩ fun β a w hS => ?_
      refine cnd hS rfl (fun h => ?_) (fun h => wp_skip ?_)
      · have h : (s.game.ships i).on = true := h
        refine reg K0 [1, 3, 5, 6] hS rfl rfl trivial fun β a w hS => ?_
        refine reg K0 [1, 3, 5, 6] hS rfl rfl trivial fun β a w hS => ?_
        refine ⟨i + 1, β, hlt, Nat.sub_lt_sub_left hlt (Nat.lt_succ_self i), Ste.sub hS ⟨rfl, rfl, ?_, up8 hlt, trivial⟩⟩
        show some (B.d (.v (.int .i64 (IntKind.i64.wrap (((49 + 18 * s.game.n + 21 * ons s i : Nat) : Int) + 21))))) = _
        rw [wr64 (by omega)]
        simp only [ons, h, if_true]
        have : (((49 + 18 * s.game.n + 21 * ons s i : Nat) : Int) + 21) = ((49 + 18 * s.game.n + 21 * (ons s i + 1) : Nat) : Int) := by omega
        rw [this]; rfl
      · have h : (s.game.ships i).on = false := h
        refine reg K0 [1, 3, 5, 6] hS rfl rfl trivial fun β a w hS => ?_
        refine ⟨i + 1, β, hlt, Nat.sub_lt_sub_left hlt (Nat.lt_succ_self i), Ste.sub hS ⟨rfl, rfl, ?_, up8 hlt, trivial⟩⟩
        simp only [ons, h, Bool.false_eq_true, if_false]
        rfl
    · have hge : i = 8 := by have : ¬ ((i : Int) < 8) := by simpa using hge
                             omega
      subst hge
      refine regS K8 [2] hS rfl rfl trivial fun β a w hS => ?_
      refine wp_ret (fret1 K0 rfl hS rfl trivial ?_)
      have e1 : ((l.length : Int) == ((49 + 18 * s.game.n + 21 * ons s 8 : Nat) : Int)) = true := by rw [hlen]; exact beq_self_eq_true _
      have e2 : decide (((49 + 18 * s.game.n + 21 * ons s 8 : Nat) : Int) ≤ 793) = true := by rw [decide_eq_true_eq]; omega
      show bol ((true && ((l.length : Int) == ((49 + 18 * s.game.n + 21 * ons s 8 : Nat) : Int))) && decide (((49 + 18 * s.game.n + 21 * ons s 8 : Nat) : Int) ≤ 793)) = bol true
      rw [e1, e2]
      rfl

end Go.CE

/- Contracts: which ships, games may be, as the document says it. -/
namespace Go.CE
open Go.RowKit Go.Proofs

theorem c_rin (x : Int) : PureOk Try.prog T 53 [.v (.int .i32 x)] (.v (.bool (onB x))) := by
  intro β w A ho
  refine enter [.v (.int .i32 x)] Try.func53 rfl rfl rfl (scalar_ok ho ⟨trivial, trivial⟩) fun a hS => ?_
  refine regS K0 [0, 1] hS rfl rfl trivial fun β a w hS => ?_
  refine regS K0 [2] hS rfl rfl trivial fun β a w hS => ?_
  exact wp_ret (ret1 rfl hS rfl ⟨rfl, hS.ss.keep.toBelow⟩)
theorem c_rslow (x m : Int) : PureOk Try.prog T 54 [.v (.int .i32 x), .v (.int .i32 m)] (.v (.bool (sizeB x m))) := by
  intro β w A ho
  refine enter [.v (.int .i32 x), .v (.int .i32 m)] Try.func54 rfl rfl rfl (scalar_ok ho ⟨trivial, trivial, trivial⟩) fun a hS => ?_
  refine regS K0 [0, 1] hS rfl rfl trivial fun β a w hS => ?_
  refine regS K0 [4] hS rfl rfl trivial fun β a w hS => ?_
  exact wp_ret (ret1 rfl hS rfl ⟨rfl, hS.ss.keep.toBelow⟩)
theorem e_rin : Enters Try.prog 53 := enters_of Try.func53 rfl (by kernel_rfl)
theorem e_rslow : Enters Try.prog 54 := enters_of Try.func54 rfl (by kernel_rfl)

def C9 : Calls' := fun f ds => match ds with
  | [.v (.int .i32 x)] => if Nat.beq f 53 then some (bol (onB x), .t) else none
  | [.v (.int .i32 x), .v (.int .i32 m)] => if Nat.beq f 54 then some (bol (sizeB x m), .t) else none
  | _ => none
theorem C9_ok : COk Try.prog T C9 := by
  intro f ds d q h _
  unfold C9 at h
  split at h
  · split at h
    · rename_i hf
      have hf := Nat.eq_of_beq_eq_true hf
      subst hf
      simp only [Option.some.injEq, Prod.mk.injEq] at h
      obtain ⟨rfl, rfl⟩ := h
      exact ⟨e_rin, c_rin _, fun _ _ => rfl⟩
    · cases h
  · split at h
    · rename_i hf
      have hf := Nat.eq_of_beq_eq_true hf
      subst hf
      simp only [Option.some.injEq, Prod.mk.injEq] at h
      obtain ⟨rfl, rfl⟩ := h
      exact ⟨e_rslow, c_rslow _ _, fun _ _ => rfl⟩
    · cases h
  · cases h
theorem K9 : Kit Try.prog T C9 := ⟨tab_ok, zero_ok, C9_ok, mixed⟩

theorem all_lt {p : Nat → Bool} {n : Nat} (h : ∀ j, j < n → p j = true) : (List.range n).all p = true := by
  rw [List.all_eq_true]
  exact fun j hj => h j (by simpa using hj)
theorem all_no {p : Nat → Bool} {n i : Nat} (h : i < n) (hp : p i = false) : (List.range n).all p = false := by
  rw [List.all_eq_false]
  exact ⟨i, by simpa using h, by simp [hp]⟩
theorem all_of {p : Nat → Bool} {n i : Nat} (h : (List.range n).all p = true) (hi : i < n) : p i = true := by
  rw [List.all_eq_true] at h
  exact h i (by simpa using hi)
theorem any_all {p : Nat → Bool} {n : Nat} : (!anyI (fun i => !p i) n) = (List.range n).all p := by
  cases h : (List.range n).all p with
  | true =>
    rw [anyI, fi_no fun j hj => by simp [all_of h hj]]
    rfl
  | false =>
    rw [List.all_eq_false] at h
    obtain ⟨i, hi, hp⟩ := h
    have hi : i < n := by simpa using hi
    cases hf : (List.range n).find? (fun i => !p i) with
    | none =>
      rw [List.find?_eq_none] at hf
      have := hf i (by simpa using hi)
      simp at this
      exact absurd this hp
    | some k =>
      simp only [anyI, fi, hf]
      simp

def shipB1 (s : Ship) : Bool := (!s.on) && !(D.eqb (shipD s) (shipD ship0))
def shipB2 (s : Ship) : Bool := (((((((!onB s.x) || !onB s.y) || !sizeB s.vx 524288) || !sizeB s.vy 524288) || decide (s.cool < 0)) || decide (s.cool > 10)) || decide (s.score < 0)) || decide (s.score > 1073741824)
def shotBd (s : Shot) : Bool := (((((((decide (s.owner < 0)) || decide (s.owner ≥ 8)) || !onB s.x) || !onB s.y) || !sizeB s.vx 393216) || !sizeB s.vy 393216) || decide (s.life < 1)) || decide (s.life > 24)

theorem nd_lt {a b : Int} : decide (a < b) = !decide (a ≥ b) := by by_cases h : a < b <;> simp [h] <;> omega
theorem nd_gt {a b : Int} : decide (a > b) = !decide (a ≤ b) := by by_cases h : a > b <;> simp [h] <;> omega
theorem nd_ge {a b : Int} : decide (a ≥ b) = !decide (a < b) := by by_cases h : a ≥ b <;> simp [h] <;> omega

theorem ship_eqb {a b : Ship} : D.eqb (shipD a) (shipD b) = true ↔ a = b := by
  obtain ⟨a0, a1, a2, a3, a4, a5, a6⟩ := a
  obtain ⟨b0, b1, b2, b3, b4, b5, b6⟩ := b
  simp only [shipD, bol, i32, i64, D.eqb, D.eqbL, Bool.and_eq_true, beq_iff_eq, Bool.and_true, Ship.mk.injEq]
theorem shot_eqb {a b : Shot} : D.eqb (shotD a) (shotD b) = true ↔ a = b := by
  obtain ⟨a1, a2, a3, a4, a5, a6⟩ := a
  obtain ⟨b1, b2, b3, b4, b5, b6⟩ := b
  simp only [shotD, i32, i64, D.eqb, D.eqbL, Bool.and_eq_true, beq_iff_eq, Bool.and_true, Shot.mk.injEq]
theorem seat_eqb {a b : Seat} : D.eqb (seatD a) (seatD b) = true ↔ a = b := by
  obtain ⟨a1, a2⟩ := a
  obtain ⟨b1, b2⟩ := b
  simp only [seatD, i64, D.eqb, D.eqbL, Bool.and_eq_true, beq_iff_eq, Bool.and_true, Seat.mk.injEq]

theorem may_ship (s : Ship) : mayShipB s = ((!shipB1 s) && !shipB2 s) := by
  unfold mayShipB shipB1
  cases h : s.on with
  | true =>
    simp only [if_true, shipB2, nd_lt, Bool.not_or, Bool.not_not, Bool.not_true, Bool.false_and, Bool.not_false, Bool.true_and]
  | false =>
    simp only [Bool.false_eq_true, if_false, Bool.not_false, Bool.true_and, Bool.not_not]
    cases he : D.eqb (shipD s) (shipD ship0) with
    | false => rfl
    | true =>
      have he := ship_eqb.1 he
      subst he
      rfl
theorem may_shot (s : Shot) : mayShotB s = !shotBd s := by
  simp only [mayShotB, shotBd, nd_lt, Bool.not_or, Bool.not_not]

theorem mayGame_eq (g : Game) : mayGameB g = (!((decide (g.frame < 0) || decide (g.frame > 1048576)) || decide ((g.n : Int) > 32)) && ((List.range 8).all (fun i => (!shipB1 (g.ships i)) && !shipB2 (g.ships i)) && (List.range g.n).all (fun i => !shotBd (g.shots i)))) := by
  simp only [mayGameB, any_all, ← may_ship, ← may_shot]

theorem c_rmayGame (x : Value) (g : Game) : Fun Try.prog T 27 [gameD x g] fun y => y = bol (mayGameB g) := by
  rw [mayGame_eq]
  refine Con.intro Try.func27 rfl rfl rfl rfl fun G w0 β0 β a w hS => ?_
  refine regS K0 [1] hS rfl rfl trivial fun β a w hS => ?_
  refine wp_seq ?_
  refine regS K0 [1, 20] hS rfl rfl trivial fun β a w hS => ?_
  refine cnd hS rfl (fun h => ?_) (fun h => wp_skip ?_)
  · have h : ((decide (g.frame < 0) || decide (g.frame > 1048576)) || decide ((g.n : Int) > 32)) = true := h
    refine regS K0 [2] hS rfl rfl trivial fun β a w hS => ?_
    refine wp_ret (fret1 K0 rfl hS rfl trivial ?_)
    simp only [h]
    rfl
  have h1 : ((decide (g.frame < 0) || decide (g.frame > 1048576)) || decide ((g.n : Int) > 32)) = false := h
  simp only [h1, Bool.not_false, Bool.true_and]
  have hn : g.n ≤ maxLen := by
    simp only [Bool.or_eq_false_iff, decide_eq_false_iff_not] at h1
    simp only [maxLen]
    omega
  refine wp_seq ?_
  refine regS K0 [1, 3] hS rfl rfl trivial fun β a w hS => ?_
  refine wp_block ?_
  refine lop (fun i : Nat => 8 - i) (fun i => i ≤ 8 ∧ ∀ j, j < i → ((!shipB1 (g.ships j)) && !shipB2 (g.ships j)) = true) (fun i => [(1, .d (.p 0 [])), (3, .d (i64 i))]) (fun _ => [.var 28 (gameD x g)]) 0 ⟨Nat.zero_le _, fun j hj => absurd hj (Nat.not_lt_zero _)⟩ (Ste.sub hS ⟨rfl, rfl, trivial⟩) ?_
  rintro i ⟨hi, hp⟩ β a w hS
  refine wp_seq ?_
  refine regS K0 [1, 3, 22] hS rfl rfl trivial fun β a w hS => ?_
  refine cnd hS rfl (fun hlt => wp_skip ?_) (fun hge => wp_exit ?_)
  · have hlt : i < 8 := by have : (i : Int) < 8 := by simpa using hlt
                           omega
    refine wp_seq ?_
    refine wp_block ?_
    refine regS K0 [1, 3, 4] hS rfl rfl ⟨⟨by omega, by omega⟩, trivial⟩ fun β a w hS => ?_
    refine wp_seq ?_
    refine regS K0 [1, 3, 4, 36] hS rfl rfl trivial fun β a w hS => ?_
    refine cnd hS rfl (fun h => ?_) (fun h => wp_skip ?_)
    · refine regS K0 [2] hS rfl rfl trivial fun β a w hS => ?_
      refine wp_ret (fret1 K0 rfl hS rfl trivial ?_)
      have h : shipB1 (g.ships i) = true := h
      rw [all_no hlt (by simp only [h]; rfl)]
      rfl
    · have hb1 : shipB1 (g.ships i) = false := h
      refine regS K9 [1, 3, 78] hS rfl rfl trivial fun β a w hS => ?_
      refine cnd hS rfl (fun h => ?_) (fun h => wp_skip ?_)
      · refine regS K0 [2] hS rfl rfl trivial fun β a w hS => ?_
        refine wp_ret (fret1 K0 rfl hS rfl trivial ?_)
        have h : shipB2 (g.ships i) = true := h
        rw [all_no hlt (by simp only [h, Bool.not_true, Bool.and_false])]
        rfl
      · have hb2 : shipB2 (g.ships i) = false := h
        refine reg K0 [1, 3] hS rfl rfl trivial fun β a w hS => ?_
        have hS := hS.drop (L1 := [_]) (J := [_]) rfl (by rw [pinsOf_len]; exact Nat.zero_le _) ⟨trivial, Nat.zero_lt_one, trivial⟩ ⟨Cl.idx _ _ (game_cl x g), trivial⟩
        exact ⟨i + 1, β, ⟨hlt, fun j hj => by rcases Nat.lt_succ_iff_lt_or_eq.1 hj with h | rfl; exact hp j h; simp only [hb1, hb2]; rfl⟩, Nat.sub_lt_sub_left hlt (Nat.lt_succ_self i), Ste.sub hS ⟨rfl, up8 hlt, trivial⟩⟩
  · have hge : i = 8 := by have : ¬ ((i : Int) < 8) := by simpa using hge
                           omega
    subst hge
    rw [all_lt hp, Bool.true_and]
    refine wp_seq ?_
    refine regS K0 [1, 5] hS rfl rfl trivial fun β a w hS => ?_
    refine wp_block ?_
    refine lop (fun i : Nat => g.n - i) (fun i => i ≤ g.n ∧ ∀ j, j < i → (!shotBd (g.shots j)) = true) (fun i => [(1, .d (.p 0 [])), (5, .d (i64 i))]) (fun _ => [.var 28 (gameD x g)]) 0 ⟨Nat.zero_le _, fun j hj => absurd hj (Nat.not_lt_zero _)⟩ (Ste.sub hS ⟨rfl, rfl, trivial⟩) ?_
    rintro i ⟨hi, hq⟩ β a w hS
    refine wp_seq ?_
    refine regS K0 [1, 5, 83] hS rfl rfl trivial fun β a w hS => ?_
    refine cnd hS rfl (fun hlt => wp_skip ?_) (fun hge => wp_exit ?_)
    · have hlt : i < g.n := by simpa using hlt
      refine wp_seq ?_
      refine wp_block ?_
      refine regS K0 [1, 5, 6] hS rfl rfl ⟨⟨by omega, by omega, rfl⟩, trivial⟩ fun β a w hS => ?_
      refine regS K9 [1, 5, 132] hS rfl rfl trivial fun β a w hS => ?_
      refine cnd hS rfl (fun h => ?_) (fun h => wp_skip ?_)
      · refine regS K0 [2] hS rfl rfl trivial fun β a w hS => ?_
        refine wp_ret (fret1 K0 rfl hS rfl trivial ?_)
        have h : shotBd (g.shots i) = true := h
        rw [all_no hlt (by simp only [h]; rfl)]
        rfl
      · have hb : shotBd (g.shots i) = false := h
        refine reg K0 [1, 5] hS rfl rfl trivial fun β a w hS => ?_
        have hS := hS.drop (L1 := [_]) (J := [_]) rfl (by rw [pinsOf_len]; exact Nat.zero_le _) ⟨trivial, Nat.zero_lt_one, trivial⟩ ⟨Cl.idx _ _ (game_cl x g), trivial⟩
        exact ⟨i + 1, β, ⟨hlt, fun j hj => by rcases Nat.lt_succ_iff_lt_or_eq.1 hj with h | rfl; exact hq j h; simp only [hb]; rfl⟩, Nat.sub_lt_sub_left hlt (Nat.lt_succ_self i), Ste.sub hS ⟨rfl, up1d hlt hn, trivial⟩⟩
    · have hge : i = g.n := by have : ¬ ((i : Int) < g.n) := by simpa using hge
                               omega
      refine regS K0 [2] hS rfl rfl trivial fun β a w hS => ?_
      refine wp_ret (fret1 K0 rfl hS rfl trivial ?_)
      rw [all_lt (hge ▸ hq)]
      rfl

theorem c_few (x : Value) (g : Game) : Fun Try.prog T 8 [gameD x g] fun y => y = bol (decide ((g.n : Int) ≤ 60)) := by
  refine Con.intro Try.func8 rfl rfl rfl rfl fun G w0 β0 β a w hS => ?_
  refine regS K0 [1] hS rfl rfl trivial fun β a w hS => ?_
  refine regS K0 [2] hS rfl rfl trivial fun β a w hS => ?_
  exact wp_ret (fret1 K0 rfl hS rfl trivial rfl)

end Go.CE

/- Plain: which rosters may be, told by bits and told by pairs. -/
namespace Go.CE
open Go.RowKit Go.Proofs

theorem i64_bit {n : Nat} (h : n < 4611686018427387904) : (BitVec.ofInt 64 (n : Int)).toNat = n := by
  rw [BitVec.toNat_ofInt]
  omega
theorem i64_nat {n : Nat} (h : n < 4611686018427387904) : IntKind.i64.wrap (n : Int) = n := IntWalk.i64_in _ ⟨by omega, by omega⟩
theorem or_nat {m n : Nat} (hm : m < 8192) (hn : n < 8192) : bitI .or .i64 (m : Int) (n : Int) = ((m ||| n : Nat) : Int) := by
  have h : m ||| n < 8192 := Nat.or_lt_two_pow (n := 13) hm hn
  show IntKind.i64.wrap (((BitVec.ofInt 64 (m : Int) ||| BitVec.ofInt 64 (n : Int)).toNat : Nat) : Int) = _
  rw [BitVec.toNat_or, i64_bit (by omega), i64_bit (by omega), i64_nat (by omega)]
theorem and_nat {m n : Nat} (hm : m < 8192) (hn : n < 8192) : bitI .and .i64 (m : Int) (n : Int) = ((m &&& n : Nat) : Int) := by
  have h : m &&& n ≤ m := Nat.and_le_left
  show IntKind.i64.wrap (((BitVec.ofInt 64 (m : Int) &&& BitVec.ofInt 64 (n : Int)).toNat : Nat) : Int) = _
  rw [BitVec.toNat_and, i64_bit (by omega), i64_bit (by omega), i64_nat (by omega)]

def bitN (p : Int) : Nat := if p < 0 then 0 else 2 ^ (p + 1).toNat
theorem bit_all : ∀ p : Fin 13, bitOf ((p.val : Int) - 1) = (bitN ((p.val : Int) - 1) : Nat) ∧ bitN ((p.val : Int) - 1) < 8192 := by decide +kernel
theorem bit_of {p : Int} (h1 : -1 ≤ p) (h2 : p < 12) : bitOf p = (bitN p : Nat) ∧ bitN p < 8192 := by
  have h := bit_all ⟨(p + 1).toNat, by omega⟩
  have e : (((p + 1).toNat : Nat) : Int) - 1 = p := by omega
  simp only [e] at h
  exact h

theorem seatA_no {s : Seat} (h : seatA s = false) : -1 ≤ s.peer ∧ s.peer < 12 ∧ 0 ≤ s.gen ∧ s.gen ≤ 60000 := by
  simp only [seatA, Bool.or_eq_false_iff, decide_eq_false_iff_not] at h
  omega

def seenN (f : Nat → Seat) : Nat → Nat
  | 0 => 0
  | i + 1 => seenN f i ||| bitN (f i).peer
def seenI (f : Nat → Seat) (i : Nat) : Int := run1s (fun i s => seatS (f i) s) 0 i
theorem seen_eq {f : Nat → Seat} : ∀ {n : Nat}, (∀ j, j < n → seatA (f j) = false) → seenI f n = (seenN f n : Nat) ∧ seenN f n < 8192
  | 0, _ => ⟨rfl, Nat.zero_lt_succ _⟩
  | n + 1, h => by
    obtain ⟨h1, h2⟩ := seen_eq (n := n) fun j hj => h j (Nat.lt_succ_of_lt hj)
    have hn := h n (Nat.lt_succ_self n)
    obtain ⟨a1, a2, _⟩ := seatA_no hn
    obtain ⟨b1, b2⟩ := bit_of a1 a2
    show seatS (f n) (seenI f n) = _ ∧ _
    rw [seatS, hn, h1, b1]
    simp only [Bool.false_eq_true, if_false]
    rw [or_nat h2 b2]
    exact ⟨rfl, Nat.or_lt_two_pow (n := 13) h2 b2⟩
theorem seen_bit {f : Nat → Seat} {q : Nat} : ∀ {n : Nat}, (seenN f n).testBit (q + 1) = true ↔ ∃ k, k < n ∧ (f k).peer = q
  | 0 => by simp [seenN]
  | n + 1 => by
    have hb : (bitN (f n).peer).testBit (q + 1) = true ↔ (f n).peer = q := by
      unfold bitN
      split
      · rename_i h
        simp only [Nat.zero_testBit, Bool.false_eq_true, false_iff]
        omega
      · rename_i h
        rw [Nat.testBit_two_pow]
        simp only [decide_eq_true_eq]
        omega
    simp only [seenN, Nat.testBit_or, Bool.or_eq_true, seen_bit (n := n), hb]
    constructor
    · rintro (⟨k, hk, h⟩ | h)
      · exact ⟨k, Nat.lt_succ_of_lt hk, h⟩
      · exact ⟨n, Nat.lt_succ_self n, h⟩
    · rintro ⟨k, hk, h⟩
      rcases Nat.lt_succ_iff_lt_or_eq.1 hk with hk | rfl
      · exact .inl ⟨k, hk, h⟩
      · exact .inr h

def seatC (s : Seat) : Bool := seatA s || (decide (s.peer ≥ 0) && decide (s.gen < 1))
def seatP (s k : Seat) : Bool := decide (s.peer ≥ 0) && (k.peer == s.peer)
def seatOk (f : Nat → Seat) (i : Nat) : Bool := (!seatC (f i)) && (List.range i).all fun k => !seatP (f i) (f k)

theorem bit_nz {s : Seat} (h : seatA s = false) : (bitOf s.peer != 0) = decide (s.peer ≥ 0) := by
  obtain ⟨a1, a2, _⟩ := seatA_no h
  rw [(bit_of a1 a2).1, bitN]
  have : 0 < 2 ^ (s.peer + 1).toNat := Nat.pow_pos (by decide)
  by_cases hp : s.peer < 0
  · rw [if_pos hp]
    have : ¬ s.peer ≥ 0 := by omega
    simp [this]
  · rw [if_neg hp]
    have hq : s.peer ≥ 0 := by omega
    simp only [hq, decide_true, bne_iff_ne, ne_eq]
    omega
theorem and_zero {m q : Nat} : ¬ (2 ^ q &&& m) = 0 ↔ m.testBit q = true := by
  constructor
  · intro h
    cases hb : m.testBit q with
    | true => rfl
    | false =>
      refine absurd (Nat.eq_of_testBit_eq fun i => ?_) h
      rw [Nat.testBit_and, Nat.testBit_two_pow, Nat.zero_testBit]
      by_cases e : q = i
      · subst e; simp [hb]
      · simp [e]
  · intro h e
    have : (2 ^ q &&& m).testBit q = true := by rw [Nat.testBit_and, Nat.testBit_two_pow, h]; simp
    rw [e, Nat.zero_testBit] at this
    cases this
theorem seatB_eq {f : Nat → Seat} {i : Nat} (h : ∀ j, j ≤ i → seatA (f j) = false) : seatB (f i) (seenI f i) = !seatOk f i := by
  obtain ⟨h1, h2⟩ := seen_eq (n := i) fun j hj => h j (Nat.le_of_lt hj)
  have hi := h i (Nat.le_refl i)
  obtain ⟨a1, a2, a3, a4⟩ := seatA_no hi
  obtain ⟨b1, b2⟩ := bit_of a1 a2
  have e1 : (bitI .and .i64 (bitOf (f i).peer) (seenI f i) != 0) = !((List.range i).all fun k => !seatP (f i) (f k)) := by
    rw [h1, b1, and_nat b2 h2]
    have hR : (!((List.range i).all fun k => !seatP (f i) (f k))) = true ↔ ∃ k, k < i ∧ (f i).peer ≥ 0 ∧ (f k).peer = (f i).peer := by
      rw [Bool.not_eq_true', List.all_eq_false]
      constructor
      · rintro ⟨k, hk, h⟩
        simp only [seatP, Bool.not_eq_true', Bool.not_eq_false, Bool.and_eq_true, decide_eq_true_eq, beq_iff_eq] at h
        exact ⟨k, by simpa using hk, h.1, h.2⟩
      · rintro ⟨k, hk, h⟩
        refine ⟨k, by simpa using hk, ?_⟩
        simp only [seatP, Bool.not_eq_true', Bool.not_eq_false, Bool.and_eq_true, decide_eq_true_eq, beq_iff_eq]
        exact h
    rw [Bool.eq_iff_iff, hR]
    simp only [bne_iff_ne, ne_eq, Int.natCast_eq_zero]
    unfold bitN
    by_cases hp : (f i).peer < 0
    · rw [if_pos hp]
      simp only [Nat.zero_and]
      constructor
      · intro h; exact absurd trivial h
      · rintro ⟨k, _, hk, _⟩; omega
    · rw [if_neg hp, and_zero]
      obtain ⟨q, hq⟩ : ∃ q : Nat, (f i).peer = q := ⟨(f i).peer.toNat, by omega⟩
      have e : ((f i).peer + 1).toNat = q + 1 := by omega
      rw [e, hq, seen_bit]
      constructor
      · rintro ⟨k, hk, h⟩; exact ⟨k, hk, by omega, h⟩
      · rintro ⟨k, hk, _, h⟩; exact ⟨k, hk, h⟩
  have e2 : ((f i).gen == 0) = decide ((f i).gen < 1) := by
    rw [Bool.eq_iff_iff]
    simp only [beq_iff_eq, decide_eq_true_eq]
    omega
  unfold seatB seatOk seatC
  rw [hi, e1, bit_nz hi, e2]
  simp only [Bool.false_eq_true, if_false, Bool.false_or, Bool.not_and, Bool.not_or, Bool.not_not]
  cases (List.range i).all fun k => !seatP (f i) (f k) <;> cases decide ((f i).peer ≥ 0) <;> cases decide ((f i).gen < 1) <;> rfl
theorem seat_all {f : Nat → Seat} (n : Nat) : (!anyI (fun i => seatB (f i) (seenI f i)) n) = (List.range n).all (seatOk f) := by
  have e : (fun i => seatB (f i) (seenI f i)) = fun i => !(!seatB (f i) (seenI f i)) := by funext i; rw [Bool.not_not]
  rw [e, any_all, Bool.eq_iff_iff]
  constructor
  · intro h
    refine all_lt fun i hi => ?_
    have hb : ∀ j, j ≤ i → seatB (f j) (seenI f j) = false := fun j hj => by simpa using all_of h (Nat.lt_of_le_of_lt hj hi)
    have ha : ∀ j, j ≤ i → seatA (f j) = false := fun j hj => by
      have := hb j hj
      unfold seatB at this
      cases h : seatA (f j) with
      | false => rfl
      | true => rw [h] at this; simp at this
    have := hb i (Nat.le_refl i)
    rw [seatB_eq ha] at this
    simpa using this
  · intro h
    refine all_lt fun i hi => ?_
    have ha : ∀ j, j ≤ i → seatA (f j) = false := fun j hj => by
      have := all_of h (Nat.lt_of_le_of_lt hj hi)
      simp only [seatOk, seatC, Bool.and_eq_true, Bool.not_eq_true', Bool.or_eq_false_iff] at this
      exact this.1.1
    rw [seatB_eq ha, Bool.not_not]
    exact all_of h hi

theorem mayRoster_eq (r : Roster) : mayRosterB r = ((!(decide (r.version < 0) || decide (r.version > 1073741824))) && (List.range 8).all (seatOk r.seats)) := by
  rw [← seat_all 8]
  simp only [mayRosterB, nd_lt, Bool.not_or, Bool.not_not]
  rfl

end Go.CE

/- Contracts: which rosters, which states may be, as the document says it. -/
namespace Go.CE
open Go.RowKit Go.Proofs

theorem c_rmayRoster (r : Roster) : Fun Try.prog T 28 [rosterD r] fun y => y = bol (mayRosterB r) := by
  rw [mayRoster_eq]
  refine Con.intro Try.func28 rfl rfl rfl rfl fun G w0 β0 β a w hS => ?_
  refine regS K0 [1] hS rfl rfl trivial fun β a w hS => ?_
  refine wp_seq ?_
  refine regS K0 [1, 13] hS rfl rfl trivial fun β a w hS => ?_
  refine cnd hS rfl (fun h => ?_) (fun h => wp_skip ?_)
  · have h : (decide (r.version < 0) || decide (r.version > 1073741824)) = true := h
    refine regS K0 [2] hS rfl rfl trivial fun β a w hS => ?_
    refine wp_ret (fret1 K0 rfl hS rfl trivial ?_)
    rw [h]
    rfl
  have h1 : (decide (r.version < 0) || decide (r.version > 1073741824)) = false := h
  rw [h1, Bool.not_false, Bool.true_and]
  refine wp_seq ?_
  refine regS K0 [1, 3] hS rfl rfl trivial fun β a w hS => ?_
  refine wp_block ?_
  refine lop (fun i : Nat => 8 - i) (fun i => i ≤ 8 ∧ ∀ j, j < i → seatOk r.seats j = true) (fun i => [(1, .d (.p 0 [])), (3, .d (i64 i))]) (fun _ => [.var 33 (rosterD r)]) 0 ⟨Nat.zero_le _, fun j hj => absurd hj (Nat.not_lt_zero _)⟩ (Ste.sub hS ⟨rfl, rfl, trivial⟩) ?_
  rintro i ⟨hi, hp⟩ β a w hS
  refine wp_seq ?_
  refine regS K0 [1, 3, 15] hS rfl rfl trivial fun β a w hS => ?_
  refine cnd hS rfl (fun hlt => wp_skip ?_) (fun hge => wp_exit ?_)
  · have hlt : i < 8 := by have : (i : Int) < 8 := by simpa using hlt
                           omega
    refine wp_seq ?_
    refine wp_block ?_
    refine regS K0 [1, 3, 4] hS rfl rfl ⟨⟨by omega, by omega⟩, trivial⟩ fun β a w hS => ?_
    refine wp_seq ?_
    refine wp_seq (regn K0 19 hS rfl trivial fun β a w hS => ?_)
    cases hb : seatA (r.seats i) with
    | true =>
      refine skips (tc := 40) (b := true) (by rw [← hb]; rfl) _ [] hS (by simp) rfl fun a hS => ?_
      refine pick1 hS rfl rfl (b := true) (by rw [← hb]; rfl) ?_
      refine rege K0 [1, 3, 4, 49] hS rfl rfl trivial fun β a w hS => ?_
      refine cnd hS rfl (fun h => ?_) (fun h => absurd h (by decide))
      refine regS K0 [2] hS rfl rfl trivial fun β a w hS => ?_
      refine wp_ret (fret1 K0 rfl hS rfl trivial ?_)
      rw [all_no hlt (by simp only [seatOk, seatC, hb]; rfl)]
      rfl
    | false =>
    refine regon K0 4 hS rfl trivial fun β a w hS => ?_
    have hS := hS.knw (tc := 40) (b := false) [1, 3, 4, 40, 44] (by rw [← hb]; rfl) rfl
    refine regon K0 3 hS rfl trivial fun β a w hS => ?_
    refine want1 hS rfl rfl (tc := 40) (by rw [← hb]; rfl) ?_
    refine rego K0 hS rfl trivial fun β a w hS => ?_
    refine pick1 hS rfl rfl (b := false) (by rw [← hb]; rfl) ?_
    refine rege K0 [1, 3, 4, 49] hS rfl rfl trivial fun β a w hS => ?_
    refine cnd hS rfl (fun h => ?_) (fun h => wp_skip ?_)
    · refine regS K0 [2] hS rfl rfl trivial fun β a w hS => ?_
      refine wp_ret (fret1 K0 rfl hS rfl trivial ?_)
      have h : (decide ((r.seats i).peer ≥ 0) && decide ((r.seats i).gen < 1)) = true := h
      rw [all_no hlt (by simp only [seatOk, seatC, hb, h]; rfl)]
      rfl
    · have h : (decide ((r.seats i).peer ≥ 0) && decide ((r.seats i).gen < 1)) = false := h
      have hc : seatC (r.seats i) = false := by simp only [seatC, hb, h]; rfl
      refine regS K0 [1, 3, 4, 5] hS rfl rfl trivial fun β a w hS => ?_
      refine wp_block ?_
      refine lop (fun k : Nat => i - k) (fun k => k ≤ i ∧ ∀ j, j < k → (!seatP (r.seats i) (r.seats j)) = true) (fun k => [(1, .d (.p 0 [])), (3, .d (i64 i)), (4, .d (.p 1 [])), (5, .d (i64 k))]) (fun _ => [.var 33 (rosterD r), .var 30 (seatD (r.seats i))]) 0 ⟨Nat.zero_le _, fun j hj => absurd hj (Nat.not_lt_zero _)⟩ (Ste.sub hS ⟨rfl, rfl, rfl, rfl, trivial⟩) ?_
      rintro k ⟨hk, hq⟩ β a w hS
      refine wp_seq ?_
      refine regS K0 [1, 3, 4, 5, 52] hS rfl rfl trivial fun β a w hS => ?_
      refine cnd hS rfl (fun hkt => wp_skip ?_) (fun hkg => wp_exit ?_)
      · have hkt : k < i := by simpa using hkt
        refine wp_seq ?_
        refine wp_block ?_
        refine regqS K0 [1, 3, 4, 5, 67] (by kernel_rfl) hS rfl rfl ⟨fun _ => ⟨by omega, by omega⟩, trivial⟩ fun a w hS => ?_
        refine cnd hS rfl (fun h => ?_) (fun h => wp_skip ?_)
        · refine regS K0 [2] hS rfl rfl trivial fun β a w hS => ?_
          refine wp_ret (fret1 K0 rfl hS rfl trivial ?_)
          have h : seatP (r.seats i) (r.seats k) = true := h
          rw [all_no hlt (by simp only [seatOk, all_no (p := fun k => !seatP (r.seats i) (r.seats k)) hkt (by simp only [h]; rfl), Bool.and_false])]
          rfl
        · have hb : seatP (r.seats i) (r.seats k) = false := h
          refine reg K0 [1, 3, 4, 5] hS rfl rfl trivial fun β a w hS => ?_
          exact ⟨k + 1, β, ⟨hkt, fun j hj => by rcases Nat.lt_succ_iff_lt_or_eq.1 hj with h | rfl; exact hq j h; simp only [hb]; rfl⟩, Nat.sub_lt_sub_left hkt (Nat.lt_succ_self k), Ste.sub hS ⟨rfl, rfl, rfl, up1d hkt (by simp only [maxLen]; omega), trivial⟩⟩
      · have hkg : k = i := by have : ¬ ((k : Int) < i) := by simpa using hkg
                               omega
        refine reg K0 [1, 3] hS rfl rfl trivial fun β a w hS => ?_
        have hS := hS.drop (L1 := [_]) (J := [_]) rfl (by rw [pinsOf_len]; exact Nat.zero_le _) ⟨trivial, Nat.zero_lt_one, trivial⟩ ⟨Cl.idx _ _ (roster_cl r), trivial⟩
        exact ⟨i + 1, β, ⟨hlt, fun j hj => by rcases Nat.lt_succ_iff_lt_or_eq.1 hj with h | rfl; exact hp j h; simp only [seatOk, hc, all_lt (hkg ▸ hq)]; rfl⟩, Nat.sub_lt_sub_left hlt (Nat.lt_succ_self i), Ste.sub hS ⟨rfl, up8 hlt, trivial⟩⟩
  · have hge : i = 8 := by have : ¬ ((i : Int) < 8) := by simpa using hge
                           omega
    subst hge
    refine regS K0 [2] hS rfl rfl trivial fun β a w hS => ?_
    refine wp_ret (fret1 K0 rfl hS rfl trivial ?_)
    rw [all_lt hp]
    rfl

theorem e_rmayGame : Enters Try.prog 27 := enters_of Try.func27 rfl (by kernel_rfl)
theorem e_rmayRoster : Enters Try.prog 28 := enters_of Try.func28 rfl (by kernel_rfl)

def CA : Calls' := fun f ds => match ds with
  | [d] => if Nat.beq f 27 then some (bol (mayGameB (unGame d)), .c (∃ x g, d = gameD x g)) else
      if Nat.beq f 28 then some (bol (mayRosterB (unRoster d)), .c (∃ r, d = rosterD r)) else none
  | _ => none
theorem CA_ok : COk Try.prog T CA := by
  intro f ds d q h hq
  unfold CA at h
  split at h
  · split at h
    · rename_i hf
      have hf := Nat.eq_of_beq_eq_true hf
      subst hf
      simp only [Option.some.injEq, Prod.mk.injEq] at h
      obtain ⟨rfl, rfl⟩ := h
      obtain ⟨x, g, rfl⟩ := hq
      exact ⟨e_rmayGame, (c_rmayGame x g).pure ⟨game_cl x g, trivial⟩, fun _ _ => rfl⟩
    · split at h
      · rename_i hf
        have hf := Nat.eq_of_beq_eq_true hf
        subst hf
        simp only [Option.some.injEq, Prod.mk.injEq] at h
        obtain ⟨rfl, rfl⟩ := h
        obtain ⟨r, rfl⟩ := hq
        exact ⟨e_rmayRoster, (c_rmayRoster r).pure ⟨roster_cl r, trivial⟩, fun _ _ => rfl⟩
      · cases h
  · cases h
theorem KA : Kit Try.prog T CA := ⟨tab_ok, zero_ok, CA_ok, mixed⟩

theorem c_rmayState (x : Value) (s : State) : Fun Try.prog T 11 [stateD x s] fun y => y = bol (mayStateB s) := by
  refine Con.intro Try.func11 rfl rfl rfl rfl fun G w0 β0 β a w hS => ?_
  refine regS K0 [1] hS rfl rfl trivial fun β a w hS => ?_
  refine wp_seq ?_
  refine regS KA [1, 13] hS rfl rfl ⟨fun _ => ⟨_, rfl⟩, ⟨_, _, rfl⟩, trivial⟩ fun β a w hS => ?_
  refine cnd hS rfl (fun h => ?_) (fun h => wp_skip ?_)
  · refine regS K0 [2] hS rfl rfl trivial fun β a w hS => ?_
    refine wp_ret (fret1 K0 rfl hS rfl trivial ?_)
    have h : (!mayGameB s.game || !mayRosterB s.roster) = true := h
    have : (mayGameB s.game && mayRosterB s.roster) = false := by
      cases h1 : mayGameB s.game <;> cases h2 : mayRosterB s.roster <;> simp_all
    simp only [mayStateB, this]
    rfl
  have h : (!mayGameB s.game || !mayRosterB s.roster) = false := h
  have hmm : (mayGameB s.game && mayRosterB s.roster) = true := by
    cases h1 : mayGameB s.game <;> cases h2 : mayRosterB s.roster <;> simp_all
  refine wp_seq ?_
  refine regS K0 [1, 3] hS rfl rfl trivial fun β a w hS => ?_
  refine wp_block ?_
  refine lop (fun i : Nat => 8 - i) (fun i => i ≤ 8 ∧ ∀ j, j < i → fits s j = true) (fun i => [(1, .d (.p 0 [])), (3, .d (i64 i))]) (fun _ => [.var 35 (stateD x s)]) 0 ⟨Nat.zero_le _, fun j hj => absurd hj (Nat.not_lt_zero _)⟩ (Ste.sub hS ⟨rfl, rfl, trivial⟩) ?_
  rintro i ⟨hi, hp⟩ β a w hS
  refine wp_seq ?_
  refine regS K0 [1, 3, 15] hS rfl rfl trivial fun β a w hS => ?_
  refine cnd hS rfl (fun hlt => wp_skip ?_) (fun hge => wp_exit ?_)
  · have hlt : i < 8 := by have : (i : Int) < 8 := by simpa using hlt
                           omega
    refine wp_seq ?_
    refine wp_block ?_
    refine regqS K0 [1, 3, 31] (by kernel_rfl) hS rfl rfl ⟨⟨by omega, by omega⟩, ⟨by omega, by omega⟩, trivial⟩ fun a w hS => ?_
    refine cnd hS rfl (fun hb => ?_) (fun hb => wp_skip ?_)
    · refine regS K0 [2] hS rfl rfl trivial fun β a w hS => ?_
      refine wp_ret (fret1 K0 rfl hS rfl trivial ?_)
      have hb : fits s i = false := by
        have hb : (!(fits s i)) = true := hb
        simpa using hb
      simp only [mayStateB, all_no hlt hb, Bool.and_false]
      rfl
    · have hb : fits s i = true := by
        have hb : (!(fits s i)) = false := hb
        simpa using hb
      refine reg K0 [1, 3] hS rfl rfl trivial fun β a w hS => ?_
      exact ⟨i + 1, β, ⟨hlt, fun j hj => by rcases Nat.lt_succ_iff_lt_or_eq.1 hj with h | rfl; exact hp j h; exact hb⟩, Nat.sub_lt_sub_left hlt (Nat.lt_succ_self i), Ste.sub hS ⟨rfl, up8 hlt, trivial⟩⟩
  · have hge : i = 8 := by have : ¬ ((i : Int) < 8) := by simpa using hge
                           omega
    subst hge
    refine regS K0 [2] hS rfl rfl trivial fun β a w hS => ?_
    refine wp_ret (fret1 K0 rfl hS rfl trivial ?_)
    simp only [mayStateB, all_lt hp, hmm]
    rfl

end Go.CE

/- Where two ways of a walk come together. -/
namespace Go.CE
open Go.RowKit

theorem join {P : Program} {x y : Code} {Q : Exit → Act → World → Prop} {a : Act} {w : World} (I : (Nat → Nat) → Act → World → Prop) (h : x.wp P (Exit.then (fun a w => ∃ β, I β a w) Q) a w) (hk : ∀ β a w, I β a w → y.wp P Q a w) : (Code.seq x y).wp P Q a w :=
  wp_seq (wp_mono h fun e a w => by
    cases e with
    | normal => rintro ⟨β, hI⟩; exact hk β a w hI
    | _ => exact id)

end Go.CE

/- ImageSeats: the walk. -/
namespace Go.CE
open Go.RowKit Go.Proofs

theorem e_few : Enters Try.prog 8 := enters_of Try.func8 rfl (by kernel_rfl)
theorem e_rmayState : Enters Try.prog 11 := enters_of Try.func11 rfl (by kernel_rfl)

def CB : Calls' := fun f ds => match ds with
  | [d] => if Nat.beq f 8 then some (bol (decide (((unGame d).n : Int) ≤ 60)), .c (∃ x g, d = gameD x g)) else
      if Nat.beq f 11 then some (bol (mayStateB (unState d)), .c (∃ x s, d = stateD x s)) else C8 f [d]
  | ds => C8 f ds
theorem CB_ok : COk Try.prog T CB := by
  intro f ds d q h hq
  unfold CB at h
  split at h
  · split at h
    · rename_i hf
      have hf := Nat.eq_of_beq_eq_true hf
      subst hf
      simp only [Option.some.injEq, Prod.mk.injEq] at h
      obtain ⟨rfl, rfl⟩ := h
      obtain ⟨x, g, rfl⟩ := hq
      exact ⟨e_few, (c_few x g).pure ⟨game_cl x g, trivial⟩, fun _ _ => rfl⟩
    · split at h
      · rename_i hf
        have hf := Nat.eq_of_beq_eq_true hf
        subst hf
        simp only [Option.some.injEq, Prod.mk.injEq] at h
        obtain ⟨rfl, rfl⟩ := h
        obtain ⟨x, s, rfl⟩ := hq
        exact ⟨e_rmayState, (c_rmayState x s).pure ⟨state_cl x s, trivial⟩, fun _ _ => rfl⟩
      · exact C8_ok _ _ _ _ h hq
  · exact C8_ok _ _ _ _ h hq
theorem KB : Kit Try.prog T CB := ⟨tab_ok, zero_ok, CB_ok, mixed⟩

/-- A number's place among the slots. -/
theorem mod8 (n : Int) : ∃ k : Nat, k < 8 ∧ IntKind.i64.wrap ((IntKind.u64.wrap n).tmod 8) = k := by
  refine ⟨((IntKind.u64.wrap n) % 8).toNat, by omega, ?_⟩
  have h := u64_nn n
  rw [Int.tmod_eq_emod_of_nonneg h, IntWalk.i64_in _ ⟨by omega, by omega⟩]
  omega

/-- A state, the ship of a slot put in another one's place. -/
def withShip (s : State) (k : Nat) (p : Ship) : State := ⟨{ s.game with ships := upd s.game.ships k p }, s.roster⟩
theorem with_tree (x : Value) (s : State) (k : Nat) (p : Ship) : stateD x (withShip s k p) = .st 35 [.st 28 [i64 s.game.frame, u64 s.game.dice, .ar 8 7 fun j => if j = k then shipD p else shipD (s.game.ships j), .sl 6 x s.game.n fun i => shotD (s.game.shots i)], rosterD s.roster] := by
  simp only [stateD, gameD, withShip, ship_ite]
theorem with_no {s : State} {k : Nat} {p : Ship} (hk : k < 8) (hm : mayStateB s = true) (hp : p.on = !(s.game.ships k).on) : mayStateB (withShip s k p) = false := by
  unfold mayStateB at hm ⊢
  rw [Bool.and_eq_true] at hm
  have h1 := all_of hm.2 hk
  rw [all_no hk, Bool.and_false]
  simp only [fits, beq_iff_eq] at h1
  have e : fits (withShip s k p) k = (p.on == decide ((s.roster.seats k).peer ≥ 0)) := by
    show ((if k = k then p else _ : Ship).on == _) = _
    rw [if_pos rfl]
    rfl
  rw [e, hp, h1]
  cases decide ((s.roster.seats k).peer ≥ 0) <;> rfl

theorem c_imageSeats (x : Value) (s : State) (slot : Int) : Fun Try.prog T 6 [stateD x s, i64 slot] fun y => y = bol true := by
  refine Con.intro Try.func6 rfl rfl rfl rfl fun G w0 β0 β a w hS => ?_
  refine regS K0 [1, 2] hS rfl rfl trivial fun β a w hS => ?_
  refine wp_seq ?_
  refine regS KB [1, 2, 19] hS rfl rfl ⟨fun _ => ⟨_, _, rfl⟩, ⟨_, _, rfl⟩, trivial⟩ fun β a w hS => ?_
  refine cnd hS rfl (fun h => ?_) (fun h => wp_skip ?_)
  · refine regS K8 [4] hS rfl rfl trivial fun β a w hS => ?_
    exact wp_ret (fret1 K0 rfl hS rfl trivial rfl)
  have h : (!decide ((s.game.n : Int) ≤ 60) || !mayStateB s) = false := h
  have hm : mayStateB s = true := by
    cases hm : mayStateB s with
    | true => rfl
    | false => rw [hm, Bool.not_false, Bool.or_true] at h; cases h
  clear h
  refine regS K0 [2, 5] hS rfl rfl ⟨by decide, trivial⟩ fun β a w hS => ?_
  obtain ⟨k, hk, e⟩ := mod8 slot
  have hS : Ste T w0 (pinsOf β0 0 0 G) Try.f6.ntmps [] [(2, .d (.p 0 [])), (5, .d (i64 k))] [] [.var 35 (stateD x s)] β a w := Ste.sub hS ⟨rfl, by show some (B.d (.v (.int .i64 (IntKind.i64.wrap ((IntKind.u64.wrap slot).tmod 8))))) = _; rw [e]; rfl, trivial⟩
  refine regS K0 [2, 5, 6] hS rfl rfl trivial fun β a w hS => ?_
  refine join (fun β a w => ∃ p : Ship, p.on = (!(s.game.ships k).on) ∧ Ste T w0 (pinsOf β0 0 0 G) Try.f6.ntmps [] [(2, .d (.p 0 [])), (6, .d (.p 1 []))] [] [.var 35 (stateD x s), .var 35 (stateD x (withShip s k p))] β a w) ?_ ?_
  · refine regS K0 [2, 5, 6, 31] hS rfl rfl ⟨⟨by omega, by omega⟩, trivial⟩ fun β a w hS => ?_
    refine cnd hS rfl (fun h => ?_) (fun h => ?_)
    · have h : (s.game.ships k).on = true := h
      refine reg K0 [2, 6] hS rfl rfl ⟨⟨by omega, by omega⟩, trivial⟩ fun β a w hS => ?_
      refine ⟨β, ship0, by rw [h]; rfl, ?_⟩
      rw [with_tree]
      exact Ste.sub hS ⟨rfl, rfl, trivial⟩
    · have h : (s.game.ships k).on = false := h
      refine reg K0 [2, 6] hS rfl rfl ⟨⟨by omega, by omega⟩, trivial⟩ fun β a w hS => ?_
      refine ⟨β, { s.game.ships k with on := true }, by rw [h]; rfl, ?_⟩
      rw [with_tree]
      exact Ste.sub hS ⟨rfl, rfl, trivial⟩
  rintro β a w ⟨p, hp, hS⟩
  have hno := with_no hk hm hp
  refine wp_seq (regp K0 hS rfl trivial fun β a w hS => ?_)
  refine call0 e_put (c_put x s) hS [2, 6] rfl rfl rfl rfl rfl ⟨state_cl _ _, trivial⟩ rfl ?_
  intro y hy β a w hS
  simp only [hm, if_true] at hy
  obtain ⟨x1, rfl⟩ := hy
  have hofs : (if mayStateB s = true then sumB (putB s) else 0) = sumB (putB s) := by rw [if_pos hm]
  have hoft : (if mayStateB (withShip s k p) = true then sumB (putB (withShip s k p)) else 0) = 0 := by rw [hno]; rfl
  generalize hl : putB s = l at hS hofs
  refine rege K0 [2, 6, 7, 8] hS rfl rfl trivial fun β a w hS => ?_
  refine wp_seq (regp K0 hS rfl trivial fun β a w hS => ?_)
  refine call0 e_put (c_put x (withShip s k p)) hS [2, 6, 7, 8] rfl rfl rfl rfl rfl ⟨state_cl _ _, trivial⟩ rfl ?_
  intro y hy β a w hS
  simp only [hno, Bool.false_eq_true, if_false] at hy
  subst hy
  refine rege K0 [2, 6, 7, 8, 10] hS rfl rfl trivial fun β a w hS => ?_
  refine regS K8 [4] hS rfl rfl ⟨fun _ i hi => ⟨_, rfl⟩, fun _ => ⟨_, _, rfl⟩, fun _ => ⟨_, _, rfl⟩, trivial⟩ fun β a w hS => ?_
  refine wp_ret (fret1 K0 rfl hS rfl trivial ?_)
  show bol ((((true && ((0 : Int) == 0)) && ((1 : Int) == 1)) && ((if mayStateB (withShip s k p) = true then sumB (putB (withShip s k p)) else 0) == 0)) && ((if mayStateB s = true then sumB (putB s) else 0) == sumB (listOf l.length (rowD l)))) = bol true
  rw [hl, hofs, hoft, listOf_row, beq_self_eq_true (sumB l)]
  rfl

end Go.CE

/- A small program logic, thirty-second text: an argument that can be read, as a tree (no condition: for any program whose types the table tells). -/
namespace Go.CE
open Go.RowKit

variable {P : Program} {T : Tab} {w : World}

/-- Whoever owns nothing. -/
def allD : Dom := ⟨fun _ => True, 0⟩
def TyL (c : Nat → D → Prop) : List (Nat × Nat) → List D → Prop
  | [], [] => True
  | a :: r, d :: q => c a.2 d ∧ TyL c r q
  | _, _ => False
/-- A tree of a type, whose slices read in w. -/
def Ty (T : Tab) (w : World) : Nat → Nat → D → Prop
  | 0, _, _ => False
  | m + 1, t, d => match T t with
    | some ⟨.leaf, _, _, .v (.int k _)⟩ => ∃ n, d = .v (.int k n) ∧ (Lit.int k n).wf = true
    | some ⟨.leaf, _, _, .v (.bool _)⟩ => ∃ b, d = .v (.bool b)
    | some ⟨.leaf, _, _, .v (.string _)⟩ => ∃ s : ByteArray, d = .v (.string s) ∧ s.size ≤ maxLen
    | some ⟨.st fs, _, _, _⟩ => ∃ ds, d = .st t ds ∧ TyL (Ty T w m) fs ds
    | some ⟨.ar n e sz, _, _, _⟩ => ∃ f, d = .ar n sz f ∧ ∀ i, Ty T w m e (f i)
    | some ⟨.sl e sz, _, _, _⟩ => ∃ x n f, d = .sl sz x n f ∧ SlOk T w allD sz x n f ∧ ∀ i, Ty T w m e (f i)
    | _ => False
def tyKL (c : Nat → Bool) : List (Nat × Nat) → Bool
  | [] => true
  | a :: r => c a.2 && tyKL c r
/-- Is it a type whose values are trees? -/
def tyK (T : Tab) : Nat → Nat → Bool
  | 0, _ => false
  | m + 1, t => match T t with
    | some ⟨.leaf, _, _, .v (.int ..)⟩ => true
    | some ⟨.leaf, _, _, .v (.bool _)⟩ => true
    | some ⟨.leaf, _, _, .v (.string _)⟩ => true
    | some ⟨.st fs, _, _, _⟩ => tyKL (tyK T m) fs
    | some ⟨.ar _ e _, _, _, _⟩ => tyK T m e
    | some ⟨.sl e _, _, _, _⟩ => tyK T m e
    | _ => false
def dzL (c : Nat → D) : List (Nat × Nat) → List D
  | [] => []
  | a :: r => c a.2 :: dzL c r
/-- Some tree of a type. -/
def dz (T : Tab) : Nat → Nat → D
  | 0, _ => .v undef
  | m + 1, t => match T t with
    | some ⟨.leaf, _, _, .v (.int k _)⟩ => .v (.int k 0)
    | some ⟨.leaf, _, _, .v (.bool _)⟩ => .v (.bool false)
    | some ⟨.leaf, _, _, .v (.string _)⟩ => .v (.string ⟨#[]⟩)
    | some ⟨.st fs, _, _, _⟩ => .st t (dzL (dz T m) fs)
    | some ⟨.ar n e sz, _, _, _⟩ => .ar n sz fun _ => dz T m e
    | some ⟨.sl e sz, _, _, _⟩ => .sl sz (.slice none 0 0) 0 fun _ => dz T m e
    | _ => .v undef

theorem TyL_of {c : Nat → D → Prop} {b : Nat → Bool} {z : Nat → D} (h : ∀ t, b t = true → c t (z t)) : ∀ fs, tyKL b fs = true → TyL c fs (dzL z fs)
  | [], _ => trivial
  | a :: r, hb => by
    simp only [tyKL, Bool.and_eq_true] at hb
    exact ⟨h _ hb.1, TyL_of h r hb.2⟩
theorem Ty.dz : ∀ (m t : Nat), tyK T m t = true → Ty T w m t (dz T m t)
  | 0, _, h => by cases h
  | m + 1, t, h => by
    unfold tyK at h
    unfold Ty CE.dz
    split at h
    · rename_i sz b k n ht
      try rw [ht]
      exact ⟨0, rfl, by cases k <;> rfl⟩
    · rename_i sz b bb ht
      try rw [ht]
      exact ⟨false, rfl⟩
    · rename_i sz b s ht
      try rw [ht]
      exact ⟨_, rfl, Nat.zero_le _⟩
    · rename_i fs sz b z ht
      try rw [ht]
      exact ⟨_, rfl, TyL_of (fun t ht => Ty.dz m t ht) fs h⟩
    · rename_i n e sz s b z ht
      try rw [ht]
      exact ⟨_, rfl, fun _ => Ty.dz m e h⟩
    · rename_i e sz s b z ht
      try rw [ht]
      exact ⟨_, _, _, rfl, ⟨none, 0, rfl, Nat.le_refl _, Nat.zero_le _, .inl rfl⟩, fun _ => Ty.dz m e h⟩
    · cases h

theorem TyL_ok {c : Nat → D → Prop} (h : ∀ t d, c t d → Ok T w allD d ∧ Cl d ∧ d.size T = sizeT T t) : ∀ (fs : List (Nat × Nat)) (ds : List D), (∀ (f s e : Nat), nth fs f = some (s, e) → sizeT T e = s) → TyL c fs ds → OkL T w allD ds ∧ ClL ds ∧ ds.map (D.size T) = fs.map (·.1)
  | [], [], _, _ => ⟨trivial, trivial, rfl⟩
  | a :: r, d :: q, hs, ht => by
    obtain ⟨h1, h2, h3⟩ := h _ _ ht.1
    obtain ⟨g1, g2, g3⟩ := TyL_ok h r q (fun f s e he => hs (f + 1) s e he) ht.2
    exact ⟨⟨h1, g1⟩, ⟨h2, g2⟩, by simp only [List.map_cons, h3, g3, hs 0 a.1 a.2 rfl]⟩
theorem Ty.ok (hT : TabOk P T) : ∀ (m t : Nat) (d : D), Ty T w m t d → Ok T w allD d ∧ Cl d ∧ d.size T = sizeT T t ∧ d.isAgg = isAggT T t
  | 0, _, _, h => h.elim
  | m + 1, t, d, h => by
    unfold Ty at h
    split at h
    · rename_i sz b k n ht
      obtain ⟨n, rfl, _⟩ := h
      have hd := (hT t _ ht).2
      exact ⟨rfl, trivial, by rw [sizeT_eq ht]; exact hd.1.symm, by simp only [isAggT, ht]; rfl⟩
    · rename_i sz b bb ht
      obtain ⟨n, rfl⟩ := h
      have hd := (hT t _ ht).2
      exact ⟨rfl, trivial, by rw [sizeT_eq ht]; exact hd.1.symm, by simp only [isAggT, ht]; rfl⟩
    · rename_i sz b s ht
      obtain ⟨n, rfl, _⟩ := h
      have hd := (hT t _ ht).2
      exact ⟨rfl, trivial, by rw [sizeT_eq ht]; exact hd.1.symm, by simp only [isAggT, ht]; rfl⟩
    · rename_i fs sz b z ht
      obtain ⟨ds, rfl, hl⟩ := h
      have hd := (hT t _ ht).2
      obtain ⟨e1, ⟨fields, _, _, hf⟩, _⟩ := hd
      obtain ⟨h1, h2, h3⟩ := TyL_ok (fun t d h => ⟨(Ty.ok hT m t d h).1, (Ty.ok hT m t d h).2.1, (Ty.ok hT m t d h).2.2.1⟩) fs ds (fun f s e he => by obtain ⟨_, _, _, _, _, h5, _⟩ := hf f s e he; exact h5) hl
      subst e1
      exact ⟨⟨⟨fs, b, z, ht, h3⟩, h1⟩, h2, rfl, by simp only [isAggT, ht]; rfl⟩
    · rename_i n e sz s b z ht
      obtain ⟨f, rfl, hf⟩ := h
      have hd := (hT t _ ht).2
      exact ⟨fun i hi => ⟨by rw [(Ty.ok hT m e _ (hf i)).2.2.1]; exact hd.2.2.1, (Ty.ok hT m e _ (hf i)).1⟩, fun i _ => (Ty.ok hT m e _ (hf i)).2.1, by rw [sizeT_eq ht]; exact hd.1.symm, by simp only [isAggT, ht]; rfl⟩
    · rename_i e sz s b z ht
      obtain ⟨x, n, f, rfl, hs, hf⟩ := h
      have hd := (hT t _ ht).2
      exact ⟨⟨hs, fun i hi => ⟨by rw [(Ty.ok hT m e _ (hf i)).2.2.1]; exact hd.2.2.1, (Ty.ok hT m e _ (hf i)).1, (Ty.ok hT m e _ (hf i)).2.1⟩⟩, fun i _ => (Ty.ok hT m e _ (hf i)).2.1, by rw [sizeT_eq ht]; exact hd.1.symm, by simp only [isAggT, ht]; rfl⟩
    · exact h.elim

theorem cellsOf_eq (hT : TabOk P T) {t : Nat} {r : Row} (h : T t = some r) : P.cellsOf t = r.size := by
  obtain ⟨i, h1, h2, _⟩ := (hT t r h).1
  simp [Program.cellsOf, h1, h2]

/-- The fields of a struct, one behind the other. -/
theorem open_fields (hT : TabOk P T) {c : Nat → D → Prop} {g : Field → List Value → Prop} {cs : List Value} : ∀ (l : List (Nat × Nat)) (fields : List Field) (o : Nat), fields.length = l.length →
    (∀ (f : Nat) fd s e, fields[f]? = some fd → nth l f = some (s, e) → fd.offset = o + offF l f ∧ fd.type = e ∧ sizeT T e = s) → cs.length = o + sumN l →
    (∀ (f : Nat) fd, fields[f]? = some fd → ∃ D, c fd.type D ∧ D.cells T (fun _ => 0) = (cs.drop fd.offset).take (sizeT T fd.type)) → ∃ ds, TyL c l ds ∧ D.cellsL T (fun _ => 0) ds = cs.drop o
  | [], _, o, _, _, hl, _ => ⟨[], trivial, by simp only [sumN, Nat.add_zero] at hl; simp [D.cellsL, ← hl]⟩
  | (s, e) :: l, [], o, hn, _, _, _ => by simp at hn
  | (s, e) :: l, fd :: fields, o, hn, hf, hl, hc => by
    obtain ⟨h1, h2, h3⟩ := hf 0 fd s e rfl rfl
    obtain ⟨d, k1, k2⟩ := hc 0 fd rfl
    simp only [offF, Nat.add_zero] at h1
    have hsum : sumN ((s, e) :: l) = s + sumN l := rfl
    obtain ⟨ds, g1, g2⟩ := open_fields hT (c := c) (g := g) (cs := cs) l fields (o + s) (by simpa using hn) (fun f fd' s' e' q1 q2 => by
      obtain ⟨p1, p2, p3⟩ := hf (f + 1) fd' s' e' q1 q2
      exact ⟨by rw [p1]; simp only [offF]; omega, p2, p3⟩) (by omega) (fun f fd' q => hc (f + 1) fd' q)
    refine ⟨d :: ds, ⟨h2 ▸ k1, g1⟩, ?_⟩
    simp only [D.cellsL, k2, g2, h1, h2, h3]
    rw [← List.drop_drop]
    exact List.take_append_drop s (cs.drop o)

theorem open_elems {f : Nat → D} {cs : List Value} {sz : Nat} : ∀ (n : Nat), cs.length = n * sz → (∀ i, i < n → (f i).cells T (fun _ => 0) = (cs.drop (i * sz)).take sz) → ((List.range n).flatMap fun i => (f i).cells T (fun _ => 0)) = cs := by
  intro n hl h
  have key : ∀ k, k ≤ n → ((List.range k).flatMap fun i => (f i).cells T (fun _ => 0)) = cs.take (k * sz) := by
    intro k
    induction k with
    | zero => intro _; simp
    | succ k ih =>
      intro hk
      rw [List.range_succ, List.flatMap_append, ih (by omega)]
      simp only [List.flatMap_cons, List.flatMap_nil, List.append_nil]
      rw [h k (by omega), Nat.succ_mul, List.take_add]
  rw [key n (Nat.le_refl _), ← hl, List.take_length]

theorem opened {H : Type} {enc : TypeId × Value → H} {base : Nat} {spare : Nat → Bool} {held : Bool} (hT : TabOk P T) : ∀ (m fuel t : Nat) (cs : List Value) (x : DataW H × List MemPlace), tyK T m t = true →
    DataW.trod enc P w base spare held fuel t cs = some x → ∃ D, Ty T w m t D ∧ D.cells T (fun _ => 0) = cs
  | 0, _, _, _, _, h, _ => by cases h
  | m + 1, fuel, t, cs, x, h, hx => by
    unfold tyK at h
    unfold Ty
    split at h
    · rename_i sz b k n ht
      try rw [ht]
      have hu : P.underlying t = some (.int k) := (hT t _ ht).2.2.2
      obtain ⟨n, rfl, _, hw⟩ := DataW.trod_int hu hx
      exact ⟨_, ⟨n, rfl, hw⟩, rfl⟩
    · rename_i sz b bb ht
      try rw [ht]
      have hu : P.underlying t = some .bool := (hT t _ ht).2.2.2
      obtain ⟨v, rfl, _⟩ := DataW.trod_bool hu hx
      exact ⟨_, ⟨v, rfl⟩, rfl⟩
    · rename_i sz b s ht
      try rw [ht]
      have hu : P.underlying t = some .string := (hT t _ ht).2.2.2
      obtain ⟨v, rfl, _, hs⟩ := DataW.trod_string hu hx
      exact ⟨_, ⟨v, rfl, hs⟩, rfl⟩
    · rename_i fs sz b z ht
      try rw [ht]
      obtain ⟨e1, ⟨fields, hu, hn, hf⟩, _⟩ := (hT t _ ht).2
      obtain ⟨xs, fu, _, _, hl, _, hxs⟩ := DataW.trod_struct hu hx
      rw [cellsOf_eq hT ht] at hl
      simp only at hl
      have hnth : ∀ (f : Nat) fd, fields.toList[f]? = some fd → ∃ s e, nth fs f = some (s, e) ∧ fd.offset = offF fs f ∧ fd.type = e ∧ sizeT T e = s ∧ (T e).isSome = true := fun f fd hfd => by
        have hfl : f < fs.length := by
          have := (List.getElem?_eq_some_iff.1 hfd).1
          rw [← hn]
          simpa using this
        obtain ⟨p, hp⟩ := nth_of_lt fs f hfl
        obtain ⟨fd', q1, _, q2, q3, q4, _, q5⟩ := hf f p.1 p.2 hp
        have : fd = fd' := by
          have : fields.toList[f]? = some fd' := by simpa using q1
          rw [hfd] at this
          exact Option.some.inj this
        subst this
        exact ⟨p.1, p.2, hp, q2, q3, q4, q5⟩
      obtain ⟨ds, g1, g2⟩ := open_fields hT (c := Ty T w m) (g := fun _ _ => True) (cs := cs) fs fields.toList 0 (by simpa using hn) (fun f fd s e q1 q2 => by
          obtain ⟨s', e', p1, p2, p3, p4, _⟩ := hnth f fd q1
          rw [q2] at p1
          cases p1
          exact ⟨by rw [p2, Nat.zero_add], p3, p4⟩) (by rw [hl, Nat.zero_add]; exact e1) (fun f fd q => by
          obtain ⟨s, e, p1, p2, p3, p4, p5⟩ := hnth f fd q
          have h2 := hxs f fd (by simpa using q)
          have hlt : f < xs.length := by
            have := (List.getElem?_eq_some_iff.1 q).1
            simp at this
            omega
          rw [List.getElem?_eq_getElem hlt] at h2
          have hk : tyK T m fd.type = true := by
            rw [p3]
            have : ∀ (l : List (Nat × Nat)) (f : Nat) (s e : Nat), tyKL (tyK T m) l = true → nth l f = some (s, e) → tyK T m e = true := by
              intro l
              induction l with
              | nil => intro f s e _ h; cases h
              | cons a r ih =>
                intro f s e hb hn
                simp only [tyKL, Bool.and_eq_true] at hb
                cases f with
                | zero => simp only [nth, Option.some.injEq] at hn; subst hn; exact hb.1
                | succ f => exact ih f s e hb.2 hn
            exact this fs f s e h p1
          obtain ⟨D, k1, k2⟩ := opened hT m fu fd.type _ _ hk h2
          refine ⟨D, k1, ?_⟩
          rw [k2]
          obtain ⟨r, hr⟩ := Option.isSome_iff_exists.1 p5
          rw [p3, cellsOf_eq hT hr, sizeT_eq hr])
      exact ⟨_, ⟨ds, rfl, g1⟩, by simpa [D.cells] using g2⟩
    · rename_i n e sz s b z ht
      try rw [ht]
      obtain ⟨e1, hu, e2, e3, e4, e5, _⟩ := (hT t _ ht).2
      obtain ⟨xs, fu, _, _, hl, hxl, hxs⟩ := DataW.trod_array hu hx
      obtain ⟨r, hr⟩ := Option.isSome_iff_exists.1 e5
      have hce : P.cellsOf e = sz := by rw [cellsOf_eq hT hr, ← sizeT_eq hr]; exact e2
      rw [cellsOf_eq hT ht] at hl
      simp only at hl
      rw [hce] at hxs
      have hD : ∀ i, ∃ D, Ty T w m e D ∧ (i < n → D.cells T (fun _ => 0) = (cs.drop (i * sz)).take sz) := fun i => by
        by_cases hi : i < n
        · have h2 := hxs i hi
          rw [List.getElem?_eq_getElem (by omega)] at h2
          obtain ⟨D, k1, k2⟩ := opened hT m fu e _ _ h h2
          exact ⟨D, k1, fun _ => k2⟩
        · exact ⟨_, Ty.dz m e h, fun h => absurd h hi⟩
      refine ⟨_, ⟨fun i => Classical.choose (hD i), rfl, fun i => (Classical.choose_spec (hD i)).1⟩, ?_⟩
      simp only [D.cells]
      exact open_elems n (by rw [hl]; exact e1) fun i hi => (Classical.choose_spec (hD i)).2 hi
    · rename_i e sz s b z ht
      try rw [ht]
      obtain ⟨e1, hu, e2, e3, e5⟩ := (hT t _ ht).2
      obtain ⟨r, hr⟩ := Option.isSome_iff_exists.1 e5
      have hce : P.cellsOf e = sz := by rw [cellsOf_eq hT hr, ← sizeT_eq hr]; exact e2
      rcases DataW.trod_slice hu hx with ⟨rfl, _⟩ | ⟨a, len, cap, elems, rest, fu, _, rfl, _, hb, hlc, hcm, hel, hxs, _⟩
      · exact ⟨_, ⟨_, _, _, rfl, ⟨none, 0, rfl, Nat.le_refl _, Nat.zero_le _, .inl rfl⟩, fun _ => Ty.dz m e h⟩, rfl⟩
      · rw [hce] at hxs
        have hD : ∀ i, ∃ D, Ty T w m e D ∧ (i < len → ∃ ce, w.cells? base (a.add (i * sz)) sz = some ce ∧ D.cells T (fun _ => 0) = ce) := fun i => by
          by_cases hi : i < len
          · have h2 := hxs i hi
            rw [List.getElem?_eq_getElem (by omega)] at h2
            obtain ⟨ce, k0, k3⟩ := Option.bind_eq_some_iff.1 h2
            obtain ⟨D, k1, k2⟩ := opened hT m fu e _ _ h k3
            exact ⟨D, k1, fun _ => ⟨ce, k0, k2⟩⟩
          · exact ⟨_, Ty.dz m e h, fun h => absurd h hi⟩
        refine ⟨_, ⟨.slice (some a) len cap, len, fun i => Classical.choose (hD i), rfl, ⟨some a, cap, rfl, hlc, hcm, ?_⟩, fun i => (Classical.choose_spec (hD i)).1⟩, rfl⟩
        by_cases hl0 : len = 0
        · exact .inl hl0
        · right
          obtain ⟨ce0, q1, q2⟩ := (Classical.choose_spec (hD 0)).2 (by omega)
          obtain ⟨_, q3, q4⟩ := World.cells?_some q1
          have q5 := q4 0 e3
          have hne : ce0[0]? = some (ce0[0]'(by omega)) := List.getElem?_eq_getElem _
          rw [hne] at q5
          have hspot := World.cell?_spot q5
          obtain ⟨bk, of, sp⟩ := a
          have hspot : sp = none := by simpa [Addr.add] using hspot
          subst hspot
          have hblk : ∃ cur et fr, w.heap[bk]? = some (.cells cur et fr) := by
            rw [addr_add, addr_add] at q5
            unfold World.cell? at q5
            split at q5
            · rename_i c et fr hh; exact ⟨c, et, fr, hh⟩
            · cases q5
          obtain ⟨cur, et, fr, hh⟩ := hblk
          refine ⟨bk, of, cur, et, fr, rfl, trivial, hh, fun i hi j v hv => ?_⟩
          obtain ⟨ce, p1, p2⟩ := (Classical.choose_spec (hD i)).2 hi
          simp only at hv
          rw [p2] at hv
          obtain ⟨_, p3, p4⟩ := World.cells?_some p1
          have hj : j < sz := by
            have := (List.getElem?_eq_some_iff.1 hv).1
            omega
          have p5 := p4 j hj
          rw [hv] at p5
          rw [addr_add, addr_add] at p5
          simpa [World.cell?, hh] using p5
    · cases h

theorem okw_int {t : Nat} {k : IntKind} {r : Reach} {base : Nat} {v : Value} (hu : P.underlying t = some (.int k)) (hv : Value.okWide P w r base t v) : ∃ y, v.cells = #[y] ∧ v = y := by
  simp only [Value.okWide, hu, Cell.okWide] at hv
  cases v <;> simp_all [Cell.ok, Value.cells]
theorem okw_bool {t : Nat} {r : Reach} {base : Nat} {v : Value} (hu : P.underlying t = some .bool) (hv : Value.okWide P w r base t v) : ∃ y, v.cells = #[y] ∧ v = y := by
  simp only [Value.okWide, hu, Cell.okWide] at hv
  cases v <;> simp_all [Cell.ok, Value.cells]
theorem okw_string {t : Nat} {r : Reach} {base : Nat} {v : Value} (hu : P.underlying t = some .string) (hv : Value.okWide P w r base t v) : ∃ y, v.cells = #[y] ∧ v = y := by
  simp only [Value.okWide, hu, Cell.okWide] at hv
  cases v <;> simp_all [Cell.ok, Value.cells]
theorem okw_slice {t e : Nat} {r : Reach} {base : Nat} {v : Value} (hu : P.underlying t = some (.slice e)) (hv : Value.okWide P w r base t v) : ∃ y, v.cells = #[y] ∧ v = y := by
  simp only [Value.okWide, hu, Cell.okWide] at hv
  cases v <;> simp_all [Cell.ok, Value.cells]

/-- A value's own shape, out of its cells. -/
theorem val_of_cells (hT : TabOk P T) {m t : Nat} {d : D} {v : Value} {r : Reach} {base : Nat} (h : Ty T w m t d) (hv : Value.okWide P w r base t v) (hc : d.cells T (fun _ => 0) = v.cells.toList) : v = d.val T fun _ => 0 := by
  obtain ⟨_, _, _, hag⟩ := h.ok hT
  unfold D.val
  rw [hag]
  cases m with
  | zero => exact h.elim
  | succ m =>
    unfold Ty at h
    have agg : isAggT T t = true → (∃ cs, v = .agg cs) → v = .agg (d.cells T fun _ => 0).toArray := by
      rintro _ ⟨cs, rfl⟩
      rw [hc]
      simp [Value.cells]
    have one : (∃ y, v.cells = #[y] ∧ v = y) → v = (d.cells T fun _ => 0).headD undef := by
      rintro ⟨y, h1, h2⟩
      rw [hc, h1, h2]
      rfl
    split at h
    · rename_i sz b k n ht
      have hu : P.underlying t = some (.int k) := (hT t _ ht).2.2.2
      rw [if_neg (by simp [isAggT, ht])]
      exact one (okw_int hu hv)
    · rename_i sz b bb ht
      have hu : P.underlying t = some .bool := (hT t _ ht).2.2.2
      rw [if_neg (by simp [isAggT, ht])]
      exact one (okw_bool hu hv)
    · rename_i sz b s ht
      have hu : P.underlying t = some .string := (hT t _ ht).2.2.2
      rw [if_neg (by simp [isAggT, ht])]
      exact one (okw_string hu hv)
    · rename_i fs sz b z ht
      obtain ⟨_, ⟨fields, hu, _⟩, _⟩ := (hT t _ ht).2
      have e : isAggT T t = true := by simp [isAggT, ht]
      rw [if_pos e]
      refine agg e ?_
      simp only [Value.okWide, hu] at hv
      obtain ⟨cs, h1, _⟩ := hv
      exact ⟨cs, h1⟩
    · rename_i n e sz s b z ht
      have hu := (hT t _ ht).2.2.1
      have e : isAggT T t = true := by simp [isAggT, ht]
      rw [if_pos e]
      refine agg e ?_
      simp only [Value.okWide, hu] at hv
      obtain ⟨cs, h1, _⟩ := hv
      exact ⟨cs, h1⟩
    · rename_i e sz s b z ht
      have hu : P.underlying t = some (.slice e) := (hT t _ ht).2.2.1
      rw [if_neg (by simp [isAggT, ht])]
      exact one (okw_slice hu hv)
    · exact h.elim

/-- An argument that can be read is a tree. -/
theorem open_arg {H : Type} {enc : TypeId × Value → H} {base : Nat} {spare : Nat → Bool} {held : Bool} (hT : TabOk P T) (m : Nat) {t : Nat} {v : Value} {d : DataW H} {ps : List MemPlace} {r : Reach} {b0 : Nat} (hk : tyK T m t = true) (hv : Value.okWide P w r b0 t v) (h : DataW.Trod enc P w base spare held t v d ps) :
    ∃ D, Ty T w m t D ∧ v = D.val T (fun _ => 0) ∧ Ok T w allD D ∧ Cl D := by
  obtain ⟨fuel, hf⟩ := h
  obtain ⟨D, h1, h2⟩ := opened hT m fuel t _ _ hk hf
  obtain ⟨h3, h4, _⟩ := h1.ok hT
  exact ⟨D, h1, val_of_cells hT h1 hv h2, h3, h4⟩

end Go.CE

/- What the laws' arguments are: states as trees. -/
namespace Go.CE
open Go.RowKit Go.Proofs

def InT (k : IntKind) (n : Int) : Prop := (Lit.int k n).wf = true
theorem InT.i64 {n : Int} (h : InT .i64 n) : -9223372036854775808 ≤ n ∧ n ≤ 9223372036854775807 := by
  simp only [InT, Lit.wf, Bool.and_eq_true, decide_eq_true_eq] at h; exact h
theorem InT.i32 {n : Int} (h : InT .i32 n) : -2147483648 ≤ n ∧ n ≤ 2147483647 := by
  simp only [InT, Lit.wf, Bool.and_eq_true, decide_eq_true_eq] at h; exact h
theorem InT.i8 {n : Int} (h : InT .i8 n) : -128 ≤ n ∧ n ≤ 127 := by
  simp only [InT, Lit.wf, Bool.and_eq_true, decide_eq_true_eq] at h; exact h
theorem InT.u8 {n : Int} (h : InT .u8 n) : 0 ≤ n ∧ n ≤ 255 := by
  simp only [InT, Lit.wf, Bool.and_eq_true, decide_eq_true_eq] at h; exact h
theorem InT.u64 {n : Int} (h : InT .u64 n) : 0 ≤ n ∧ n ≤ 18446744073709551615 := by
  simp only [InT, Lit.wf, Bool.and_eq_true, decide_eq_true_eq] at h; exact h

structure ShipIn (s : Ship) : Prop where
  x : InT .i32 s.x
  y : InT .i32 s.y
  vx : InT .i32 s.vx
  vy : InT .i32 s.vy
  cool : InT .i64 s.cool
  score : InT .i64 s.score
structure ShotIn (s : Shot) : Prop where
  owner : InT .i64 s.owner
  x : InT .i32 s.x
  y : InT .i32 s.y
  vx : InT .i32 s.vx
  vy : InT .i32 s.vy
  life : InT .i64 s.life
structure SeatIn (s : Seat) : Prop where
  peer : InT .i64 s.peer
  gen : InT .i64 s.gen
structure GameIn (g : Game) : Prop where
  frame : InT .i64 g.frame
  dice : InT .u64 g.dice
  ships : ∀ i, ShipIn (g.ships i)
  n : g.n ≤ maxLen
  shots : ∀ i, ShotIn (g.shots i)
structure RosterIn (r : Roster) : Prop where
  version : InT .i64 r.version
  seats : ∀ i, SeatIn (r.seats i)
structure StateIn (s : State) : Prop where
  game : GameIn s.game
  roster : RosterIn s.roster

theorem TyL.cons {c : Nat → D → Prop} {a : Nat × Nat} {r : List (Nat × Nat)} {ds : List D} (h : TyL c (a :: r) ds) : ∃ d q, ds = d :: q ∧ c a.2 d ∧ TyL c r q := by
  cases ds with
  | nil => exact h.elim
  | cons d q => exact ⟨d, q, rfl, h.1, h.2⟩
theorem TyL.nil {c : Nat → D → Prop} {ds : List D} (h : TyL c [] ds) : ds = [] := by
  cases ds with
  | nil => rfl
  | cons d q => exact h.elim

variable {w : World} {m : Nat} {d : D}

theorem ty_ship (h : Ty T w (m + 2) 24 d) : ∃ s, d = shipD s ∧ ShipIn s := by
  obtain ⟨ds, rfl, hq⟩ := (show ∃ ds, d = .st 24 ds ∧ TyL (Ty T w (m + 1)) _ ds from h)
  obtain ⟨_, _, rfl, ⟨b, rfl⟩, q1⟩ := hq.cons
  obtain ⟨_, _, rfl, ⟨x, rfl, hx⟩, q2⟩ := q1.cons
  obtain ⟨_, _, rfl, ⟨y, rfl, hy⟩, q3⟩ := q2.cons
  obtain ⟨_, _, rfl, ⟨vx, rfl, hvx⟩, q4⟩ := q3.cons
  obtain ⟨_, _, rfl, ⟨vy, rfl, hvy⟩, q5⟩ := q4.cons
  obtain ⟨_, _, rfl, ⟨c, rfl, hc⟩, q6⟩ := q5.cons
  obtain ⟨_, _, rfl, ⟨sc, rfl, hsc⟩, q7⟩ := q6.cons
  obtain rfl := q7.nil
  exact ⟨⟨b, x, y, vx, vy, c, sc⟩, rfl, ⟨hx, hy, hvx, hvy, hc, hsc⟩⟩
theorem ty_shot (h : Ty T w (m + 2) 72 d) : ∃ s, d = shotD s ∧ ShotIn s := by
  obtain ⟨ds, rfl, hq⟩ := (show ∃ ds, d = .st 72 ds ∧ TyL (Ty T w (m + 1)) _ ds from h)
  obtain ⟨_, _, rfl, ⟨o, rfl, ho⟩, q1⟩ := hq.cons
  obtain ⟨_, _, rfl, ⟨x, rfl, hx⟩, q2⟩ := q1.cons
  obtain ⟨_, _, rfl, ⟨y, rfl, hy⟩, q3⟩ := q2.cons
  obtain ⟨_, _, rfl, ⟨vx, rfl, hvx⟩, q4⟩ := q3.cons
  obtain ⟨_, _, rfl, ⟨vy, rfl, hvy⟩, q5⟩ := q4.cons
  obtain ⟨_, _, rfl, ⟨l, rfl, hl⟩, q6⟩ := q5.cons
  obtain rfl := q6.nil
  exact ⟨⟨o, x, y, vx, vy, l⟩, rfl, ⟨ho, hx, hy, hvx, hvy, hl⟩⟩
theorem ty_seat (h : Ty T w (m + 2) 30 d) : ∃ s, d = seatD s ∧ SeatIn s := by
  obtain ⟨ds, rfl, hq⟩ := (show ∃ ds, d = .st 30 ds ∧ TyL (Ty T w (m + 1)) _ ds from h)
  obtain ⟨_, _, rfl, ⟨p, rfl, hp⟩, q1⟩ := hq.cons
  obtain ⟨_, _, rfl, ⟨g, rfl, hg⟩, q2⟩ := q1.cons
  obtain rfl := q2.nil
  exact ⟨⟨p, g⟩, rfl, ⟨hp, hg⟩⟩
/-- Elements, each told. -/
theorem ty_all {α : Type} {c : D → Prop} {enc : α → D} {q : α → Prop} {f : Nat → D} (h : ∀ i, c (f i)) (hc : ∀ d, c d → ∃ s, d = enc s ∧ q s) : ∃ g : Nat → α, f = (fun i => enc (g i)) ∧ ∀ i, q (g i) :=
  ⟨fun i => Classical.choose (hc _ (h i)), funext fun i => (Classical.choose_spec (hc _ (h i))).1, fun i => (Classical.choose_spec (hc _ (h i))).2⟩
theorem ty_game (h : Ty T w (m + 4) 28 d) : ∃ x g, d = gameD x g ∧ GameIn g := by
  obtain ⟨ds, rfl, hq⟩ := (show ∃ ds, d = .st 28 ds ∧ TyL (Ty T w (m + 3)) _ ds from h)
  obtain ⟨_, _, rfl, ⟨fr, rfl, hfr⟩, q1⟩ := hq.cons
  obtain ⟨_, _, rfl, ⟨di, rfl, hdi⟩, q2⟩ := q1.cons
  obtain ⟨_, _, rfl, ⟨f, rfl, hf⟩, q3⟩ := q2.cons
  obtain ⟨_, _, rfl, ⟨x, n, g, rfl, hs, hg⟩, q4⟩ := q3.cons
  obtain rfl := q4.nil
  obtain ⟨ships, rfl, hsh⟩ := ty_all hf fun d hd => ty_ship hd
  obtain ⟨shots, rfl, hso⟩ := ty_all hg fun d hd => ty_shot hd
  obtain ⟨a, cap, _, h1, h2, _⟩ := hs
  exact ⟨x, ⟨fr, di, ships, n, shots⟩, rfl, ⟨hfr, hdi, hsh, Nat.le_trans h1 h2, hso⟩⟩
theorem ty_roster (h : Ty T w (m + 4) 33 d) : ∃ r, d = rosterD r ∧ RosterIn r := by
  obtain ⟨ds, rfl, hq⟩ := (show ∃ ds, d = .st 33 ds ∧ TyL (Ty T w (m + 3)) _ ds from h)
  obtain ⟨_, _, rfl, ⟨v, rfl, hv⟩, q1⟩ := hq.cons
  obtain ⟨_, _, rfl, ⟨f, rfl, hf⟩, q2⟩ := q1.cons
  obtain rfl := q2.nil
  obtain ⟨seats, rfl, hs⟩ := ty_all hf fun d hd => ty_seat hd
  exact ⟨⟨v, seats⟩, rfl, ⟨hv, hs⟩⟩
theorem ty_state (h : Ty T w (m + 5) 35 d) : ∃ x s, d = stateD x s ∧ StateIn s := by
  obtain ⟨ds, rfl, hq⟩ := (show ∃ ds, d = .st 35 ds ∧ TyL (Ty T w (m + 4)) _ ds from h)
  obtain ⟨_, _, rfl, h1, q1⟩ := hq.cons
  obtain ⟨_, _, rfl, h2, q2⟩ := q1.cons
  obtain rfl := q2.nil
  obtain ⟨x, g, rfl, hg⟩ := ty_game h1
  obtain ⟨r, rfl, hr⟩ := ty_roster h2
  exact ⟨x, ⟨g, r⟩, rfl, ⟨hg, hr⟩⟩
theorem ty_int (h : Ty T w (m + 1) 3 d) : ∃ n, d = i64 n ∧ InT .i64 n := h
theorem ty_str (h : Ty T w (m + 1) 9 d) : ∃ s : ByteArray, d = .v (.string s) ∧ s.size ≤ maxLen := h

end Go.CE
