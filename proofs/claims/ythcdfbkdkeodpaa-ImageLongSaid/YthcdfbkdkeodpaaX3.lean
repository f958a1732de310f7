/- Contracts: calls whose answer their arguments tell; what layer 7 tells of a few. -/
import Derived.Test.YthcdfbkdkeodpaaX2
import Derived.OpenShut
import Derived.ShutString
import Derived.ChangeOld
import Derived.Carry
import Derived.ProofKit
import Derived.Test.YthcdfbkdkeodpaaX1
namespace Go.CE
open Go.RowKit Go.Proofs

variable {w0 w : World} {pins : Pins} {N : Nat} {env : Env} {gs : List Nat} {L : List Ent} {β : Nat → Nat} {a : Act} {ds : List Deferred}

/-- A slice's argument, its elements told in other words. -/
theorem Ok.slx {T : Tab} {w : World} {A : Dom} {sz n : Nat} {x : Value} {g g' : Nat → D} (h : ∀ i, i < n → g i = g' i) (ho : Ok T w A (.sl sz x n g)) : Ok T w A (.sl sz x n g') := by
  obtain ⟨⟨a, cap, h1, h2, h3, h4⟩, h5⟩ := ho
  refine ⟨⟨a, cap, h1, h2, h3, ?_⟩, fun i hi => by rw [← h i hi]; exact h5 i hi⟩
  rcases h4 with h4 | ⟨b, o, cur, e, fr, k1, k2, k3, k4⟩
  · exact .inl h4
  · exact .inr ⟨b, o, cur, e, fr, k1, k2, k3, fun i hi j v hv => k4 i hi j v (by rw [h i hi]; exact hv)⟩
theorem Fun.slx {P : Program} {T : Tab} {f sz n : Nat} {x : Value} {g g' : Nat → D} {xs : List D} {R : D → Prop} (h : ∀ i, i < n → g i = g' i) (hf : Fun P T f (.sl sz x n g' :: xs) R) : Fun P T f (.sl sz x n g :: xs) R := by
  intro G β w hM ho hg1 hg2
  exact hf G β w hM (fun d hd => by
    rcases List.mem_cons.1 hd with rfl | hd
    · exact Ok.slx h (ho _ (by simp))
    · exact ho d (by simp [hd])) hg1 hg2

def listOf (n : Nat) (g : Nat → D) : List Int := (List.range n).map fun i => intD (g i)
theorem listOf_len (n : Nat) (g : Nat → D) : (listOf n g).length = n := by simp [listOf]
theorem listOf_row (l : List Int) : listOf l.length (rowD l) = l := by
  refine List.ext_getElem (by simp [listOf]) fun i h1 h2 => ?_
  simp [listOf, rowD, intD, List.getD_eq_getElem?_getD, List.getElem?_eq_getElem h2]
theorem rowD_listOf {n i : Nat} {g : Nat → D} (h : i < n) (hg : ∃ m, g i = .v (.int .u8 m)) : g i = rowD (listOf n g) i := by
  obtain ⟨m, hm⟩ := hg
  simp [rowD, listOf, List.getD_eq_getElem?_getD, h, hm, intD]

theorem e_of : Enters Try.prog 18 := enters_of Try.func18 rfl (by kernel_rfl)
theorem e_get : Enters Try.prog 13 := enters_of Try.func13 rfl (by kernel_rfl)

def C7 : Calls' := fun f ds => match ds with
  | [.v (.string s)] => if Nat.beq f 17 then some (u64 (fnv s s.size), .c (s.size ≤ maxLen)) else none
  | [.sl 1 _ n g] => if Nat.beq f 16 then some (u64 (sumB (listOf n g)), .c (∀ i, i < n → ∃ m, g i = .v (.int .u8 m))) else none
  | [d] => if Nat.beq f 18 then some (u64 (if mayStateB (unState d) = true then sumB (putB (unState d)) else 0), .c (∃ x s, d = stateD x s)) else none
  | _ => none
theorem C7_ok : COk Try.prog T C7 := by
  intro f ds d q h hq
  unfold C7 at h
  split at h
  · split at h
    · rename_i hf
      have hf := Nat.eq_of_beq_eq_true hf
      subst hf
      simp only [Option.some.injEq, Prod.mk.injEq] at h
      obtain ⟨rfl, rfl⟩ := h
      exact ⟨e_rseed, (c_rseed _ hq).pure ⟨trivial, trivial⟩, fun _ _ => rfl⟩
    · cases h
  · split at h
    · rename_i x n g hf
      have hf := Nat.eq_of_beq_eq_true hf
      subst hf
      simp only [Option.some.injEq, Prod.mk.injEq] at h
      obtain ⟨rfl, rfl⟩ := h
      have h1 := c_sum x (listOf n g)
      rw [listOf_len] at h1
      have hq : ∀ i, i < n → ∃ m, g i = .v (.int .u8 m) := hq
      exact ⟨e_sum, (h1.slx fun i hi => rowD_listOf hi (hq i hi)).pure ⟨fun i hi => by obtain ⟨m, hm⟩ := hq i hi; show Cl (g i); rw [hm]; trivial, trivial⟩, fun _ _ => rfl⟩
    · cases h
  · split at h
    · rename_i hf
      have hf := Nat.eq_of_beq_eq_true hf
      subst hf
      simp only [Option.some.injEq, Prod.mk.injEq] at h
      obtain ⟨rfl, rfl⟩ := h
      obtain ⟨x, s, rfl⟩ := hq
      exact ⟨e_of, (c_of x s).pure ⟨state_cl x s, trivial⟩, fun _ _ => rfl⟩
    · cases h
  · cases h
theorem K7 : Kit Try.prog T C7 := ⟨tab_ok, zero_ok, C7_ok, mixed⟩

theorem Byt.append {l m : List Int} (h : Byt l) (h2 : Byt m) : Byt (l ++ m) := fun v hv => by
  rcases List.mem_append.1 hv with hv | hv
  · exact h v hv
  · exact h2 v hv
theorem by8_byt (n : Int) : 0 ≤ by8 n ∧ by8 n ≤ 255 := by rw [by8, IntKind.wrap_u8]; omega
theorem Byt.le (n : Int) (b : Nat) : Byt (le n b) := fun v hv => by
  simp only [CE.le, List.mem_map] at hv
  obtain ⟨i, _, rfl⟩ := hv
  exact by8_byt _
theorem Byt.flat {α : Type} {f : α → List Int} (h : ∀ x, Byt (f x)) (g : Nat → α) (n : Nat) : Byt (flat f g n) := fun v hv => by
  simp only [CE.flat, List.mem_flatMap] at hv
  obtain ⟨i, _, hv⟩ := hv
  exact h _ v hv
theorem Byt.quad (q : Nat → Int) (n : Nat) : Byt (quadB q n) := fun v hv => by
  simp only [quadB, List.mem_flatMap] at hv
  obtain ⟨i, _, hv⟩ := hv
  exact Byt.le _ _ v hv
theorem shipB_byt (s : Ship) : Byt (shipB s) := by
  unfold shipB
  split
  · exact (((Byt.le _ _).append (Byt.quad _ _)).append (Byt.le _ _)).append (Byt.le _ _)
  · exact Byt.le _ _
theorem shotB_byt (s : Shot) : Byt (shotB s) := ((Byt.le _ _).append (Byt.quad _ _)).append (Byt.le _ _)
theorem seatBy_byt (s : Seat) : Byt (seatBy s) := (Byt.le _ _).append (Byt.le _ _)
theorem putB_byt (s : State) : Byt (putB s) := (((((((Byt.le _ _).append (Byt.le _ _)).append (Byt.flat shipB_byt _ _)).append (Byt.le _ _)).append (Byt.flat shotB_byt _ _)).append (Byt.le _ _)).append (Byt.flat seatBy_byt _ _))

def strA : ByteArray := ⟨#[97]⟩
def stA : State := startS strA
def stB : State := ⟨{ stA.game with ships := upd stA.game.ships 0 { ship0 with on := true } }, stA.roster⟩

theorem putA_may : mayStateB stA = true := by kernel_rfl
theorem putA_len : (putB stA).length = 49 := by kernel_rfl
theorem putB_may : mayStateB stB = false := by kernel_rfl
theorem getA_code : (getB (putB stA)).2 = 0 := by kernel_rfl
theorem getA_dice : (getB (putB stA)).1.game.dice = fnv strA 1 := by kernel_rfl
theorem getA_peer : ((getB (putB stA)).1.roster.seats 3).peer = -1 := by kernel_rfl
theorem get0 : (getB []).2 = 2 := by kernel_rfl

theorem stB_tree : stateD nilV stB = .st 35 [.st 28 [i64 stA.game.frame, u64 stA.game.dice, .ar 8 7 fun j => if j = 0 then shipD { ship0 with on := true } else shipD (stA.game.ships j), .sl 6 nilV stA.game.n fun i => shotD (stA.game.shots i)], rosterD stA.roster] := by
  simp only [stateD, gameD, stB, ship_ite]

theorem c_told7 : Fun Try.prog T 9 [] fun y => y = bol true := by
  refine Con.intro Try.func9 rfl rfl rfl rfl fun G w0 β0 β a w hS => ?_
  refine regS K0 [] hS rfl rfl trivial fun β a w hS => ?_
  refine wp_seq (regp K0 hS rfl trivial fun β a w hS => ?_)
  refine call0 e_rstart (c_start strA (by decide)) hS [] rfl rfl rfl rfl rfl ⟨trivial, trivial⟩ rfl ?_
  rintro y rfl β a w hS
  refine rege K0 [1] hS rfl rfl trivial fun β a w hS => ?_
  refine wp_seq (regp K0 hS rfl trivial fun β a w hS => ?_)
  refine call0 e_put (c_put nilV stA) hS [1] rfl rfl rfl rfl rfl ⟨state_cl _ _, trivial⟩ rfl ?_
  intro y hy β a w hS
  simp only [putA_may, if_true] at hy
  obtain ⟨x1, rfl⟩ := hy
  refine rege K0 [1, 2, 3] hS rfl rfl trivial fun β a w hS => ?_
  refine wp_seq (regp K0 hS rfl trivial fun β a w hS => ?_)
  refine call0 e_get (c_get x1 (putB stA) (putB_byt stA)) hS [1, 2, 3] rfl rfl rfl rfl rfl ⟨fun _ _ => trivial, trivial⟩ rfl ?_
  rintro y ⟨x2, rfl⟩ β a w hS
  have e1 : getB (putB stA) = ((getB (putB stA)).1, 0) := by rw [← getA_code]
  rw [e1] at hS
  have e2 := getA_dice
  have e3 := getA_peer
  have e4 := putA_len
  generalize (getB (putB stA)).1 = t at hS e2 e3
  generalize putB stA = lA at hS e4
  refine rege K0 [1, 2, 3, 4, 5] hS rfl rfl trivial fun β a w hS => ?_
  refine wp_seq (regp K0 hS rfl trivial fun β a w hS => ?_)
  refine call0 e_get ((c_get (.slice none 0 0) [] (fun _ h => by cases h)).slx (g := fun _ => default) fun i hi => absurd hi (Nat.not_lt_zero _)) hS [1, 2, 3, 4, 5] rfl rfl rfl rfl rfl ⟨fun _ h => absurd h (Nat.not_lt_zero _), trivial⟩ rfl ?_
  rintro y ⟨x3, rfl⟩ β a w hS
  rw [get0] at hS
  refine rege K0 [1, 2, 3, 4, 5, 7] hS rfl rfl trivial fun β a w hS => ?_
  refine regS K0 [1, 2, 3, 4, 5, 7] hS rfl rfl ⟨by decide, trivial⟩ fun β a w hS => ?_
  have hS : Ste T w0 (pinsOf β0 0 0 G) Try.f9.ntmps [] [(1, .d (.p 0 [])), (2, .d (.sl 1 x1 lA.length (rowD lA))), (3, .d (i64 0)), (4, .d (.p 1 [])), (5, .d (i64 0)), (7, .d (i64 2))] [] [.var 35 (stateD nilV stB), .var 35 (stateD x2 t), .var 35 (stateD x3 (getB []).1)] β a w := by
    rw [stB_tree]; exact Ste.sub hS ⟨rfl, rfl, rfl, rfl, rfl, rfl, trivial⟩
  refine wp_seq (regp K0 hS rfl trivial fun β a w hS => ?_)
  refine call0 e_put (c_put nilV stB) hS [1, 2, 3, 4, 5, 7] rfl rfl rfl rfl rfl ⟨state_cl _ _, trivial⟩ rfl ?_
  intro y hy β a w hS
  simp only [putB_may, Bool.false_eq_true, if_false] at hy
  subst hy
  refine rege K0 [1, 2, 3, 4, 5, 7, 9] hS rfl rfl trivial fun β a w hS => ?_
  refine regqS K7 [0] (by kernel_rfl) hS rfl rfl ⟨fun _ i hi => absurd hi (Nat.not_lt_zero _), fun _ => ⟨_, _, rfl⟩, fun _ => ⟨by decide, by decide⟩, fun _ => by decide, trivial⟩ fun a w hS => ?_
  refine wp_ret (fret1 K0 rfl hS rfl trivial ?_)
  have e5 : ((lA.length : Int) == 49) = true := by rw [e4]; rfl
  have e6 : (t.game.dice == fnv strA strA.size) = true := by rw [e2]; exact beq_self_eq_true _
  have e7 : ((t.roster.seats 3).peer == -1) = true := by rw [e3]; rfl
  have e8 : ((if mayStateB stB = true then sumB (putB stB) else 0) == 0) = true := by rw [putB_may]; rfl
  have e9 : (sumB (listOf 0 fun _ => default) == 14695981039346656037) = true := by kernel_rfl
  show bol ((((((((((0 : Int) == 0) && ((lA.length : Int) == 49)) && ((0 : Int) == 0)) && (t.game.dice == fnv strA strA.size)) && ((t.roster.seats 3).peer == -1)) && ((2 : Int) == 2)) && ((1 : Int) == 1)) && ((if mayStateB stB = true then sumB (putB stB) else 0) == 0)) && (sumB (listOf 0 fun _ => default) == 14695981039346656037)) = bol true
  rw [e5, e6, e7, e8, e9]
  rfl

end Go.CE

/- How long an image is: for every state the law's function answers true. -/
namespace Go.CE
open Go.RowKit Go.Proofs

theorem e_told7 : Enters Try.prog 9 := enters_of Try.func9 rfl (by kernel_rfl)
def C8 : Calls' := fun f ds => match ds with
  | [] => if Nat.beq f 9 then some (bol true, .t) else none
  | ds => C7 f ds
theorem C8_ok : COk Try.prog T C8 := by
  intro f ds d q h hq
  unfold C8 at h
  split at h
  · split at h
    · rename_i hf
      have hf := Nat.eq_of_beq_eq_true hf
      subst hf
      simp only [Option.some.injEq, Prod.mk.injEq] at h
      obtain ⟨rfl, rfl⟩ := h
      exact ⟨e_told7, c_told7.pure trivial, fun _ _ => rfl⟩
    · cases h
  · exact C7_ok _ _ _ _ h hq
theorem K8 : Kit Try.prog T C8 := ⟨tab_ok, zero_ok, C8_ok, mixed⟩

/-- How many of the first ships are there. -/
def ons (s : State) : Nat → Nat
  | 0 => 0
  | i + 1 => if (s.game.ships i).on = true then ons s i + 1 else ons s i
theorem ons_le (s : State) : ∀ i, ons s i ≤ i
  | 0 => Nat.le_refl 0
  | i + 1 => by have := ons_le s i; simp only [ons]; split <;> omega
theorem ships_len (s : State) : ∀ i, (flat shipB s.game.ships i).length = i + 21 * ons s i
  | 0 => rfl
  | i + 1 => by
    rw [flat_succ, List.length_append, ships_len s i]
    simp only [ons, shipB]
    split <;> simp only [List.length_append, le_len, quadB_len] <;> omega
theorem flat_eq {α : Type} {f : α → List Int} {c : Nat} (h : ∀ a, (f a).length = c) (g : Nat → α) : ∀ n, (flat f g n).length = c * n
  | 0 => by simp [flat]
  | n + 1 => by rw [flat_succ, List.length_append, flat_eq h g n, h, Nat.mul_succ]
theorem putB_len (s : State) : (putB s).length = 49 + 18 * s.game.n + 21 * ons s 8 := by
  have h1 := ships_len s 8
  have h2 := flat_eq (f := shotB) (c := 18) (fun a => by simp only [shotB, List.length_append, le_len, quadB_len]) s.game.shots s.game.n
  have h3 := flat_eq (f := seatBy) (c := 3) (fun a => by simp only [seatBy, List.length_append, le_len]) s.roster.seats 8
  simp only [putB, put3, put2, put1, List.length_append, le_len, h1, h2, h3]
  omega
theorem wr64 {n : Int} (h : -9223372036854775808 ≤ n ∧ n ≤ 9223372036854775807) : IntKind.i64.wrap n = n := IntWalk.i64_in _ ⟨by omega, by omega⟩

theorem c_imageLong (x : Value) (s : State) : Fun Try.prog T 5 [stateD x s] fun y => y = bol true := by
  refine Con.intro Try.func5 rfl rfl rfl rfl fun G w0 β0 β a w hS => ?_
  refine regS K0 [1] hS rfl rfl trivial fun β a w hS => ?_
  refine wp_seq (regp K0 hS rfl trivial fun β a w hS => ?_)
  refine call0 e_put (c_put x s) hS [1] rfl rfl rfl rfl rfl ⟨state_cl _ _, trivial⟩ rfl ?_
  intro y hy β a w hS
  cases hm : mayStateB s with
  | false =>
    simp only [hm, Bool.false_eq_true, if_false] at hy
    subst hy
    refine rege K0 [1, 3, 4] hS rfl rfl trivial fun β a w hS => ?_
    refine wp_seq ?_
    refine regS K0 [1, 3, 13] hS rfl rfl trivial fun β a w hS => ?_
    refine cnd hS rfl (fun h => ?_) (fun h => absurd h (by decide))
    refine regS K8 [2] hS rfl rfl trivial fun β a w hS => ?_
    exact wp_ret (fret1 K0 rfl hS rfl trivial rfl)
  | true =>
    have hn := may_n hm
    simp only [hm, if_true] at hy
    obtain ⟨x', rfl⟩ := hy
    have hlen := putB_len s
    have ho := ons_le s 8
    generalize putB s = l at hS hlen
    refine rege K0 [1, 3, 4] hS rfl rfl trivial fun β a w hS => ?_
    refine wp_seq ?_
    refine regS K0 [1, 3, 13] hS rfl rfl trivial fun β a w hS => ?_
    refine cnd hS rfl (fun h => absurd h (by decide)) (fun h => wp_skip ?_)
    refine regS K0 [1, 3, 5] hS rfl rfl trivial fun β a w hS => ?_
    refine wp_seq ?_
    refine regS K0 [1, 3, 5, 6] hS rfl rfl trivial fun β a w hS => ?_
    refine wp_block ?_
    refine lop (fun i : Nat => 8 - i) (fun i => i ≤ 8) (fun i => [(1, .d (.p 0 [])), (3, .d (.sl 1 x' l.length (rowD l))), (5, .d (i64 ((49 + 18 * s.game.n + 21 * ons s i : Nat) : Int))), (6, .d (i64 i))]) (fun _ => [.var 35 (stateD x s)]) 0 (Nat.zero_le _) (Ste.sub hS ⟨rfl, rfl, ?_, rfl, trivial⟩) ?_
    · show some (B.d (.v (.int .i64 (IntKind.i64.wrap (49 + IntKind.i64.wrap (18 * (s.game.n : Int))))))) = some (B.d (i64 ((49 + 18 * s.game.n + 21 * ons s 0 : Nat) : Int)))
      rw [wr64 (n := 18 * (s.game.n : Int)) (by omega), wr64 (by omega)]
      simp only [ons]
      have : (49 + 18 * (s.game.n : Int)) = ((49 + 18 * s.game.n + 21 * 0 : Nat) : Int) := by omega
      rw [this]; rfl
    intro i hi β a w hS
    have hoi := ons_le s i
    refine wp_seq ?_
    refine regS K0 [1, 3, 5, 6, 27] hS rfl rfl trivial fun β a w hS => ?_
    refine cnd hS rfl (fun hlt => wp_skip ?_) (fun hge => wp_exit ?_)
    · have hlt : i < 8 := by have : (i : Int) < 8 := by simpa using hlt
                             omega
      refine wp_seq ?_
      refine wp_block ?_
      refine regS K0 [1, 3, 5, 6, 35] hS rfl rfl ⟨⟨by omega, by omega⟩, trivial⟩ fun β a w hS => ?_
      refine cnd hS rfl (fun h => ?_) (fun h => wp_skip ?_)
      · have h : (s.game.ships i).on = true := h
        refine reg K0 [1, 3, 5, 6] hS rfl rfl trivial fun β a w hS => ?_
        refine reg K0 [1, 3, 5, 6] hS rfl rfl trivial fun β a w hS => ?_
        refine ⟨i + 1, β, hlt, Nat.sub_lt_sub_left hlt (Nat.lt_succ_self i), Ste.sub hS ⟨rfl, rfl, ?_, up8 hlt, trivial⟩⟩
        show some (B.d (.v (.int .i64 (IntKind.i64.wrap (((49 + 18 * s.game.n + 21 * ons s i : Nat) : Int) + 21))))) = _
        rw [wr64 (by omega)]
        simp only [ons, h, if_true]
        have : (((49 + 18 * s.game.n + 21 * ons s i : Nat) : Int) + 21) = ((49 + 18 * s.game.n + 21 * (ons s i + 1) : Nat) : Int) := by omega
        rw [this]; rfl
      · have h : (s.game.ships i).on = false := h
        refine reg K0 [1, 3, 5, 6] hS rfl rfl trivial fun β a w hS => ?_
        refine ⟨i + 1, β, hlt, Nat.sub_lt_sub_left hlt (Nat.lt_succ_self i), Ste.sub hS ⟨rfl, rfl, ?_, up8 hlt, trivial⟩⟩
        simp only [ons, h, Bool.false_eq_true, if_false]
        rfl
    · have hge : i = 8 := by have : ¬ ((i : Int) < 8) := by simpa using hge
                             omega
      subst hge
      refine regS K8 [2] hS rfl rfl trivial fun β a w hS => ?_
      refine wp_ret (fret1 K0 rfl hS rfl trivial ?_)
      have e1 : ((l.length : Int) == ((49 + 18 * s.game.n + 21 * ons s 8 : Nat) : Int)) = true := by rw [hlen]; exact beq_self_eq_true _
      have e2 : decide (((49 + 18 * s.game.n + 21 * ons s 8 : Nat) : Int) ≤ 793) = true := by rw [decide_eq_true_eq]; omega
      show bol ((true && ((l.length : Int) == ((49 + 18 * s.game.n + 21 * ons s 8 : Nat) : Int))) && decide (((49 + 18 * s.game.n + 21 * ons s 8 : Nat) : Int) ≤ 793)) = bol true
      rw [e1, e2]
      rfl

end Go.CE

/- A small program logic, thirty-second text: an argument that can be read, as a tree (no condition: for any program whose types the table tells). -/
namespace Go.CE
open Go.RowKit

variable {P : Program} {T : Tab} {w : World}

/-- Whoever owns nothing. -/
def allD : Dom := ⟨fun _ => True, 0⟩
def TyL (c : Nat → D → Prop) : List (Nat × Nat) → List D → Prop
  | [], [] => True
  | a :: r, d :: q => c a.2 d ∧ TyL c r q
  | _, _ => False
/-- A tree of a type, whose slices read in w. -/
def Ty (T : Tab) (w : World) : Nat → Nat → D → Prop
  | 0, _, _ => False
  | m + 1, t, d => match T t with
    | some ⟨.leaf, _, _, .v (.int k _)⟩ => ∃ n, d = .v (.int k n) ∧ (Lit.int k n).wf = true
    | some ⟨.leaf, _, _, .v (.bool _)⟩ => ∃ b, d = .v (.bool b)
    | some ⟨.leaf, _, _, .v (.string _)⟩ => ∃ s : ByteArray, d = .v (.string s) ∧ s.size ≤ maxLen
    | some ⟨.st fs, _, _, _⟩ => ∃ ds, d = .st t ds ∧ TyL (Ty T w m) fs ds
    | some ⟨.ar n e sz, _, _, _⟩ => ∃ f, d = .ar n sz f ∧ ∀ i, Ty T w m e (f i)
    | some ⟨.sl e sz, _, _, _⟩ => ∃ x n f, d = .sl sz x n f ∧ SlOk T w allD sz x n f ∧ ∀ i, Ty T w m e (f i)
    | _ => False
def tyKL (c : Nat → Bool) : List (Nat × Nat) → Bool
  | [] => true
  | a :: r => c a.2 && tyKL c r
/-- Is it a type whose values are trees? -/
def tyK (T : Tab) : Nat → Nat → Bool
  | 0, _ => false
  | m + 1, t => match T t with
    | some ⟨.leaf, _, _, .v (.int ..)⟩ => true
    | some ⟨.leaf, _, _, .v (.bool _)⟩ => true
    | some ⟨.leaf, _, _, .v (.string _)⟩ => true
    | some ⟨.st fs, _, _, _⟩ => tyKL (tyK T m) fs
    | some ⟨.ar _ e _, _, _, _⟩ => tyK T m e
    | some ⟨.sl e _, _, _, _⟩ => tyK T m e
    | _ => false
def dzL (c : Nat → D) : List (Nat × Nat) → List D
  | [] => []
  | a :: r => c a.2 :: dzL c r
/-- Some tree of a type. -/
def dz (T : Tab) : Nat → Nat → D
  | 0, _ => .v undef
  | m + 1, t => match T t with
    | some ⟨.leaf, _, _, .v (.int k _)⟩ => .v (.int k 0)
    | some ⟨.leaf, _, _, .v (.bool _)⟩ => .v (.bool false)
    | some ⟨.leaf, _, _, .v (.string _)⟩ => .v (.string ⟨#[]⟩)
    | some ⟨.st fs, _, _, _⟩ => .st t (dzL (dz T m) fs)
    | some ⟨.ar n e sz, _, _, _⟩ => .ar n sz fun _ => dz T m e
    | some ⟨.sl e sz, _, _, _⟩ => .sl sz (.slice none 0 0) 0 fun _ => dz T m e
    | _ => .v undef

theorem TyL_of {c : Nat → D → Prop} {b : Nat → Bool} {z : Nat → D} (h : ∀ t, b t = true → c t (z t)) : ∀ fs, tyKL b fs = true → TyL c fs (dzL z fs)
  | [], _ => trivial
  | a :: r, hb => by
    simp only [tyKL, Bool.and_eq_true] at hb
    exact ⟨h _ hb.1, TyL_of h r hb.2⟩
theorem Ty.dz : ∀ (m t : Nat), tyK T m t = true → Ty T w m t (dz T m t)
  | 0, _, h => by cases h
  | m + 1, t, h => by
    unfold tyK at h
    unfold Ty CE.dz
    split at h
    · rename_i sz b k n ht
      try rw [ht]
      exact ⟨0, rfl, by cases k <;> rfl⟩
    · rename_i sz b bb ht
      try rw [ht]
      exact ⟨false, rfl⟩
    · rename_i sz b s ht
      try rw [ht]
      exact ⟨_, rfl, Nat.zero_le _⟩
    · rename_i fs sz b z ht
      try rw [ht]
      exact ⟨_, rfl, TyL_of (fun t ht => Ty.dz m t ht) fs h⟩
    · rename_i n e sz s b z ht
      try rw [ht]
      exact ⟨_, rfl, fun _ => Ty.dz m e h⟩
    · rename_i e sz s b z ht
      try rw [ht]
      exact ⟨_, _, _, rfl, ⟨none, 0, rfl, Nat.le_refl _, Nat.zero_le _, .inl rfl⟩, fun _ => Ty.dz m e h⟩
    · cases h

theorem TyL_ok {c : Nat → D → Prop} (h : ∀ t d, c t d → Ok T w allD d ∧ Cl d ∧ d.size T = sizeT T t) : ∀ (fs : List (Nat × Nat)) (ds : List D), (∀ (f s e : Nat), nth fs f = some (s, e) → sizeT T e = s) → TyL c fs ds → OkL T w allD ds ∧ ClL ds ∧ ds.map (D.size T) = fs.map (·.1)
  | [], [], _, _ => ⟨trivial, trivial, rfl⟩
  | a :: r, d :: q, hs, ht => by
    obtain ⟨h1, h2, h3⟩ := h _ _ ht.1
    obtain ⟨g1, g2, g3⟩ := TyL_ok h r q (fun f s e he => hs (f + 1) s e he) ht.2
    exact ⟨⟨h1, g1⟩, ⟨h2, g2⟩, by simp only [List.map_cons, h3, g3, hs 0 a.1 a.2 rfl]⟩
theorem Ty.ok (hT : TabOk P T) : ∀ (m t : Nat) (d : D), Ty T w m t d → Ok T w allD d ∧ Cl d ∧ d.size T = sizeT T t ∧ d.isAgg = isAggT T t
  | 0, _, _, h => h.elim
  | m + 1, t, d, h => by
    unfold Ty at h
    split at h
    · rename_i sz b k n ht
      obtain ⟨n, rfl, _⟩ := h
      have hd := (hT t _ ht).2
      exact ⟨rfl, trivial, by rw [sizeT_eq ht]; exact hd.1.symm, by simp only [isAggT, ht]; rfl⟩
    · rename_i sz b bb ht
      obtain ⟨n, rfl⟩ := h
      have hd := (hT t _ ht).2
      exact ⟨rfl, trivial, by rw [sizeT_eq ht]; exact hd.1.symm, by simp only [isAggT, ht]; rfl⟩
    · rename_i sz b s ht
      obtain ⟨n, rfl, _⟩ := h
      have hd := (hT t _ ht).2
      exact ⟨rfl, trivial, by rw [sizeT_eq ht]; exact hd.1.symm, by simp only [isAggT, ht]; rfl⟩
    · rename_i fs sz b z ht
      obtain ⟨ds, rfl, hl⟩ := h
      have hd := (hT t _ ht).2
      obtain ⟨e1, ⟨fields, _, _, hf⟩, _⟩ := hd
      obtain ⟨h1, h2, h3⟩ := TyL_ok (fun t d h => ⟨(Ty.ok hT m t d h).1, (Ty.ok hT m t d h).2.1, (Ty.ok hT m t d h).2.2.1⟩) fs ds (fun f s e he => by obtain ⟨_, _, _, _, _, h5, _⟩ := hf f s e he; exact h5) hl
      subst e1
      exact ⟨⟨⟨fs, b, z, ht, h3⟩, h1⟩, h2, rfl, by simp only [isAggT, ht]; rfl⟩
    · rename_i n e sz s b z ht
      obtain ⟨f, rfl, hf⟩ := h
      have hd := (hT t _ ht).2
      exact ⟨fun i hi => ⟨by rw [(Ty.ok hT m e _ (hf i)).2.2.1]; exact hd.2.2.1, (Ty.ok hT m e _ (hf i)).1⟩, fun i _ => (Ty.ok hT m e _ (hf i)).2.1, by rw [sizeT_eq ht]; exact hd.1.symm, by simp only [isAggT, ht]; rfl⟩
    · rename_i e sz s b z ht
      obtain ⟨x, n, f, rfl, hs, hf⟩ := h
      have hd := (hT t _ ht).2
      exact ⟨⟨hs, fun i hi => ⟨by rw [(Ty.ok hT m e _ (hf i)).2.2.1]; exact hd.2.2.1, (Ty.ok hT m e _ (hf i)).1, (Ty.ok hT m e _ (hf i)).2.1⟩⟩, fun i _ => (Ty.ok hT m e _ (hf i)).2.1, by rw [sizeT_eq ht]; exact hd.1.symm, by simp only [isAggT, ht]; rfl⟩
    · exact h.elim

theorem cellsOf_eq (hT : TabOk P T) {t : Nat} {r : Row} (h : T t = some r) : P.cellsOf t = r.size := by
  obtain ⟨i, h1, h2, _⟩ := (hT t r h).1
  simp [Program.cellsOf, h1, h2]

/-- The fields of a struct, one behind the other. -/
theorem open_fields (hT : TabOk P T) {c : Nat → D → Prop} {g : Field → List Value → Prop} {cs : List Value} : ∀ (l : List (Nat × Nat)) (fields : List Field) (o : Nat), fields.length = l.length →
    (∀ (f : Nat) fd s e, fields[f]? = some fd → nth l f = some (s, e) → fd.offset = o + offF l f ∧ fd.type = e ∧ sizeT T e = s) → cs.length = o + sumN l →
    (∀ (f : Nat) fd, fields[f]? = some fd → ∃ D, c fd.type D ∧ D.cells T (fun _ => 0) = (cs.drop fd.offset).take (sizeT T fd.type)) → ∃ ds, TyL c l ds ∧ D.cellsL T (fun _ => 0) ds = cs.drop o
  | [], _, o, _, _, hl, _ => ⟨[], trivial, by simp only [sumN, Nat.add_zero] at hl; simp [D.cellsL, ← hl]⟩
  | (s, e) :: l, [], o, hn, _, _, _ => by simp at hn
  | (s, e) :: l, fd :: fields, o, hn, hf, hl, hc => by
    obtain ⟨h1, h2, h3⟩ := hf 0 fd s e rfl rfl
    obtain ⟨d, k1, k2⟩ := hc 0 fd rfl
    simp only [offF, Nat.add_zero] at h1
    have hsum : sumN ((s, e) :: l) = s + sumN l := rfl
    obtain ⟨ds, g1, g2⟩ := open_fields hT (c := c) (g := g) (cs := cs) l fields (o + s) (by simpa using hn) (fun f fd' s' e' q1 q2 => by
      obtain ⟨p1, p2, p3⟩ := hf (f + 1) fd' s' e' q1 q2
      exact ⟨by rw [p1]; simp only [offF]; omega, p2, p3⟩) (by omega) (fun f fd' q => hc (f + 1) fd' q)
    refine ⟨d :: ds, ⟨h2 ▸ k1, g1⟩, ?_⟩
    simp only [D.cellsL, k2, g2, h1, h2, h3]
    rw [← List.drop_drop]
    exact List.take_append_drop s (cs.drop o)

theorem open_elems {f : Nat → D} {cs : List Value} {sz : Nat} : ∀ (n : Nat), cs.length = n * sz → (∀ i, i < n → (f i).cells T (fun _ => 0) = (cs.drop (i * sz)).take sz) → ((List.range n).flatMap fun i => (f i).cells T (fun _ => 0)) = cs := by
  intro n hl h
  have key : ∀ k, k ≤ n → ((List.range k).flatMap fun i => (f i).cells T (fun _ => 0)) = cs.take (k * sz) := by
    intro k
    induction k with
    | zero => intro _; simp
    | succ k ih =>
      intro hk
      rw [List.range_succ, List.flatMap_append, ih (by omega)]
      simp only [List.flatMap_cons, List.flatMap_nil, List.append_nil]
      rw [h k (by omega), Nat.succ_mul, List.take_add]
  rw [key n (Nat.le_refl _), ← hl, List.take_length]

theorem opened {H : Type} {enc : TypeId × Value → H} {base : Nat} {spare : Nat → Bool} {held : Bool} (hT : TabOk P T) : ∀ (m fuel t : Nat) (cs : List Value) (x : DataW H × List MemPlace), tyK T m t = true →
    DataW.trod enc P w base spare held fuel t cs = some x → ∃ D, Ty T w m t D ∧ D.cells T (fun _ => 0) = cs
  | 0, _, _, _, _, h, _ => by cases h
  | m + 1, fuel, t, cs, x, h, hx => by
    unfold tyK at h
    unfold Ty
    split at h
    · rename_i sz b k n ht
      try rw [ht]
      have hu : P.underlying t = some (.int k) := (hT t _ ht).2.2.2
      obtain ⟨n, rfl, _, hw⟩ := DataW.trod_int hu hx
      exact ⟨_, ⟨n, rfl, hw⟩, rfl⟩
    · rename_i sz b bb ht
      try rw [ht]
      have hu : P.underlying t = some .bool := (hT t _ ht).2.2.2
      obtain ⟨v, rfl, _⟩ := DataW.trod_bool hu hx
      exact ⟨_, ⟨v, rfl⟩, rfl⟩
    · rename_i sz b s ht
      try rw [ht]
      have hu : P.underlying t = some .string := (hT t _ ht).2.2.2
      obtain ⟨v, rfl, _, hs⟩ := DataW.trod_string hu hx
      exact ⟨_, ⟨v, rfl, hs⟩, rfl⟩
    · rename_i fs sz b z ht
      try rw [ht]
      obtain ⟨e1, ⟨fields, hu, hn, hf⟩, _⟩ := (hT t _ ht).2
      obtain ⟨xs, fu, _, _, hl, _, hxs⟩ := DataW.trod_struct hu hx
      rw [cellsOf_eq hT ht] at hl
      simp only at hl
      have hnth : ∀ (f : Nat) fd, fields.toList[f]? = some fd → ∃ s e, nth fs f = some (s, e) ∧ fd.offset = offF fs f ∧ fd.type = e ∧ sizeT T e = s ∧ (T e).isSome = true := fun f fd hfd => by
        have hfl : f < fs.length := by
          have := (List.getElem?_eq_some_iff.1 hfd).1
          rw [← hn]
          simpa using this
        obtain ⟨p, hp⟩ := nth_of_lt fs f hfl
        obtain ⟨fd', q1, _, q2, q3, q4, _, q5⟩ := hf f p.1 p.2 hp
        have : fd = fd' := by
          have : fields.toList[f]? = some fd' := by simpa using q1
          rw [hfd] at this
          exact Option.some.inj this
        subst this
        exact ⟨p.1, p.2, hp, q2, q3, q4, q5⟩
      obtain ⟨ds, g1, g2⟩ := open_fields hT (c := Ty T w m) (g := fun _ _ => True) (cs := cs) fs fields.toList 0 (by simpa using hn) (fun f fd s e q1 q2 => by
          obtain ⟨s', e', p1, p2, p3, p4, _⟩ := hnth f fd q1
          rw [q2] at p1
          cases p1
          exact ⟨by rw [p2, Nat.zero_add], p3, p4⟩) (by rw [hl, Nat.zero_add]; exact e1) (fun f fd q => by
          obtain ⟨s, e, p1, p2, p3, p4, p5⟩ := hnth f fd q
          have h2 := hxs f fd (by simpa using q)
          have hlt : f < xs.length := by
            have := (List.getElem?_eq_some_iff.1 q).1
            simp at this
            omega
          rw [List.getElem?_eq_getElem hlt] at h2
          have hk : tyK T m fd.type = true := by
            rw [p3]
            have : ∀ (l : List (Nat × Nat)) (f : Nat) (s e : Nat), tyKL (tyK T m) l = true → nth l f = some (s, e) → tyK T m e = true := by
              intro l
              induction l with
              | nil => intro f s e _ h; cases h
              | cons a r ih =>
                intro f s e hb hn
                simp only [tyKL, Bool.and_eq_true] at hb
                cases f with
                | zero => simp only [nth, Option.some.injEq] at hn; subst hn; exact hb.1
                | succ f => exact ih f s e hb.2 hn
            exact this fs f s e h p1
          obtain ⟨D, k1, k2⟩ := opened hT m fu fd.type _ _ hk h2
          refine ⟨D, k1, ?_⟩
          rw [k2]
          obtain ⟨r, hr⟩ := Option.isSome_iff_exists.1 p5
          rw [p3, cellsOf_eq hT hr, sizeT_eq hr])
      exact ⟨_, ⟨ds, rfl, g1⟩, by simpa [D.cells] using g2⟩
    · rename_i n e sz s b z ht
      try rw [ht]
      obtain ⟨e1, hu, e2, e3, e4, e5, _⟩ := (hT t _ ht).2
      obtain ⟨xs, fu, _, _, hl, hxl, hxs⟩ := DataW.trod_array hu hx
      obtain ⟨r, hr⟩ := Option.isSome_iff_exists.1 e5
      have hce : P.cellsOf e = sz := by rw [cellsOf_eq hT hr, ← sizeT_eq hr]; exact e2
      rw [cellsOf_eq hT ht] at hl
      simp only at hl
      rw [hce] at hxs
      have hD : ∀ i, ∃ D, Ty T w m e D ∧ (i < n → D.cells T (fun _ => 0) = (cs.drop (i * sz)).take sz) := fun i => by
        by_cases hi : i < n
        · have h2 := hxs i hi
          rw [List.getElem?_eq_getElem (by omega)] at h2
          obtain ⟨D, k1, k2⟩ := opened hT m fu e _ _ h h2
          exact ⟨D, k1, fun _ => k2⟩
        · exact ⟨_, Ty.dz m e h, fun h => absurd h hi⟩
      refine ⟨_, ⟨fun i => Classical.choose (hD i), rfl, fun i => (Classical.choose_spec (hD i)).1⟩, ?_⟩
      simp only [D.cells]
      exact open_elems n (by rw [hl]; exact e1) fun i hi => (Classical.choose_spec (hD i)).2 hi
    · rename_i e sz s b z ht
      try rw [ht]
      obtain ⟨e1, hu, e2, e3, e5⟩ := (hT t _ ht).2
      obtain ⟨r, hr⟩ := Option.isSome_iff_exists.1 e5
      have hce : P.cellsOf e = sz := by rw [cellsOf_eq hT hr, ← sizeT_eq hr]; exact e2
      rcases DataW.trod_slice hu hx with ⟨rfl, _⟩ | ⟨a, len, cap, elems, rest, fu, _, rfl, _, hb, hlc, hcm, hel, hxs, _⟩
      · exact ⟨_, ⟨_, _, _, rfl, ⟨none, 0, rfl, Nat.le_refl _, Nat.zero_le _, .inl rfl⟩, fun _ => Ty.dz m e h⟩, rfl⟩
      · rw [hce] at hxs
        have hD : ∀ i, ∃ D, Ty T w m e D ∧ (i < len → ∃ ce, w.cells? base (a.add (i * sz)) sz = some ce ∧ D.cells T (fun _ => 0) = ce) := fun i => by
          by_cases hi : i < len
          · have h2 := hxs i hi
            rw [List.getElem?_eq_getElem (by omega)] at h2
            obtain ⟨ce, k0, k3⟩ := Option.bind_eq_some_iff.1 h2
            obtain ⟨D, k1, k2⟩ := opened hT m fu e _ _ h k3
            exact ⟨D, k1, fun _ => ⟨ce, k0, k2⟩⟩
          · exact ⟨_, Ty.dz m e h, fun h => absurd h hi⟩
        refine ⟨_, ⟨.slice (some a) len cap, len, fun i => Classical.choose (hD i), rfl, ⟨some a, cap, rfl, hlc, hcm, ?_⟩, fun i => (Classical.choose_spec (hD i)).1⟩, rfl⟩
        by_cases hl0 : len = 0
        · exact .inl hl0
        · right
          obtain ⟨ce0, q1, q2⟩ := (Classical.choose_spec (hD 0)).2 (by omega)
          obtain ⟨_, q3, q4⟩ := World.cells?_some q1
          have q5 := q4 0 e3
          have hne : ce0[0]? = some (ce0[0]'(by omega)) := List.getElem?_eq_getElem _
          rw [hne] at q5
          have hspot := World.cell?_spot q5
          obtain ⟨bk, of, sp⟩ := a
          have hspot : sp = none := by simpa [Addr.add] using hspot
          subst hspot
          have hblk : ∃ cur et fr, w.heap[bk]? = some (.cells cur et fr) := by
            rw [addr_add, addr_add] at q5
            unfold World.cell? at q5
            split at q5
            · rename_i c et fr hh; exact ⟨c, et, fr, hh⟩
            · cases q5
          obtain ⟨cur, et, fr, hh⟩ := hblk
          refine ⟨bk, of, cur, et, fr, rfl, trivial, hh, fun i hi j v hv => ?_⟩
          obtain ⟨ce, p1, p2⟩ := (Classical.choose_spec (hD i)).2 hi
          simp only at hv
          rw [p2] at hv
          obtain ⟨_, p3, p4⟩ := World.cells?_some p1
          have hj : j < sz := by
            have := (List.getElem?_eq_some_iff.1 hv).1
            omega
          have p5 := p4 j hj
          rw [hv] at p5
          rw [addr_add, addr_add] at p5
          simpa [World.cell?, hh] using p5
    · cases h

theorem okw_int {t : Nat} {k : IntKind} {r : Reach} {base : Nat} {v : Value} (hu : P.underlying t = some (.int k)) (hv : Value.okWide P w r base t v) : ∃ y, v.cells = #[y] ∧ v = y := by
  simp only [Value.okWide, hu, Cell.okWide] at hv
  cases v <;> simp_all [Cell.ok, Value.cells]
theorem okw_bool {t : Nat} {r : Reach} {base : Nat} {v : Value} (hu : P.underlying t = some .bool) (hv : Value.okWide P w r base t v) : ∃ y, v.cells = #[y] ∧ v = y := by
  simp only [Value.okWide, hu, Cell.okWide] at hv
  cases v <;> simp_all [Cell.ok, Value.cells]
theorem okw_string {t : Nat} {r : Reach} {base : Nat} {v : Value} (hu : P.underlying t = some .string) (hv : Value.okWide P w r base t v) : ∃ y, v.cells = #[y] ∧ v = y := by
  simp only [Value.okWide, hu, Cell.okWide] at hv
  cases v <;> simp_all [Cell.ok, Value.cells]
theorem okw_slice {t e : Nat} {r : Reach} {base : Nat} {v : Value} (hu : P.underlying t = some (.slice e)) (hv : Value.okWide P w r base t v) : ∃ y, v.cells = #[y] ∧ v = y := by
  simp only [Value.okWide, hu, Cell.okWide] at hv
  cases v <;> simp_all [Cell.ok, Value.cells]

/-- A value's own shape, out of its cells. -/
theorem val_of_cells (hT : TabOk P T) {m t : Nat} {d : D} {v : Value} {r : Reach} {base : Nat} (h : Ty T w m t d) (hv : Value.okWide P w r base t v) (hc : d.cells T (fun _ => 0) = v.cells.toList) : v = d.val T fun _ => 0 := by
  obtain ⟨_, _, _, hag⟩ := h.ok hT
  unfold D.val
  rw [hag]
  cases m with
  | zero => exact h.elim
  | succ m =>
    unfold Ty at h
    have agg : isAggT T t = true → (∃ cs, v = .agg cs) → v = .agg (d.cells T fun _ => 0).toArray := by
      rintro _ ⟨cs, rfl⟩
      rw [hc]
      simp [Value.cells]
    have one : (∃ y, v.cells = #[y] ∧ v = y) → v = (d.cells T fun _ => 0).headD undef := by
      rintro ⟨y, h1, h2⟩
      rw [hc, h1, h2]
      rfl
    split at h
    · rename_i sz b k n ht
      have hu : P.underlying t = some (.int k) := (hT t _ ht).2.2.2
      rw [if_neg (by simp [isAggT, ht])]
      exact one (okw_int hu hv)
    · rename_i sz b bb ht
      have hu : P.underlying t = some .bool := (hT t _ ht).2.2.2
      rw [if_neg (by simp [isAggT, ht])]
      exact one (okw_bool hu hv)
    · rename_i sz b s ht
      have hu : P.underlying t = some .string := (hT t _ ht).2.2.2
      rw [if_neg (by simp [isAggT, ht])]
      exact one (okw_string hu hv)
    · rename_i fs sz b z ht
      obtain ⟨_, ⟨fields, hu, _⟩, _⟩ := (hT t _ ht).2
      have e : isAggT T t = true := by simp [isAggT, ht]
      rw [if_pos e]
      refine agg e ?_
      simp only [Value.okWide, hu] at hv
      obtain ⟨cs, h1, _⟩ := hv
      exact ⟨cs, h1⟩
    · rename_i n e sz s b z ht
      have hu := (hT t _ ht).2.2.1
      have e : isAggT T t = true := by simp [isAggT, ht]
      rw [if_pos e]
      refine agg e ?_
      simp only [Value.okWide, hu] at hv
      obtain ⟨cs, h1, _⟩ := hv
      exact ⟨cs, h1⟩
    · rename_i e sz s b z ht
      have hu : P.underlying t = some (.slice e) := (hT t _ ht).2.2.1
      rw [if_neg (by simp [isAggT, ht])]
      exact one (okw_slice hu hv)
    · exact h.elim

/-- An argument that can be read is a tree. -/
theorem open_arg {H : Type} {enc : TypeId × Value → H} {base : Nat} {spare : Nat → Bool} {held : Bool} (hT : TabOk P T) (m : Nat) {t : Nat} {v : Value} {d : DataW H} {ps : List MemPlace} {r : Reach} {b0 : Nat} (hk : tyK T m t = true) (hv : Value.okWide P w r b0 t v) (h : DataW.Trod enc P w base spare held t v d ps) :
    ∃ D, Ty T w m t D ∧ v = D.val T (fun _ => 0) ∧ Ok T w allD D ∧ Cl D := by
  obtain ⟨fuel, hf⟩ := h
  obtain ⟨D, h1, h2⟩ := opened hT m fuel t _ _ hk hf
  obtain ⟨h3, h4, _⟩ := h1.ok hT
  exact ⟨D, h1, val_of_cells hT h1 hv h2, h3, h4⟩

end Go.CE

/- What the laws' arguments are: states as trees. -/
namespace Go.CE
open Go.RowKit Go.Proofs

def InT (k : IntKind) (n : Int) : Prop := (Lit.int k n).wf = true
theorem InT.i64 {n : Int} (h : InT .i64 n) : -9223372036854775808 ≤ n ∧ n ≤ 9223372036854775807 := by
  simp only [InT, Lit.wf, Bool.and_eq_true, decide_eq_true_eq] at h; exact h
theorem InT.i32 {n : Int} (h : InT .i32 n) : -2147483648 ≤ n ∧ n ≤ 2147483647 := by
  simp only [InT, Lit.wf, Bool.and_eq_true, decide_eq_true_eq] at h; exact h
theorem InT.i8 {n : Int} (h : InT .i8 n) : -128 ≤ n ∧ n ≤ 127 := by
  simp only [InT, Lit.wf, Bool.and_eq_true, decide_eq_true_eq] at h; exact h
theorem InT.u8 {n : Int} (h : InT .u8 n) : 0 ≤ n ∧ n ≤ 255 := by
  simp only [InT, Lit.wf, Bool.and_eq_true, decide_eq_true_eq] at h; exact h
theorem InT.u64 {n : Int} (h : InT .u64 n) : 0 ≤ n ∧ n ≤ 18446744073709551615 := by
  simp only [InT, Lit.wf, Bool.and_eq_true, decide_eq_true_eq] at h; exact h

structure ShipIn (s : Ship) : Prop where
  x : InT .i32 s.x
  y : InT .i32 s.y
  vx : InT .i32 s.vx
  vy : InT .i32 s.vy
  cool : InT .i64 s.cool
  score : InT .i64 s.score
structure ShotIn (s : Shot) : Prop where
  owner : InT .i64 s.owner
  x : InT .i32 s.x
  y : InT .i32 s.y
  vx : InT .i32 s.vx
  vy : InT .i32 s.vy
  life : InT .i64 s.life
structure SeatIn (s : Seat) : Prop where
  peer : InT .i64 s.peer
  gen : InT .i64 s.gen
structure GameIn (g : Game) : Prop where
  frame : InT .i64 g.frame
  dice : InT .u64 g.dice
  ships : ∀ i, ShipIn (g.ships i)
  n : g.n ≤ maxLen
  shots : ∀ i, ShotIn (g.shots i)
structure RosterIn (r : Roster) : Prop where
  version : InT .i64 r.version
  seats : ∀ i, SeatIn (r.seats i)
structure StateIn (s : State) : Prop where
  game : GameIn s.game
  roster : RosterIn s.roster

theorem TyL.cons {c : Nat → D → Prop} {a : Nat × Nat} {r : List (Nat × Nat)} {ds : List D} (h : TyL c (a :: r) ds) : ∃ d q, ds = d :: q ∧ c a.2 d ∧ TyL c r q := by
  cases ds with
  | nil => exact h.elim
  | cons d q => exact ⟨d, q, rfl, h.1, h.2⟩
theorem TyL.nil {c : Nat → D → Prop} {ds : List D} (h : TyL c [] ds) : ds = [] := by
  cases ds with
  | nil => rfl
  | cons d q => exact h.elim

variable {w : World} {m : Nat} {d : D}

theorem ty_ship (h : Ty T w (m + 2) 24 d) : ∃ s, d = shipD s ∧ ShipIn s := by
  obtain ⟨ds, rfl, hq⟩ := (show ∃ ds, d = .st 24 ds ∧ TyL (Ty T w (m + 1)) _ ds from h)
  obtain ⟨_, _, rfl, ⟨b, rfl⟩, q1⟩ := hq.cons
  obtain ⟨_, _, rfl, ⟨x, rfl, hx⟩, q2⟩ := q1.cons
  obtain ⟨_, _, rfl, ⟨y, rfl, hy⟩, q3⟩ := q2.cons
  obtain ⟨_, _, rfl, ⟨vx, rfl, hvx⟩, q4⟩ := q3.cons
  obtain ⟨_, _, rfl, ⟨vy, rfl, hvy⟩, q5⟩ := q4.cons
  obtain ⟨_, _, rfl, ⟨c, rfl, hc⟩, q6⟩ := q5.cons
  obtain ⟨_, _, rfl, ⟨sc, rfl, hsc⟩, q7⟩ := q6.cons
  obtain rfl := q7.nil
  exact ⟨⟨b, x, y, vx, vy, c, sc⟩, rfl, ⟨hx, hy, hvx, hvy, hc, hsc⟩⟩
theorem ty_shot (h : Ty T w (m + 2) 72 d) : ∃ s, d = shotD s ∧ ShotIn s := by
  obtain ⟨ds, rfl, hq⟩ := (show ∃ ds, d = .st 72 ds ∧ TyL (Ty T w (m + 1)) _ ds from h)
  obtain ⟨_, _, rfl, ⟨o, rfl, ho⟩, q1⟩ := hq.cons
  obtain ⟨_, _, rfl, ⟨x, rfl, hx⟩, q2⟩ := q1.cons
  obtain ⟨_, _, rfl, ⟨y, rfl, hy⟩, q3⟩ := q2.cons
  obtain ⟨_, _, rfl, ⟨vx, rfl, hvx⟩, q4⟩ := q3.cons
  obtain ⟨_, _, rfl, ⟨vy, rfl, hvy⟩, q5⟩ := q4.cons
  obtain ⟨_, _, rfl, ⟨l, rfl, hl⟩, q6⟩ := q5.cons
  obtain rfl := q6.nil
  exact ⟨⟨o, x, y, vx, vy, l⟩, rfl, ⟨ho, hx, hy, hvx, hvy, hl⟩⟩
theorem ty_seat (h : Ty T w (m + 2) 30 d) : ∃ s, d = seatD s ∧ SeatIn s := by
  obtain ⟨ds, rfl, hq⟩ := (show ∃ ds, d = .st 30 ds ∧ TyL (Ty T w (m + 1)) _ ds from h)
  obtain ⟨_, _, rfl, ⟨p, rfl, hp⟩, q1⟩ := hq.cons
  obtain ⟨_, _, rfl, ⟨g, rfl, hg⟩, q2⟩ := q1.cons
  obtain rfl := q2.nil
  exact ⟨⟨p, g⟩, rfl, ⟨hp, hg⟩⟩
/-- Elements, each told. -/
theorem ty_all {α : Type} {c : D → Prop} {enc : α → D} {q : α → Prop} {f : Nat → D} (h : ∀ i, c (f i)) (hc : ∀ d, c d → ∃ s, d = enc s ∧ q s) : ∃ g : Nat → α, f = (fun i => enc (g i)) ∧ ∀ i, q (g i) :=
  ⟨fun i => Classical.choose (hc _ (h i)), funext fun i => (Classical.choose_spec (hc _ (h i))).1, fun i => (Classical.choose_spec (hc _ (h i))).2⟩
theorem ty_game (h : Ty T w (m + 4) 28 d) : ∃ x g, d = gameD x g ∧ GameIn g := by
  obtain ⟨ds, rfl, hq⟩ := (show ∃ ds, d = .st 28 ds ∧ TyL (Ty T w (m + 3)) _ ds from h)
  obtain ⟨_, _, rfl, ⟨fr, rfl, hfr⟩, q1⟩ := hq.cons
  obtain ⟨_, _, rfl, ⟨di, rfl, hdi⟩, q2⟩ := q1.cons
  obtain ⟨_, _, rfl, ⟨f, rfl, hf⟩, q3⟩ := q2.cons
  obtain ⟨_, _, rfl, ⟨x, n, g, rfl, hs, hg⟩, q4⟩ := q3.cons
  obtain rfl := q4.nil
  obtain ⟨ships, rfl, hsh⟩ := ty_all hf fun d hd => ty_ship hd
  obtain ⟨shots, rfl, hso⟩ := ty_all hg fun d hd => ty_shot hd
  obtain ⟨a, cap, _, h1, h2, _⟩ := hs
  exact ⟨x, ⟨fr, di, ships, n, shots⟩, rfl, ⟨hfr, hdi, hsh, Nat.le_trans h1 h2, hso⟩⟩
theorem ty_roster (h : Ty T w (m + 4) 33 d) : ∃ r, d = rosterD r ∧ RosterIn r := by
  obtain ⟨ds, rfl, hq⟩ := (show ∃ ds, d = .st 33 ds ∧ TyL (Ty T w (m + 3)) _ ds from h)
  obtain ⟨_, _, rfl, ⟨v, rfl, hv⟩, q1⟩ := hq.cons
  obtain ⟨_, _, rfl, ⟨f, rfl, hf⟩, q2⟩ := q1.cons
  obtain rfl := q2.nil
  obtain ⟨seats, rfl, hs⟩ := ty_all hf fun d hd => ty_seat hd
  exact ⟨⟨v, seats⟩, rfl, ⟨hv, hs⟩⟩
theorem ty_state (h : Ty T w (m + 5) 35 d) : ∃ x s, d = stateD x s ∧ StateIn s := by
  obtain ⟨ds, rfl, hq⟩ := (show ∃ ds, d = .st 35 ds ∧ TyL (Ty T w (m + 4)) _ ds from h)
  obtain ⟨_, _, rfl, h1, q1⟩ := hq.cons
  obtain ⟨_, _, rfl, h2, q2⟩ := q1.cons
  obtain rfl := q2.nil
  obtain ⟨x, g, rfl, hg⟩ := ty_game h1
  obtain ⟨r, rfl, hr⟩ := ty_roster h2
  exact ⟨x, ⟨g, r⟩, rfl, ⟨hg, hr⟩⟩
theorem ty_int (h : Ty T w (m + 1) 3 d) : ∃ n, d = i64 n ∧ InT .i64 n := h
theorem ty_str (h : Ty T w (m + 1) 9 d) : ∃ s : ByteArray, d = .v (.string s) ∧ s.size ≤ maxLen := h

end Go.CE
