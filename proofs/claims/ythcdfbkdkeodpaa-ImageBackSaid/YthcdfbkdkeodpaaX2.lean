/- Contract: image.Put. -/
import Derived.Test.YthcdfbkdkeodpaaX1
import Derived.Recover
namespace Go.CE
open Go.RowKit Go.Proofs

theorem e_mayState : Enters Try.prog 24 := enters_of Try.func24 rfl (by kernel_rfl)

def shipQ (s : Ship) : Nat → Int
  | 0 => s.x
  | 1 => s.y
  | 2 => s.vx
  | _ => s.vy
def shotQ (s : Shot) : Nat → Int
  | 0 => s.x
  | 1 => s.y
  | 2 => s.vx
  | _ => s.vy
def shipB (s : Ship) : List Int := if s.on = true then ((le 1 1 ++ quadB (shipQ s) 4) ++ le (IntKind.u64.wrap s.cool) 1) ++ le (IntKind.u64.wrap s.score) 4 else le 0 1
def shotB (s : Shot) : List Int := (le (IntKind.u64.wrap s.owner) 1 ++ quadB (shotQ s) 4) ++ le (IntKind.u64.wrap s.life) 1
def seatBy (s : Seat) : List Int := le (IntKind.u64.wrap (IntKind.i64.wrap (s.peer + 1))) 1 ++ le (IntKind.u64.wrap s.gen) 2
def flat {α : Type} (f : α → List Int) (g : Nat → α) (n : Nat) : List Int := (List.range n).flatMap fun i => f (g i)
theorem flat_succ {α : Type} (f : α → List Int) (g : Nat → α) (n : Nat) : flat f g (n + 1) = flat f g n ++ f (g n) := by simp [flat, List.range_succ]
theorem flat_len {α : Type} (f : α → List Int) (g : Nat → α) (c : Nat) (h : ∀ a, (f a).length ≤ c) : ∀ n, (flat f g n).length ≤ c * n
  | 0 => by simp [flat]
  | n + 1 => by rw [flat_succ, List.length_append, Nat.mul_succ]; have := flat_len f g c h n; have := h (g n); omega
theorem shipB_len (s : Ship) : (shipB s).length ≤ 22 := by
  unfold shipB
  split <;> simp only [List.length_append, le_len, quadB_len] <;> omega
theorem shotB_len (s : Shot) : (shotB s).length ≤ 18 := by simp only [shotB, List.length_append, le_len, quadB_len]; omega
theorem seatB_len (s : Seat) : (seatBy s).length ≤ 3 := by simp only [seatBy, List.length_append, le_len]; omega

def put1 (s : State) : List Int := le (IntKind.u64.wrap s.game.frame) 4 ++ le s.game.dice 8
def put2 (s : State) : List Int := (put1 s ++ flat shipB s.game.ships 8) ++ le (IntKind.u64.wrap s.game.n) 1
def put3 (s : State) : List Int := (put2 s ++ flat shotB s.game.shots s.game.n) ++ le (IntKind.u64.wrap s.roster.version) 4
/-- A state's bytes. -/
def putB (s : State) : List Int := put3 s ++ flat seatBy s.roster.seats 8

theorem put1_len (s : State) : (put1 s).length = 12 := by simp [put1, le_len]
theorem put2_len (s : State) : (put2 s).length ≤ 189 := by
  have := flat_len shipB s.game.ships 22 shipB_len 8
  simp only [put2, List.length_append, le_len, put1_len]; omega
theorem put3_len (s : State) (h : s.game.n ≤ 32) : (put3 s).length ≤ 769 := by
  have := flat_len shotB s.game.shots 18 shotB_len s.game.n
  have := put2_len s
  simp only [put3, List.length_append, le_len]; omega

theorem may_n {s : State} (h : mayStateB s = true) : s.game.n ≤ 32 := by
  simp only [mayStateB, mayGameB, Bool.and_eq_true, Bool.not_eq_true', Bool.or_eq_false_iff, decide_eq_false_iff_not] at h
  omega

theorem IdxL2 {S : Nat → Prop} {t u sz n cap : Nat} {d : D} {f : Nat → D} (h1 : Idx S d) (h2 : ∀ i, i < n → Idx S (f i)) : ∀ e ∈ snoc [Ent.var t d] (Ent.row u sz n f cap), IdxE S e := by
  intro e he
  simp only [snoc, List.mem_cons, List.not_mem_nil, or_false] at he
  rcases he with rfl | rfl
  · exact h1
  · exact h2

theorem dst_none {env : Env} {y : D} : dstE none y env = env := rfl

theorem c_put (x : Value) (s : State) : Fun Try.prog T 10 [stateD x s] fun y => if mayStateB s = true then ∃ x', y = .tup [.sl 1 x' (putB s).length (rowD (putB s)), i64 0] else y = .tup [nilD, i64 1] := by
  refine Con.intro Try.func10 rfl rfl rfl rfl fun G w0 β0 β a w hS => ?_
  refine regS K0 [1] hS rfl rfl trivial fun β a w hS => ?_
  refine wp_seq (wp_seq (regp K0 hS rfl trivial fun β a w hS => ?_))
  refine call0 e_mayState (c_mayState x s) hS [1] rfl rfl rfl rfl rfl ⟨state_cl x s, trivial⟩ rfl ?_
  rintro y rfl β a w hS
  refine rege K0 [1, 13] hS rfl rfl trivial fun β a w hS => ?_
  refine cnd hS rfl (fun h => ?_) (fun h => wp_skip ?_)
  · refine regS K0 [2, 3] hS rfl rfl trivial fun β a w hS => ?_
    refine wp_ret (fret2 K0 rfl hS rfl rfl rfl rfl ⟨fun _ hi => absurd hi (Nat.not_lt_zero _), trivial⟩ ?_)
    have h : mayStateB s = false := by simpa using h
    simp only [h, Bool.false_eq_true, if_false]
    rfl
  · have hmay : mayStateB s = true := by simpa using h
    refine regS K0 [1, 4] hS rfl rfl trivial fun β a w hS => ?_
    -- frame
    refine wp_seq (regp K0 hS rfl trivial fun β a w hS => ?_)
    refine callf e_num (c_num0 (IntKind.u64.wrap s.game.frame) 4 (by omega) (by omega)) hS [1, 4] [1] rfl rfl rfl rfl rfl (by decide) rfl rfl rfl ⟨Nat.zero_lt_one, trivial, trivial, trivial⟩ ⟨⟨_, rfl, rfl, rfl⟩, ⟨trivial, trivial⟩, rfl, trivial⟩ ?_
    rintro y L1 ⟨rfl, cap, rfl⟩ β a w hS
    refine wpList_nil ?_
    have hS : Ste T w0 (pinsOf β0 0 0 G) Try.f10.ntmps [] [(4, .d (.p 1 [])), (1, .d (.p 0 []))] [] (puL (.var 35 (stateD x s)) (le (IntKind.u64.wrap s.game.frame) 4) cap []) β a w := Ste.sub hS ⟨rfl, rfl, trivial⟩
    -- dice
    have n0 : (0 : Nat) ≠ 2 := by decide
    have n1 : (1 : Nat) ≠ 2 := by decide
    have n3 : (3 : Nat) ≠ 2 := by decide
    have hB : IdxE (· ≠ 2) (.var 35 (stateD x s)) := Cl.idx _ _ (state_cl x s)
    have hJ0 : ∀ e ∈ ([] : List Ent), IdxE (· ≠ 2) e := by simp
    refine wp_seq (regp K0 hS rfl trivial fun β a w hS => ?_)
    refine numP (n := s.game.dice) (b := 8) (by omega) (by rw [le_len]; omega) hS [1, 4] rfl rfl rfl rfl rfl pinsOf_len ⟨n1, n0, trivial⟩ hB hJ0 fun cap β a w hS => ?_
    refine wpList_nil ?_
    -- ships
    refine wp_seq (regS K0 [1, 4, 29, 30] hS rfl rfl trivial fun β a w hS => ?_)
    have e0 : put1 s = put1 s ++ flat shipB s.game.ships 0 := by simp [flat]
    refine wp_block (lop (fun t : Nat × Nat => 8 - t.1) (fun t => t.1 ≤ 8) (fun t => [(1, .d (.p 0 [])), (4, .d (.p 1 [])), (29, .d (.ar 8 7 fun i => shipD (s.game.ships i))), (30, .d (i64 t.1))]) (fun t => puL (.var 35 (stateD x s)) (put1 s ++ flat shipB s.game.ships t.1) t.2 []) (0, cap) (Nat.zero_le _) (by
      show Ste T w0 _ _ _ _ _ (puL _ (put1 s ++ flat shipB s.game.ships 0) cap []) β a w
      rw [← e0]
      exact Ste.sub hS ⟨rfl, rfl, rfl, rfl, trivial⟩) ?_)
    rintro ⟨i, cap⟩ hi β a w hS
    have hi : i ≤ 8 := hi
    have hlen1 : (put1 s ++ flat shipB s.game.ships i).length ≤ 12 + 22 * 8 := by
      have := flat_len shipB s.game.ships 22 shipB_len i
      rw [List.length_append, put1_len]; omega
    refine regS K0 [1, 4, 29, 30, 31] hS rfl rfl trivial fun β a w hS => ?_
    refine wp_seq (cnd hS rfl (fun hlt => wp_skip ?_) (fun hge => wp_exit ?_))
    · have hlt : i < 8 := by have : (i : Int) < 8 := by simpa using hlt
                             omega
      refine wp_seq (wp_block ?_)
      refine regS K0 [1, 4, 6, 29, 30] hS rfl rfl ⟨⟨by omega, by omega⟩, trivial⟩ fun β a w hS => ?_
      have hS : Ste T w0 (pinsOf β0 0 0 G) Try.f10.ntmps [] [(1, .d (.p 0 [])), (4, .d (.p 1 [])), (6, .d (.p 3 [])), (29, .d (.ar 8 7 fun i => shipD (s.game.ships i))), (30, .d (i64 i))] [] (puL (.var 35 (stateD x s)) (put1 s ++ flat shipB s.game.ships i) cap [.var 24 (shipD (s.game.ships i))]) β a w := Ste.sub hS ⟨rfl, rfl, rfl, rfl, rfl, trivial⟩
      have hJ1 : ∀ e ∈ [Ent.var 24 (shipD (s.game.ships i))], IdxE (· ≠ 2) e := by
        intro e he
        simp only [List.mem_cons, List.not_mem_nil, or_false] at he
        subst he
        exact Cl.idx _ _ (ship_cl _)
      have hA : ∀ i, i < 8 → Idx (· ≠ 2) ((fun i => shipD (s.game.ships i)) i) := fun i _ => Cl.idx _ _ (ship_cl _)
      refine wp_seq (regS K0 [1, 4, 6, 29, 30, 35] hS rfl rfl trivial fun β a w hS => ?_)
      refine cnd hS rfl (fun h => ?_) (fun h => wp_skip ?_)
      · refine wp_seq (regp K0 hS rfl trivial fun β a w hS => ?_)
        refine numP (n := 0) (b := 1) (by omega) (by omega) hS [1, 4, 29, 30] rfl rfl rfl rfl rfl pinsOf_len ⟨trivial, hA, n1, n0, trivial⟩ hB hJ1 fun cap' β a w hS => ?_
        refine wpList_nil (wp_exit ?_)
        refine reg K0 [1, 4, 29, 30] hS rfl rfl trivial fun β a w hS => ?_
        have hS := hS.drop (L1 := [_, _, _]) (J := [_]) rfl (by rw [pinsOf_len]; exact Nat.zero_le _) ⟨trivial, (fun i hi => Cl.idx _ _ (ship_cl _)), Nat.succ_lt_succ (Nat.zero_lt_succ _), Nat.zero_lt_succ _, trivial⟩ ⟨Cl.idx _ _ (state_cl x s), ⟨Nat.lt_succ_self 2, trivial⟩, fun _ _ => trivial, trivial⟩
        have h : (s.game.ships i).on = false := by
          have h : (!(s.game.ships i).on) = true := h
          simpa using h
        have e1 : put1 s ++ flat shipB s.game.ships (i + 1) = (put1 s ++ flat shipB s.game.ships i) ++ le 0 1 := by
          rw [flat_succ, ← List.append_assoc]; simp only [shipB, h, Bool.false_eq_true, if_false]
        refine ⟨(i + 1, cap'), β, hlt, Nat.sub_lt_sub_left hlt (Nat.lt_succ_self i), ?_⟩
        show Ste T w0 _ _ _ _ _ (puL _ (put1 s ++ flat shipB s.game.ships (i + 1)) cap' []) β a w
        rw [e1]
        exact Ste.sub hS ⟨rfl, rfl, rfl, up8 hlt, trivial⟩
      · have h : (s.game.ships i).on = true := by
          have h : (!(s.game.ships i).on) = false := h
          simpa using h
        refine wp_seq (regp K0 hS rfl trivial fun β a w hS => ?_)
        refine numP (n := 1) (b := 1) (by omega) (by omega) hS [1, 4, 6, 29, 30] rfl rfl rfl rfl rfl pinsOf_len ⟨trivial, hA, n3, n1, n0, trivial⟩ hB hJ1 fun cap β a w hS => ?_
        refine wpList_nil ?_
        refine wp_seq (regp K0 hS rfl ⟨by decide, trivial⟩ fun β a w hS => ?_)
        refine quadP (k := 1) (qi := shipQ (s.game.ships i)) (by rw [List.length_append, le_len]; omega) hS [1, 4, 6, 29, 30] rfl rfl rfl rfl rfl ?_ rfl pinsOf_len ⟨trivial, hA, n3, n1, n0, trivial⟩ hB ?_ fun cap β a w hS => ?_
        · intro j hj
          match j, hj with
          | 0, _ => rfl
          | 1, _ => rfl
          | 2, _ => rfl
          | 3, _ => rfl
        · exact IdxL2 (Cl.idx _ _ (ship_cl _)) fun j hj => by
            match j, hj with
            | 0, _ => trivial
            | 1, _ => trivial
            | 2, _ => trivial
            | 3, _ => trivial
        refine wpList_nil ?_
        refine wp_seq (regp K0 hS rfl trivial fun β a w hS => ?_)
        refine numP (n := IntKind.u64.wrap (s.game.ships i).cool) (b := 1) (by omega) (by simp only [List.length_append, le_len, quadB_len] at hlen1 ⊢; omega) hS [1, 4, 6, 29, 30] rfl rfl rfl rfl rfl pinsOf_len ⟨trivial, hA, n3, n1, n0, trivial⟩ hB ?_ fun cap β a w hS => ?_
        · exact IdxL2 (Cl.idx _ _ (ship_cl _)) fun j hj => by
            match j, hj with
            | 0, _ => trivial
            | 1, _ => trivial
            | 2, _ => trivial
            | 3, _ => trivial
        refine wpList_nil ?_
        refine regp K0 hS rfl trivial fun β a w hS => ?_
        refine numP (n := IntKind.u64.wrap (s.game.ships i).score) (b := 4) (by omega) (by simp only [List.length_append, le_len, quadB_len] at hlen1 ⊢; omega) hS [1, 4, 29, 30] rfl rfl rfl rfl rfl pinsOf_len ⟨trivial, hA, n1, n0, trivial⟩ hB ?_ fun cap' β a w hS => ?_
        · exact IdxL2 (Cl.idx _ _ (ship_cl _)) fun j hj => by
            match j, hj with
            | 0, _ => trivial
            | 1, _ => trivial
            | 2, _ => trivial
            | 3, _ => trivial
        refine wpList_nil ?_
        refine reg K0 [1, 4, 29, 30] hS rfl rfl trivial fun β a w hS => ?_
        have hS := hS.drop (L1 := [_, _, _]) (J := [_, _]) rfl (by rw [pinsOf_len]; exact Nat.zero_le _) ⟨trivial, (fun i hi => Cl.idx _ _ (ship_cl _)), Nat.succ_lt_succ (Nat.zero_lt_succ _), Nat.zero_lt_succ _, trivial⟩ ⟨Cl.idx _ _ (state_cl x s), ⟨Nat.lt_succ_self 2, trivial⟩, fun _ _ => trivial, trivial⟩
        have e1 : put1 s ++ flat shipB s.game.ships (i + 1) = (((put1 s ++ flat shipB s.game.ships i) ++ le 1 1) ++ quadB (shipQ (s.game.ships i)) 4 ++ le (IntKind.u64.wrap (s.game.ships i).cool) 1) ++ le (IntKind.u64.wrap (s.game.ships i).score) 4 := by
          rw [flat_succ]; simp only [shipB, h, if_true, List.append_assoc]
        refine ⟨(i + 1, cap'), β, hlt, Nat.sub_lt_sub_left hlt (Nat.lt_succ_self i), ?_⟩
        show Ste T w0 _ _ _ _ _ (puL _ (put1 s ++ flat shipB s.game.ships (i + 1)) cap' []) β a w
        rw [e1]
        exact Ste.sub hS ⟨rfl, rfl, rfl, up8 hlt, trivial⟩
    · have hge : i = 8 := by have : ¬ ((i : Int) < 8) := by simpa using hge
                             omega
      subst hge
      have hn := may_n hmay
      -- how many shots
      refine wp_seq (regp K0 hS rfl trivial fun β a w hS => ?_)
      refine numP (n := IntKind.u64.wrap s.game.n) (b := 1) (by omega) (Nat.le_trans hlen1 (by omega)) hS [1, 4] rfl rfl rfl rfl rfl pinsOf_len ⟨n1, n0, trivial⟩ hB hJ0 fun cap β a w hS => ?_
      refine wpList_nil ?_
      -- shots
      refine wp_seq (regS K0 [1, 4, 71, 72, 73] hS rfl rfl trivial fun β a w hS => ?_)
      have e0 : put2 s = put2 s ++ flat shotB s.game.shots 0 := by simp [flat]
      refine wp_block (lop (fun t : Nat × Nat => s.game.n - t.1) (fun t => t.1 ≤ s.game.n) (fun t => [(1, .d (.p 0 [])), (4, .d (.p 1 [])), (71, .d (.sl 6 x s.game.n fun i => shotD (s.game.shots i))), (72, .d (i64 s.game.n)), (73, .d (i64 t.1))]) (fun t => puL (.var 35 (stateD x s)) (put2 s ++ flat shotB s.game.shots t.1) t.2 []) (0, cap) (Nat.zero_le _) (by
        show Ste T w0 _ _ _ _ _ (puL _ (put2 s ++ flat shotB s.game.shots 0) cap []) β a w
        rw [← e0]
        exact Ste.sub hS ⟨rfl, rfl, rfl, rfl, rfl, trivial⟩) ?_)
      rintro ⟨i, cap⟩ hi β a w hS
      have hi : i ≤ s.game.n := hi
      have hlen2 : (put2 s ++ flat shotB s.game.shots i).length ≤ 189 + 18 * 32 := by
        have := flat_len shotB s.game.shots 18 shotB_len i
        have := put2_len s
        rw [List.length_append]; omega
      refine regS K0 [1, 4, 71, 72, 73, 74] hS rfl rfl trivial fun β a w hS => ?_
      refine wp_seq (cnd hS rfl (fun hlt => wp_skip ?_) (fun hge => wp_exit ?_))
      · have hlt : i < s.game.n := by simpa using hlt
        refine wp_seq (wp_block ?_)
        refine regS K0 [1, 4, 8, 71, 72, 73] hS rfl rfl ⟨⟨by omega, by omega, rfl⟩, trivial⟩ fun β a w hS => ?_
        have hS : Ste T w0 (pinsOf β0 0 0 G) Try.f10.ntmps [] [(1, .d (.p 0 [])), (4, .d (.p 1 [])), (8, .d (.p 3 [])), (71, .d (.sl 6 x s.game.n fun i => shotD (s.game.shots i))), (72, .d (i64 s.game.n)), (73, .d (i64 i))] [] (puL (.var 35 (stateD x s)) (put2 s ++ flat shotB s.game.shots i) cap [.var 72 (shotD (s.game.shots i))]) β a w := Ste.sub hS ⟨rfl, rfl, rfl, rfl, rfl, rfl, trivial⟩
        have hJ1 : ∀ e ∈ [Ent.var 72 (shotD (s.game.shots i))], IdxE (· ≠ 2) e := by
          intro e he
          simp only [List.mem_cons, List.not_mem_nil, or_false] at he
          subst he
          exact Cl.idx _ _ (shot_cl _)
        refine wp_seq (regp K0 hS rfl trivial fun β a w hS => ?_)
        refine numP (n := IntKind.u64.wrap (s.game.shots i).owner) (b := 1) (by omega) (by omega) hS [1, 4, 8, 71, 72, 73] rfl rfl rfl rfl rfl pinsOf_len ⟨trivial, trivial, trivial, n3, n1, n0, trivial⟩ hB hJ1 fun cap β a w hS => ?_
        refine wpList_nil ?_
        refine wp_seq (regp K0 hS rfl ⟨by decide, trivial⟩ fun β a w hS => ?_)
        refine quadP (k := 1) (qi := shotQ (s.game.shots i)) (by rw [List.length_append, le_len]; omega) hS [1, 4, 8, 71, 72, 73] rfl rfl rfl rfl rfl ?_ rfl pinsOf_len ⟨trivial, trivial, trivial, n3, n1, n0, trivial⟩ hB ?_ fun cap β a w hS => ?_
        · intro j hj
          match j, hj with
          | 0, _ => rfl
          | 1, _ => rfl
          | 2, _ => rfl
          | 3, _ => rfl
        · exact IdxL2 (Cl.idx _ _ (shot_cl _)) fun j hj => by
            match j, hj with
            | 0, _ => trivial
            | 1, _ => trivial
            | 2, _ => trivial
            | 3, _ => trivial
        refine wpList_nil ?_
        refine regp K0 hS rfl trivial fun β a w hS => ?_
        refine numP (n := IntKind.u64.wrap (s.game.shots i).life) (b := 1) (by omega) (by simp only [List.length_append, le_len, quadB_len] at hlen2 ⊢; omega) hS [1, 4, 71, 72, 73] rfl rfl rfl rfl rfl pinsOf_len ⟨trivial, trivial, trivial, n1, n0, trivial⟩ hB ?_ fun cap' β a w hS => ?_
        · exact IdxL2 (Cl.idx _ _ (shot_cl _)) fun j hj => by
            match j, hj with
            | 0, _ => trivial
            | 1, _ => trivial
            | 2, _ => trivial
            | 3, _ => trivial
        refine wpList_nil ?_
        refine reg K0 [1, 4, 71, 72, 73] hS rfl rfl trivial fun β a w hS => ?_
        have hS := hS.drop (L1 := [_, _, _]) (J := [_, _]) rfl (by rw [pinsOf_len]; exact Nat.zero_le _) ⟨trivial, trivial, trivial, Nat.succ_lt_succ (Nat.zero_lt_succ _), Nat.zero_lt_succ _, trivial⟩ ⟨Cl.idx _ _ (state_cl x s), ⟨Nat.lt_succ_self 2, trivial⟩, fun _ _ => trivial, trivial⟩
        have e1 : put2 s ++ flat shotB s.game.shots (i + 1) = ((put2 s ++ flat shotB s.game.shots i) ++ le (IntKind.u64.wrap (s.game.shots i).owner) 1) ++ quadB (shotQ (s.game.shots i)) 4 ++ le (IntKind.u64.wrap (s.game.shots i).life) 1 := by
          rw [flat_succ]; simp only [shotB, List.append_assoc]
        refine ⟨(i + 1, cap'), β, hlt, Nat.sub_lt_sub_left hlt (Nat.lt_succ_self i), ?_⟩
        show Ste T w0 _ _ _ _ _ (puL _ (put2 s ++ flat shotB s.game.shots (i + 1)) cap' []) β a w
        rw [e1]
        exact Ste.sub hS ⟨rfl, rfl, rfl, rfl, up1d hlt (by simp only [maxLen]; omega), trivial⟩
      · have hge : i = s.game.n := by have : ¬ ((i : Int) < s.game.n) := by simpa using hge
                                      omega
        subst hge
        -- version
        refine wp_seq (regp K0 hS rfl trivial fun β a w hS => ?_)
        refine numP (n := IntKind.u64.wrap s.roster.version) (b := 4) (by omega) (Nat.le_trans hlen2 (by omega)) hS [1, 4] rfl rfl rfl rfl rfl pinsOf_len ⟨n1, n0, trivial⟩ hB hJ0 fun cap β a w hS => ?_
        refine wpList_nil ?_
        -- seats
        refine wp_seq (regS K0 [1, 4, 107, 108] hS rfl rfl trivial fun β a w hS => ?_)
        have e0 : put3 s = put3 s ++ flat seatBy s.roster.seats 0 := by simp [flat]
        refine wp_block (lop (fun t : Nat × Nat => 8 - t.1) (fun t => t.1 ≤ 8) (fun t => [(1, .d (.p 0 [])), (4, .d (.p 1 [])), (107, .d (.ar 8 2 fun i => seatD (s.roster.seats i))), (108, .d (i64 t.1))]) (fun t => puL (.var 35 (stateD x s)) (put3 s ++ flat seatBy s.roster.seats t.1) t.2 []) (0, cap) (Nat.zero_le _) (by
          show Ste T w0 _ _ _ _ _ (puL _ (put3 s ++ flat seatBy s.roster.seats 0) cap []) β a w
          rw [← e0]
          exact Ste.sub hS ⟨rfl, rfl, rfl, rfl, trivial⟩) ?_)
        rintro ⟨i, cap⟩ hi β a w hS
        have hi : i ≤ 8 := hi
        have hlen3 : (put3 s ++ flat seatBy s.roster.seats i).length ≤ 769 + 24 := by
          have := flat_len seatBy s.roster.seats 3 seatB_len i
          have := put3_len s hn
          rw [List.length_append]; omega
        refine regS K0 [1, 4, 107, 108, 109] hS rfl rfl trivial fun β a w hS => ?_
        refine wp_seq (cnd hS rfl (fun hlt => wp_skip ?_) (fun hge => wp_exit ?_))
        · have hlt : i < 8 := by have : (i : Int) < 8 := by simpa using hlt
                                 omega
          refine wp_seq (wp_block ?_)
          refine regS K0 [1, 4, 10, 107, 108] hS rfl rfl ⟨⟨by omega, by omega⟩, trivial⟩ fun β a w hS => ?_
          have hS : Ste T w0 (pinsOf β0 0 0 G) Try.f10.ntmps [] [(1, .d (.p 0 [])), (4, .d (.p 1 [])), (10, .d (.p 3 [])), (107, .d (.ar 8 2 fun i => seatD (s.roster.seats i))), (108, .d (i64 i))] [] (puL (.var 35 (stateD x s)) (put3 s ++ flat seatBy s.roster.seats i) cap [.var 30 (seatD (s.roster.seats i))]) β a w := Ste.sub hS ⟨rfl, rfl, rfl, rfl, rfl, trivial⟩
          have hJ1 : ∀ e ∈ [Ent.var 30 (seatD (s.roster.seats i))], IdxE (· ≠ 2) e := by
            intro e he
            simp only [List.mem_cons, List.not_mem_nil, or_false] at he
            subst he
            exact Cl.idx _ _ (seat_cl _)
          have hA : ∀ i, i < 8 → Idx (· ≠ 2) ((fun i => seatD (s.roster.seats i)) i) := fun i _ => Cl.idx _ _ (seat_cl _)
          refine wp_seq (regp K0 hS rfl trivial fun β a w hS => ?_)
          refine numP (n := IntKind.u64.wrap (IntKind.i64.wrap ((s.roster.seats i).peer + 1))) (b := 1) (by omega) (by omega) hS [1, 4, 10, 107, 108] rfl rfl rfl rfl rfl pinsOf_len ⟨trivial, hA, n3, n1, n0, trivial⟩ hB hJ1 fun cap β a w hS => ?_
          refine wpList_nil ?_
          refine regp K0 hS rfl trivial fun β a w hS => ?_
          refine numP (n := IntKind.u64.wrap (s.roster.seats i).gen) (b := 2) (by omega) (by rw [List.length_append, le_len]; omega) hS [1, 4, 107, 108] rfl rfl rfl rfl rfl pinsOf_len ⟨trivial, hA, n1, n0, trivial⟩ hB hJ1 fun cap' β a w hS => ?_
          refine wpList_nil ?_
          refine reg K0 [1, 4, 107, 108] hS rfl rfl trivial fun β a w hS => ?_
          have hS := hS.drop (L1 := [_, _, _]) (J := [_]) rfl (by rw [pinsOf_len]; exact Nat.zero_le _) ⟨trivial, (fun i hi => Cl.idx _ _ (seat_cl _)), Nat.succ_lt_succ (Nat.zero_lt_succ _), Nat.zero_lt_succ _, trivial⟩ ⟨Cl.idx _ _ (state_cl x s), ⟨Nat.lt_succ_self 2, trivial⟩, fun _ _ => trivial, trivial⟩
          have e1 : put3 s ++ flat seatBy s.roster.seats (i + 1) = ((put3 s ++ flat seatBy s.roster.seats i) ++ le (IntKind.u64.wrap (IntKind.i64.wrap ((s.roster.seats i).peer + 1))) 1) ++ le (IntKind.u64.wrap (s.roster.seats i).gen) 2 := by
            rw [flat_succ]; simp only [seatBy, List.append_assoc]
          refine ⟨(i + 1, cap'), β, hlt, Nat.sub_lt_sub_left hlt (Nat.lt_succ_self i), ?_⟩
          show Ste T w0 _ _ _ _ _ (puL _ (put3 s ++ flat seatBy s.roster.seats (i + 1)) cap' []) β a w
          rw [e1]
          exact Ste.sub hS ⟨rfl, rfl, rfl, up8 hlt, trivial⟩
        · have hge : i = 8 := by have : ¬ ((i : Int) < 8) := by simpa using hge
                                 omega
          subst hge
          refine regS K0 [2, 3] hS rfl rfl trivial fun β a w hS => ?_
          refine wp_ret (cret2 K0 rfl hS rfl rfl rfl rfl [] _ rfl rfl trivial (.tup [.sl 1 (.slice (some ⟨β 2, 0, none⟩) (putB s).length cap) (putB s).length (rowD (putB s)), i64 0]) rfl ⟨?_, rfl, trivial⟩ ⟨?_, ⟨fun _ _ => trivial, trivial, trivial⟩, rfl⟩)
          · exact row_sl (L1 := []) hS.ss (r := 2) rfl (Nat.le_refl _) (fun _ _ => trivial) (fun b hb => ⟨hb.1, fun k e hk => by cases hk⟩) ⟨hS.ss.good (β 2) (hS.ss.new 2 (by rw [pinsOf_len]; exact Nat.zero_le _) (Nat.lt_succ_self 2)), fun k e hk => by cases hk⟩
          · simp only [hmay, if_true]
            exact ⟨_, rfl⟩

end Go.CE

/- Contracts: sums. -/
namespace Go.CE
open Go.RowKit Go.Proofs

/-- A string's number, byte by byte. -/
def fnv (s : ByteArray) : Nat → Int
  | 0 => 14695981039346656037
  | i + 1 => IntKind.u64.wrap (bitI .xor .u64 (fnv s i) (IntKind.u64.wrap ((s.data.toList.getD i 0).toNat : Nat)) * 1099511628211)

theorem c_dseed (s : ByteArray) (hs : s.size ≤ maxLen) : Fun Try.prog T 40 [.v (.string s)] fun y => y = u64 (fnv s s.size) := by
  refine Con.intro Try.func40 rfl rfl rfl rfl fun G w0 β0 β a w hS => ?_
  refine regS K0 [0] hS rfl rfl trivial fun β a w hS => ?_
  refine regS K0 [0, 3] hS rfl rfl trivial fun β a w hS => ?_
  refine wp_seq (regS K0 [0, 3, 6, 7] hS rfl rfl trivial fun β a w hS => ?_)
  refine wp_block (lop (fun i : Nat => s.size - i) (fun i => i ≤ s.size) (fun i => [(0, .d (.v (.string s))), (3, .d (u64 (fnv s i))), (6, .d (i64 s.size)), (7, .d (i64 i))]) (fun _ => []) 0 (Nat.zero_le _) (Ste.sub hS ⟨rfl, rfl, rfl, rfl, trivial⟩) ?_)
  intro i hi β a w hS
  refine regS K0 [0, 3, 6, 7, 8] hS rfl rfl trivial fun β a w hS => ?_
  refine wp_seq (cnd hS rfl (fun hlt => wp_skip ?_) (fun hge => wp_exit ?_))
  · have hlt : i < s.size := by simpa using hlt
    refine wp_seq (wp_block ?_)
    refine regS K0 [0, 3, 4, 6, 7] hS rfl rfl trivial fun β a w hS => ?_
    refine reg K0 [0, 3, 6, 7] hS rfl rfl ⟨⟨by omega, by omega⟩, trivial⟩ fun β a w hS => ?_
    refine reg K0 [0, 3, 6, 7] hS rfl rfl trivial fun β a w hS => ?_
    exact ⟨i + 1, β, hlt, Nat.sub_lt_sub_left hlt (Nat.lt_succ_self i), Ste.sub hS ⟨rfl, rfl, rfl, up1d hlt hs, trivial⟩⟩
  · have hge : i = s.size := by have : ¬ ((i : Int) < s.size) := by simpa using hge
                                omega
    subst hge
    refine regS K0 [2] hS rfl rfl trivial fun β a w hS => ?_
    exact wp_ret (fret1 K0 rfl hS rfl trivial rfl)

theorem c_rseed (s : ByteArray) (hs : s.size ≤ maxLen) : Fun Try.prog T 17 [.v (.string s)] fun y => y = u64 (fnv s s.size) := by
  refine Con.intro Try.func17 rfl rfl rfl rfl fun G w0 β0 β a w hS => ?_
  refine regS K0 [0] hS rfl rfl trivial fun β a w hS => ?_
  refine regS K0 [0, 3] hS rfl rfl trivial fun β a w hS => ?_
  refine wp_seq (regS K0 [0, 3, 4] hS rfl rfl trivial fun β a w hS => ?_)
  refine wp_block (lop (fun i : Nat => s.size - i) (fun i => i ≤ s.size) (fun i => [(0, .d (.v (.string s))), (3, .d (u64 (fnv s i))), (4, .d (i64 i))]) (fun _ => []) 0 (Nat.zero_le _) (Ste.sub hS ⟨rfl, rfl, rfl, trivial⟩) ?_)
  intro i hi β a w hS
  refine wp_seq (regS K0 [0, 3, 4, 8] hS rfl rfl trivial fun β a w hS => ?_)
  refine cnd hS rfl (fun hlt => wp_skip ?_) (fun hge => wp_exit ?_)
  · have hlt : i < s.size := by simpa using hlt
    refine wp_seq (wp_block ?_)
    refine reg K0 [0, 3, 4] hS rfl rfl ⟨⟨by omega, by omega⟩, trivial⟩ fun β a w hS => ?_
    refine reg K0 [0, 3, 4] hS rfl rfl trivial fun β a w hS => ?_
    exact ⟨i + 1, β, hlt, Nat.sub_lt_sub_left hlt (Nat.lt_succ_self i), Ste.sub hS ⟨rfl, rfl, up1d hlt hs, trivial⟩⟩
  · have hge : i = s.size := by have : ¬ ((i : Int) < s.size) := by simpa using hge
                                omega
    subst hge
    refine regS K0 [2] hS rfl rfl trivial fun β a w hS => ?_
    exact wp_ret (fret1 K0 rfl hS rfl trivial rfl)

theorem e_dseed : Enters Try.prog 40 := enters_of Try.func40 rfl (by kernel_rfl)
theorem e_rseed : Enters Try.prog 17 := enters_of Try.func17 rfl (by kernel_rfl)
theorem e_put : Enters Try.prog 10 := enters_of Try.func10 rfl (by kernel_rfl)
theorem e_sum : Enters Try.prog 16 := enters_of Try.func16 rfl (by kernel_rfl)

/-- Bytes' number. -/
def bytesOf (l : List Int) : ByteArray := bytesD l.length (rowD l)
theorem bytesD_size (n : Nat) (f : Nat → D) : (bytesD n f).size = n := by
  show ((List.range n).map _).toArray.size = n
  simp
def sumB (l : List Int) : Int := fnv (bytesOf l) l.length

theorem c_sum (x : Value) (l : List Int) : Fun Try.prog T 16 [.sl 1 x l.length (rowD l)] fun y => y = u64 (sumB l) := by
  refine Con.intro Try.func16 rfl rfl rfl rfl fun G w0 β0 β a w hS => ?_
  have hn : l.length ≤ maxLen := sl_len (hS.ss.tmp 0 _ rfl).2
  refine regS K0 [0] hS rfl rfl trivial fun β a w hS => ?_
  refine wp_seq (regp K0 hS rfl ⟨⟨rfl, fun i _ => ⟨_, rfl⟩⟩, trivial⟩ fun β a w hS => ?_)
  have hc := c_dseed (bytesOf l) (by rw [bytesOf, bytesD_size]; exact hn)
  refine call0 e_dseed hc hS [] rfl rfl rfl rfl rfl ⟨trivial, trivial⟩ rfl ?_
  rintro y rfl β a w hS
  refine rege K0 [2] hS rfl rfl trivial fun β a w hS => ?_
  refine wp_ret (fret1 K0 rfl hS rfl trivial ?_)
  simp only [sumB, bytesOf, bytesD_size]

theorem c_of (x : Value) (s : State) : Fun Try.prog T 18 [stateD x s] fun y => y = u64 (if mayStateB s = true then sumB (putB s) else 0) := by
  refine Con.intro Try.func18 rfl rfl rfl rfl fun G w0 β0 β a w hS => ?_
  refine regS K0 [1] hS rfl rfl trivial fun β a w hS => ?_
  refine wp_seq (regp K0 hS rfl trivial fun β a w hS => ?_)
  refine call0 e_put (c_put x s) hS [] rfl rfl rfl rfl rfl ⟨state_cl x s, trivial⟩ rfl ?_
  intro y hy β a w hS
  cases hm : mayStateB s with
  | true =>
    simp only [hm, if_true] at hy
    obtain ⟨x', rfl⟩ := hy
    refine rege K0 [3, 4] hS rfl rfl trivial fun β a w hS => ?_
    refine wp_seq (regS K0 [3, 11] hS rfl rfl trivial fun β a w hS => ?_)
    refine cnd hS rfl (fun h => ?_) (fun h => wp_skip ?_)
    · exact absurd h (by decide)
    · refine wp_seq (regp K0 hS rfl trivial fun β a w hS => ?_)
      refine call0 e_sum (c_sum x' (putB s)) hS [] rfl rfl rfl rfl rfl ⟨fun _ _ => trivial, trivial⟩ rfl ?_
      rintro y rfl β a w hS
      refine rege K0 [2] hS rfl rfl trivial fun β a w hS => ?_
      refine wp_ret (fret1 K0 rfl hS rfl trivial ?_)
      simp only [if_true]
  | false =>
    simp only [hm, Bool.false_eq_true, if_false] at hy
    subst hy
    refine rege K0 [3, 4] hS rfl rfl trivial fun β a w hS => ?_
    refine wp_seq (regS K0 [3, 11] hS rfl rfl trivial fun β a w hS => ?_)
    refine cnd hS rfl (fun h => ?_) (fun h => wp_skip ?_)
    · refine regS K0 [2] hS rfl rfl trivial fun β a w hS => ?_
      refine wp_ret (fret1 K0 rfl hS rfl trivial ?_)
      simp only [if_true, Bool.false_eq_true, if_false]
      rfl
    · exact absurd h (by decide)

end Go.CE

/- A small program logic, twenty-third text: contracts of functions that may panic. -/
namespace Go.CE
open Go.RowKit

variable {P : Program} {T : Tab} {w0 w : World} {pins : Pins} {N : Nat} {env : Env} {gs : List Nat} {L : List Ent} {β : Nat → Nat} {a : Act} {C : Calls'} {ds : List Deferred}

/-- How a call ends: with an answer, or with a panic. -/
def endOf (T : Tab) (β : Nat → Nat) (o : Option Value) (y : D) : Ending := match o with
  | none => .returned (y.val T β)
  | some v => .panicked [{ v, recovered := false }]

/-- A contract of a function that may panic: none: it answers; some v: it panics with v. -/
def ConG (P : Program) (T : Tab) (f : Nat) (xs : List D) (L : List Ent) (m : Nat) (R : Option Value → D → List Ent → Prop) : Prop :=
  ∀ (G : Nat → Prop) (β : Nat → Nat) (w : World), MemOk T G L β w → (∀ d ∈ xs, Ok T w (Own G L β) d) → (∀ b, w.heap.size ≤ b → G b) → (∀ k, m ≤ k → k < L.length → G (β k)) →
    Calls P f (xs.map (D.val T β)).toArray w fun e w' => ∃ o y L1 β1, R o y L1 ∧ e = endOf T β1 o y ∧ MemOk T G L1 β1 w' ∧ OkT T w' (Own G L1 β1) y ∧ Keep w (pinsOf β m L.length G) w' ∧
      L.length ≤ L1.length ∧ (∀ k, k < m → β1 k = β k) ∧ (∀ k, m ≤ k → k < L1.length → w.heap.size ≤ β1 k ∨ ∃ j, m ≤ j ∧ j < L.length ∧ β1 k = β j)

/-- A call that is handed the blocks ρ, and that sees the blocks vs. -/
theorem callvG {f : Nat} {xs0 : List D} {L0 : List Ent} {m : Nat} {R : Option Value → D → List Ent → Prop} (hE : Enters P f) (hc : ConG P T f xs0 L0 m R) (hS : Ste T w0 pins N ds env gs L β a w) {l rest : List Oper} {Q : Exit → Act → World → Prop} {o : Oper} {cv : Operand} {args : List Operand} {ty : Array TypeId} {caps xs : List D}
    (hg : o.guard = none) (hop : o.op = .call ⟨.value cv, ⟨args⟩, ty⟩) (hcv : opd (lkU env) cv = some (.fn f caps)) (hx : opds (lkU env) args = some xs) (hdst : dstB N o.dst = true)
    (ρ vs : List Nat) (hn : ρ.Nodup) (hvs : ∀ k ∈ vs, k ∉ ρ ∧ ∃ e, nth L k = some e ∧ e.alive = true)
    (hxv : (xs ++ caps).map (D.val T β) = (D.renL (rn ρ L.length) xs0).map (D.val T β)) (hxi : IdxL (· < L0.length) xs0) (hxo : OkL T w ⟨fun b => (Own pins.G L β).ok b ∨ ∃ k ∈ vs, β k = b, L.length⟩ (D.renL (rn ρ L.length) xs0))
    (hH : HandE L (rn ρ L.length) L0.length ρ L0) (hm : ∀ k ∈ ρ.drop m, pins.fix.length ≤ k) (hml : m ≤ L0.length)
    (ts : List Nat) {env2 : Env} (he : keepE env ts [] = some env2) (hI : IdxN (fun k => k ∉ ρ.drop m) env2) (hM : IdxM (fun k => k ∉ ρ.drop m) ρ 0 L)
    (hN : vs = [] ∨ ∀ o y L1, R o y L1 → Sl0 y ∧ ∀ k e, nth L1 k = some e → SlE e)
    (hp : ∀ v y L1, R (some v) y L1 → ∀ β' w', Ste T w0 pins N ds env2 [] (putE (rn ρ L.length) ρ L1 L) β' a w' → Q (.panic [{ v, recovered := false }]) a w')
    (hk : ∀ y L1, R none y L1 → ∀ β' a' w', Ste T w0 pins N ds (dstE o.dst (y.ren (rn ρ L.length)) env2) [] (putE (rn ρ L.length) ρ L1 L) β' a' w' → wpList P l.toArray Q rest a' w') : wpList P l.toArray Q (o :: rest) a w := by
  obtain ⟨hHl, hHg⟩ := hH.get
  have hρL : ∀ k ∈ ρ, k < L.length := fun k hk => by
    obtain ⟨j, hj⟩ := List.mem_iff_getElem?.1 hk
    have hjl : j < L0.length := by rw [hHl]; exact (List.getElem?_eq_some_iff.1 hj).1
    obtain ⟨e, he⟩ := nth_of_lt L0 j hjl
    obtain ⟨k', e', h1, h2, _⟩ := hHg j e he
    rw [nth_get, hj] at h1
    cases h1
    exact nth_lt _ _ _ h2
  have hb0 : ∀ j, j < L0.length → ∃ k e e', nth L0 j = some e ∧ nth ρ j = some k ∧ nth L k = some e' ∧ SameE e' (e.ren (rn ρ L.length)) ∧ IdxE (· < L0.length) e ∧ rn ρ L.length j = k := fun j hj => by
    obtain ⟨e, he⟩ := nth_of_lt L0 j hj
    obtain ⟨k, e', h1, h2, h3, h4, _⟩ := hHg j e he
    exact ⟨k, e, e', he, h1, h2, h3, h4, by simp only [rn, h1]⟩
  have hmemρ : ∀ j k, nth ρ j = some k → k ∈ ρ := fun j k h => by rw [nth_get] at h; exact List.mem_of_getElem? h
  obtain ⟨G', hG'⟩ : ∃ G' : Nat → Prop, G' = fun b => pins.G b ∧ ∀ k e, nth L k = some e → e.alive = true → (∀ i ∈ ρ, i ≠ k) → β k ≠ b := ⟨_, rfl⟩
  obtain ⟨V, hV⟩ : ∃ V : Nat → Prop, V = fun b => ∃ k ∈ vs, β k = b := ⟨_, rfl⟩
  have hA : ∀ b, (Own pins.G L β).ok b ∨ V b → (Own (fun b => G' b ∨ V b) L0 fun j => β (rn ρ L.length j)).ok b := fun b hb => by
    refine ⟨?_, fun j e he ha heq => ?_⟩
    · rcases hb with hb | hb
      · left; rw [hG']; exact ⟨hb.1, fun k e hk ha _ => hb.2 k e hk ha⟩
      · exact .inr hb
    · obtain ⟨k, _, e', _, h1, h2, h3, _, h4⟩ := hb0 j (nth_lt _ _ _ he)
      simp only [h4] at heq
      rcases hb with hb | hb
      · exact hb.2 k e' h2 h3.alive heq
      · rw [hV] at hb
        obtain ⟨kv, hkv, hkb⟩ := hb
        obtain ⟨g1, ev, g2, g3⟩ := hvs kv hkv
        have := hS.ss.mem.inj kv k ev e' g2 h2 g3 h3.alive (hkb.trans heq.symm)
        exact g1 (this ▸ hmemρ _ _ h1)
  have hmem0 : MemOk T (fun b => G' b ∨ V b) L0 (fun j => β (rn ρ L.length j)) w := by
    refine ⟨fun j e hj => ?_, fun i j d e hi hj _ _ hij => ?_⟩
    · obtain ⟨k, e0, e', h0, h1, h2, h3, h5, h4⟩ := hb0 j (nth_lt _ _ _ hj)
      rw [hj] at h0
      cases h0
      have ho := hS.ss.mem.ent k e' h2
      have hA2 : ∀ b, (Own pins.G L β).ok b → (Own (fun b => G' b ∨ V b) L0 fun j => β (rn ρ L.length j)).ok b := fun b hb => hA b (.inl hb)
      cases e with
      | var t d =>
        cases e' with
        | var t' d' =>
          obtain ⟨rfl, rfl⟩ := h3
          obtain ⟨o1, o2, o3⟩ := ho
          refine ⟨?_, by rw [D.ren_size] at o2; exact o2, Ok.back hA2 d h5 o3⟩
          rw [D.ren_cells] at o1
          simp only [h4]
          exact o1
        | _ => exact h3.elim
      | row e sz n f cap =>
        cases e' with
        | row e2 sz' n' f' cap' =>
          obtain ⟨rfl, rfl, rfl, rfl, hff⟩ := h3
          obtain ⟨cur, o1, o2, o3, o4, o5, o6, o7, o8⟩ := ho
          refine ⟨cur, by simp only [h4]; exact o1, o2, o3, o4, o5, o6, fun i hi => ?_, fun i hi j' v hv => ?_⟩
          · have := o7 i hi
            rw [hff i hi] at this
            exact ⟨by rw [D.ren_size] at this; exact this.1, Ok.back hA2 (f i) (h5 i hi) this.2⟩
          · refine o8 i hi j' v ?_
            rw [hff i hi, D.ren_cells]
            exact hv
        | _ => exact h3.elim
      | dead => obtain ⟨_, _, _, _, _, _, hd⟩ := hHg j _ hj; cases hd
    · obtain ⟨k1, _, e1, _, _, h2, h3, _, h4⟩ := hb0 i (nth_lt _ _ _ hi)
      obtain ⟨k2, _, e2, _, _, g2, g3, _, g4⟩ := hb0 j (nth_lt _ _ _ hj)
      have := hS.ss.mem.inj k1 k2 e1 e2 h2 g2 h3.alive g3.alive (by simpa only [h4, g4] using hij)
      exact rn_inj hn hρL (h4.trans (this.trans g4.symm))
  have hlk := hS.ss.lkU
  obtain ⟨x1, x2⟩ := opds_ok hlk hx
  obtain ⟨c1, c2⟩ := opd_ok hlk hcv
  have hcall := hc (fun b => G' b ∨ V b) (fun j => β (rn ρ L.length j)) w hmem0 (OkL_iff.1 (OkL.back (A' := Own (fun b => G' b ∨ V b) L0 fun j => β (rn ρ L.length j)) (fun b hb => hA b (by rw [hV]; exact hb)) xs0 hxi hxo))
    (fun b hb => .inl (by
      rw [hG']
      exact ⟨hS.ss.good b (.inl (Nat.le_trans hS.ss.keep.size hb)), fun k e hk _ _ heq => by have := hS.ss.mem.lt (nth_lt _ _ _ hk); omega⟩))
    (fun j hj hjl => .inl (by
      obtain ⟨k, _, e', _, h1, h2, h3, _, h4⟩ := hb0 j hjl
      simp only [h4]
      rw [hG']
      refine ⟨?_, fun k' e2 hk' ha' hi heq => hi k (hmemρ _ _ h1) (hS.ss.mem.inj k' k e2 e' hk' h2 ha' h3.alive heq).symm⟩
      have hkd : k ∈ ρ.drop m := List.mem_iff_getElem?.2 ⟨j - m, by rw [List.getElem?_drop, show m + (j - m) = j from by omega, ← nth_get]; exact h1⟩
      rcases hS.ss.new k (hm k hkd) (nth_lt _ _ _ h2) with q | q
      · exact hS.ss.good _ (.inl q)
      · exact hS.ss.good _ (.inr q)))
  have hvals : (⟨args⟩ : Array Operand).map a.eval = (xs.map (D.val T β)).toArray := by
    rw [← x1]; simp
  have hcs : a.eval cv = .func (.func f) #[] (caps.map (D.val T β)).toArray := by
    rw [c1]; simp [D.val, D.cells, D.isAgg, valL_map]
  have hent := execOp_call (w := w) (o := o) hE hop hcs hvals
  have harg : (xs.map (D.val T β)).toArray ++ (caps.map (D.val T β)).toArray = (xs0.map (D.val T fun j => β (rn ρ L.length j))).toArray := by
    have h1 : (xs.map (D.val T β)).toArray ++ (caps.map (D.val T β)).toArray = ((xs ++ caps).map (D.val T β)).toArray := by simp
    rw [h1, hxv, ← valL_map, D.renL_vals, valL_map]
  rw [harg] at hent
  unfold wpList
  rw [if_pos (by simp [Region.wanted, hg])]
  left
  unfold Oper.wp
  rw [hent]
  refine hcall.mono ?_
  rintro e w' ⟨ov, y, L1, β1, hR, rfl, hM1, hy1, hK1, hl1, hb1, hn1⟩
  have hM2 : MemOk T G' L1 β1 w' ∧ OkT T w' (Own G' L1 β1) y := by
    rcases hN with hN | hN
    · subst hN
      have : (fun b => G' b ∨ V b) = G' := by
        funext b
        rw [hV]
        simp
      rw [this] at hM1 hy1
      exact ⟨hM1, hy1⟩
    · obtain ⟨q1, q2⟩ := hN ov y L1 hR
      exact ⟨hM1.nosl q2, OkT.nosl (A := Own (fun b => G' b ∨ V b) L1 β1) (A' := Own G' L1 β1) (Nat.le_refl _) q1 hy1⟩
  have hK2 : Keep w (pinsOf (fun j => β (rn ρ L.length j)) m L0.length G') w' := ⟨hK1.os, hK1.tape, hK1.output, hK1.size, hK1.block⟩
  have hS1 : Ste T w0 pins N ds env2 [] L β a w := Ste.keepE ⟨hS.ss, hS.df⟩ he
  obtain ⟨s1, s2, s3⟩ := hS1.ss.called (ρ := ρ) (L0 := L0) (m := m) hn hρL hHl (fun j hj => by
      obtain ⟨k, _, e', _, h1, h2, h3, _⟩ := hb0 j hj
      exact ⟨k, e', h1, h2, h3.alive⟩) (fun j k hj hjk => hm k (List.mem_iff_getElem?.2 ⟨j - m, by rw [List.getElem?_drop, show m + (j - m) = j from by omega, ← nth_get]; exact hjk⟩))
    (S := fun k => k < L.length ∧ k ∉ ρ.drop m) (fun k hk => hk.1) (fun j k hj hjk hs => hs.2 (List.mem_iff_getElem?.2 ⟨j - m, by rw [List.getElem?_drop, show m + (j - m) = j from by omega, ← nth_get]; exact hjk⟩))
    (env2 := env2) (fun t b hb => by
      obtain ⟨x, rfl, hix⟩ := hI.get t b hb
      have hox := (hS1.ss.tmp t _ hb).2
      exact ⟨x, rfl, hb, Idx.both _ (OkT.idx hox) hix⟩) (fun k e hk hnr => IdxE.both (EntOk.idx (hS.ss.mem.ent k e hk)) (hM.get k e hk (by simpa using hnr)))
    G' hG' hM2.1 hM2.2 hK2 hl1 (fun k hk => hb1 k hk) hml hn1
  cases ov with
  | some v => exact hp v y L1 hR _ w' ⟨s1, hS.df⟩
  | none =>
    have hput : (a.put o.dst (y.val T β1)).defers = ds := by rw [Act.put_defers]; exact hS.df
    exact hk y L1 hR _ _ w' ⟨SS.dst s1 (dstB_lt hdst) s3 s2, hput⟩

/-- 'x[lo:]' of a slice to be read. -/
theorem resl (K : Kit P T C) (hS : Ste T w0 pins N ds env gs L β a w) {l rest : List Oper} {Q : Exit → Act → World → Prop} {o : Oper} {x lo : Operand} {t e sz s b dd n : Nat} {z : D} {xv : Value} {f : Nat → D} {k : IntKind} {iv : Int}
    (j : Nat) (f' : Nat → D) (hg : o.guard = none) (hop : o.op = .slice t x (some lo) none none) (hd : o.dst = some dd) (hdN : Nat.ble N dd = false) (hdg : elemN dd gs = false) (hx : opd (lkU env) x = some (.sl sz xv n f)) (hlo : opd (lkU env) lo = some (.v (.int k iv))) (ht : T t = some ⟨.sl e sz, s, b, z⟩)
    (hj : iv = (j : Int)) (hjn : j ≤ n) (hf : ∀ i, i < n - j → f' i = f (j + i))
    (hk : ∀ xv' a', Ste T w0 pins N ds ((dd, .d (.sl sz xv' (n - j) f')) :: env) gs L β a' w → wpList P l.toArray Q rest a' w) : wpList P l.toArray Q (o :: rest) a w := by
  obtain ⟨x1, x2⟩ := opd_ok hS.ss.lkU hx
  obtain ⟨l1, _⟩ := opd_ok hS.ss.lkU hlo
  have x2 : Ok T w (Own pins.G L β) (.sl sz xv n f) := x2
  obtain ⟨⟨ad, cap, rfl, y1, y2, y3⟩, y4⟩ := x2
  obtain ⟨_, g1, g2, g3, g4⟩ := (K.tab t _ ht).2
  obtain ⟨re, hre⟩ := Option.isSome_iff_exists.1 g4
  have hel : P.elem t = e := by simp [Program.elem, g1]
  have hu : P.underlying t = some (.slice (P.elem t)) := by rw [hel]; exact g1
  have hrs : re.size = sz := by simpa [sizeT, hre] using g2
  have hv : (D.sl sz (.slice ad n cap) n f).val T β = .slice ad n cap := rfl
  rw [hv] at x1
  have l1 : a.eval lo = .int k iv := l1
  subst hj
  have hrun : (execOp a.eval o).run P w = .ok (.value (sliced ad j n cap sz)) w := by
    have h := run_slice_l (P := P) w t ad n cap hu k (j : Int) (by omega) (by omega)
    rw [hel, run_sizeOf K.tab hre, hrs] at h
    simp only [execOp, hop, Option.map_none, Option.map_some, Sem.run_bind, x1, l1, run_sliceAt_slice w t _ _ _ _ hu, h, Result.andThen_ok, Sem.run_pure, Int.toNat_natCast]
  have hok : Ok T w (Own pins.G L β) (.sl sz (sliced ad j n cap sz) (n - j) f') := by
    refine ⟨⟨_, cap - j, rfl, by omega, by omega, ?_⟩, fun i hi => ?_⟩
    · by_cases h0 : n - j = 0
      · exact .inl h0
      · rcases y3 with y3 | ⟨bb, oo, cur, ee, fr, rfl, q1, q2, q3⟩
        · omega
        · refine .inr ⟨bb, oo + j * sz, cur, ee, fr, ?_, q1, q2, fun i hi j' v hv => ?_⟩
          · rw [if_neg (by omega)]; simp [addr_add]
          · rw [hf i hi] at hv
            have := q3 (j + i) (by omega) j' v hv
            rwa [Nat.add_mul, ← Nat.add_assoc] at this
    · rw [hf i hi]; exact y4 (j + i) (by omega)
  unfold wpList
  rw [if_pos (by simp [Region.wanted, hg])]
  left
  unfold Oper.wp
  rw [hrun]
  refine hk (sliced ad j n cap sz) _ ⟨?_, by rw [Act.put_defers]; exact hS.df⟩
  rw [hd]
  exact hS.ss.set (x := .sl sz _ (n - j) f') (Nat.lt_of_not_le fun h => by rw [Nat.ble_eq_true_of_le h] at hdN; cases hdN) hdg hok rfl

/-- What such a contract asks of a run's end. -/
def CPostG (T : Tab) (w : World) (β : Nat → Nat) (n m : Nat) (G : Nat → Prop) (R : Option Value → D → List Ent → Prop) : Ending → World → Prop := fun e w' =>
  ∃ o y L1 β1, R o y L1 ∧ e = endOf T β1 o y ∧ MemOk T G L1 β1 w' ∧ OkT T w' (Own G L1 β1) y ∧ Keep w (pinsOf β m n G) w' ∧
    n ≤ L1.length ∧ (∀ k, k < m → β1 k = β k) ∧ (∀ k, m ≤ k → k < L1.length → w.heap.size ≤ β1 k ∨ ∃ j, m ≤ j ∧ j < n ∧ β1 k = β j)

theorem ConG.intro {f : Nat} {fn : Func} {c : Code} {xs : List D} {L0 : List Ent} {m : Nat} {R : Option Value → D → List Ent → Prop} (hf : P.funcs[f]? = some fn) (hb : fn.body = some c) (hl : Nat.ble xs.length fn.ntmps = true) (he : argE 0 xs [] = some env) (hml : Nat.ble m L0.length = true)
    (h : ∀ G w0 β0 β a w, Ste T w0 (pinsOf β0 m L0.length G) fn.ntmps [] env [] L0 β a w → c.wp P (bodyPost P fn (CPostG T w0 β0 L0.length m G R)) a w) : ConG P T f xs L0 m R := by
  intro G β w hM ho hg1 hg2
  exact calls_of_wp hf hb (h G w β β _ w ⟨SS.init hM (Nat.le_of_ble_eq_true hml) hg1 hg2 ho (Nat.le_of_ble_eq_true hl) he, rfl⟩)

theorem CPost.g {w0 : World} {β0 : Nat → Nat} {n m : Nat} {G : Nat → Prop} {R : Option Value → D → List Ent → Prop} {e : Ending} (h : CPost T w0 β0 n m G (fun y L1 => R none y L1) e w) : CPostG T w0 β0 n m G R e w := by
  obtain ⟨y, L1, β1, h1, h2, h3⟩ := h
  exact ⟨none, y, L1, β1, h1, h2, h3⟩

/-- A panic of the function's own. -/
theorem SS.dies {w0 : World} {β0 : Nat → Nat} {m n : Nat} {G : Nat → Prop} {L1 J : List Ent} {R : Option Value → D → List Ent → Prop} {v : Value} {y : D} (hS : SS T w0 (pinsOf β0 m n G) N env gs (L1 ++ J) β a.tmps w) (hR : R (some v) y L1) (hn : n ≤ L1.length) (hI : IdxF (· < L1.length) L1) (hy : ∀ w A, OkT T w A y) :
    CPostG T w0 β0 n m G R (.panicked [{ v, recovered := false }]) w := by
  obtain ⟨y', L1', β1, h1, h2, h3, h4, h5⟩ := SS.front (R := fun y L => R (some v) y L) hS hR hn hI (hy _ _)
  exact ⟨some v, y', L1', β1, h1, rfl, h3, h4, h5⟩

/-- An answer of a function that may panic. -/
theorem gret1 {fn : Func} {r : ResultVar} {x : D} {β0 : Nat → Nat} {m n : Nat} {G : Nat → Prop} {R : Option Value → D → List Ent → Prop} (K : Kit P T C) (hf : fn.results = #[r]) (hS : Ste T w0 (pinsOf β0 m n G) N [] env [] L β a w) (h : resD T env L r = some x)
    (L1 J : List Ent) (hL : L = L1 ++ J) (hn : Nat.ble n L1.length = true) (hI : IdxF (· < L1.length) L1) (y : D) (hv : x.val T β = y.val T β) (hy : OkT T w (Own G L1 β) y) (hR : R none y L1) :
    bodyPost P fn (CPostG T w0 β0 n m G R) .ret a w := by
  refine bodyPost_ret (res_run1 K.tab hf hS.ss h) hS.df ?_
  subst hL
  rw [hv]
  exact CPost.g (SS.front (R := fun y L1 => R none y L1) hS.ss hR (Nat.le_of_ble_eq_true hn) hI hy)

/-- A call that is handed the blocks ρ, all of which stay where they are; it may panic. -/
theorem callfG {f : Nat} {xs0 : List D} {L0 : List Ent} {m : Nat} {R : Option Value → D → List Ent → Prop} (hE : Enters P f) (hc : ConG P T f xs0 L0 m R) (hS : Ste T w0 pins N ds env gs L β a w) {l rest : List Oper} {Q : Exit → Act → World → Prop} {o : Oper} {cv : Operand} {args : List Operand} {ty : Array TypeId} {caps xs : List D}
    (ts ρ : List Nat) (hg : o.guard = none) (hop : o.op = .call ⟨.value cv, ⟨args⟩, ty⟩) (hcv : opd (lkU env) cv = some (.fn f caps)) (hx : opds (lkU env) args = some xs) (hdst : dstB N o.dst = true)
    (hn : ρ.Nodup) (hxx : xs ++ caps = D.renL (rn ρ L.length) xs0) {env2 : Env} (he : keepE env ts [] = some env2) (hml : L0.length = m) (hxi : IdxL (· < L0.length) xs0)
    (hH : HandE L (rn ρ L.length) L0.length ρ L0)
    (hp : ∀ v y L1, R (some v) y L1 → ∀ β' w', Ste T w0 pins N ds env2 [] (putE (rn ρ L.length) ρ L1 L) β' a w' → Q (.panic [{ v, recovered := false }]) a w')
    (hk : ∀ y L1, R none y L1 → ∀ β' a' w', Ste T w0 pins N ds (dstE o.dst (y.ren (rn ρ L.length)) env2) [] (putE (rn ρ L.length) ρ L1 L) β' a' w' → wpList P l.toArray Q rest a' w') : wpList P l.toArray Q (o :: rest) a w := by
  have hd : ρ.drop m = [] := by rw [← hml, hH.get.1]; exact List.drop_length
  obtain ⟨x1, x2⟩ := opds_ok hS.ss.lkU hx
  obtain ⟨c1, c2⟩ := opd_ok hS.ss.lkU hcv
  have hall : OkL T w (Own pins.G L β) (xs ++ caps) := OkL_iff.2 fun d hd => by
    rcases List.mem_append.1 hd with hd | hd
    · exact x2 d hd
    · exact OkL_iff.1 c2 d hd
  refine callvG hE hc hS hg hop hcv hx hdst ρ [] hn (by simp) (by rw [hxx]) hxi ?_ hH (by rw [hd]; simp) (by rw [hml]; exact Nat.le_refl _) ts he
    (by rw [hd]; exact IdxN.all (fun k => by simp) (keepE_d ts [] env2 he (by simp))) (by rw [hd]; exact IdxM.all (fun k => by simp) L 0) (.inl rfl) hp hk
  rw [← hxx]
  have : (⟨fun b => (Own pins.G L β).ok b ∨ ∃ k ∈ ([] : List Nat), β k = b, L.length⟩ : Dom) = Own pins.G L β := by
    simp [Own]
  rw [this]
  exact hall

/-- The state, as if its call began here: its first m blocks stay where they are. -/
theorem Ste.rebase (h : Ste T w0 pins N ds env [] L β a w) (m : Nat) (hm : m ≤ L.length) (hp : pins.fix.length ≤ m) : Ste T w (pinsOf β m L.length pins.G) N ds env [] L β a w := by
  refine ⟨⟨h.ss.n, h.ss.tmp, h.ss.mem, Keep.refl _ _, fun k h1 h2 => .inr (pinsOf_more.2 ⟨k, by simpa [pinsOf] using h1, h2, rfl⟩), fun k b hb => ?_, fun b hb => ?_⟩, h.df⟩
  · obtain ⟨h1, h2⟩ := nth_map_range hb
    exact ⟨by omega, h2⟩
  · rcases hb with hb | hb
    · exact h.ss.good b (.inl (Nat.le_trans h.ss.keep.size hb))
    · obtain ⟨k, h1, h2, rfl⟩ := pinsOf_more.1 hb
      exact h.ss.good _ (h.ss.new k (by omega) h2)

/-- What was kept ahead of such a place, and behind it. -/
theorem Keep.rebase {w1 w2 : World} {m : Nat} {G : Nat → Prop} (h : Ste T w0 pins N ds env gs L β a w1) (hk : Keep w1 (pinsOf β m L.length G) w2) (hm : m ≤ L.length) : Keep w0 pins w2 := by
  refine ⟨hk.os.trans h.ss.keep.os, hk.tape.trans h.ss.keep.tape, hk.output.trans h.ss.keep.output, Nat.le_trans h.ss.keep.size hk.size, fun b hb hp => ?_⟩
  rw [hk.block b (Nat.lt_of_lt_of_le hb h.ss.keep.size) ?_, h.ss.keep.block b hb hp]
  cases hh : (pinsOf β m L.length G).has b with
  | false => rfl
  | true =>
    exfalso
    have : ∃ k, k < L.length ∧ β k = b := by
      simp only [Pins.has, Bool.or_eq_true] at hh
      rcases hh with hh | hh
      · rw [elemN_iff] at hh
        simp only [pinsOf, List.mem_map, List.mem_range] at hh
        obtain ⟨k, h1, h2⟩ := hh
        exact ⟨k, by omega, h2⟩
      · obtain ⟨k, _, h1, h2⟩ := pinsOf_more.1 hh
        exact ⟨k, h1, h2⟩
    obtain ⟨k, hkl, hkb⟩ := this
    by_cases hkf : k < pins.fix.length
    · obtain ⟨b', hb'⟩ := nth_of_lt pins.fix k hkf
      have h3 := (h.ss.pin k b' hb').2
      rw [← hkb, h3, Pins.fix_elem hb'] at hp
      cases hp
    · rcases h.ss.new k (by omega) hkl with h1 | h1
      · omega
      · rw [← hkb] at hp; simp [Pins.has, h1] at hp

end Go.CE

/- A small program logic, twenty-fourth text: deferred calls that are handed blocks. -/
namespace Go.CE
open Go.RowKit

variable {P : Program} {T : Tab} {w0 w : World} {pins : Pins} {N : Nat} {env : Env} {gs : List Nat} {L : List Ent} {β : Nat → Nat} {a : Act} {C : Calls'} {ds : List Deferred}

/-- The blocks that a callee may see that is handed ρ. -/
def hidG (pins : Pins) (L : List Ent) (β : Nat → Nat) (ρ : List Nat) : Nat → Prop := fun b => pins.G b ∧ ∀ k e, nth L k = some e → e.alive = true → (∀ i ∈ ρ, i ≠ k) → β k ≠ b

theorem SS.hand (hS : SS T w0 pins N env [] L β a.tmps w) {ρ : List Nat} {L0 : List Ent} (hn : ρ.Nodup) (hH : HandE L (rn ρ L.length) L0.length ρ L0) :
    MemOk T (hidG pins L β ρ) L0 (fun j => β (rn ρ L.length j)) w ∧ (∀ b, (Own pins.G L β).ok b → (Own (hidG pins L β ρ) L0 fun j => β (rn ρ L.length j)).ok b) ∧ (∀ b, w.heap.size ≤ b → hidG pins L β ρ b) ∧ (∀ k ∈ ρ, k < L.length) := by
  obtain ⟨hHl, hHg⟩ := hH.get
  have hρL : ∀ k ∈ ρ, k < L.length := fun k hk => by
    obtain ⟨j, hj⟩ := List.mem_iff_getElem?.1 hk
    have hjl : j < L0.length := by rw [hHl]; exact (List.getElem?_eq_some_iff.1 hj).1
    obtain ⟨e, he⟩ := nth_of_lt L0 j hjl
    obtain ⟨k', e', h1, h2, _⟩ := hHg j e he
    rw [nth_get, hj] at h1
    cases h1
    exact nth_lt _ _ _ h2
  have hb0 : ∀ j, j < L0.length → ∃ k e e', nth L0 j = some e ∧ nth ρ j = some k ∧ nth L k = some e' ∧ SameE e' (e.ren (rn ρ L.length)) ∧ IdxE (· < L0.length) e ∧ rn ρ L.length j = k := fun j hj => by
    obtain ⟨e, he⟩ := nth_of_lt L0 j hj
    obtain ⟨k, e', h1, h2, h3, h4, _⟩ := hHg j e he
    exact ⟨k, e, e', he, h1, h2, h3, h4, by simp only [rn, h1]⟩
  have hA : ∀ b, (Own pins.G L β).ok b → (Own (hidG pins L β ρ) L0 fun j => β (rn ρ L.length j)).ok b := fun b hb => by
    refine ⟨⟨hb.1, fun k e hk ha _ => hb.2 k e hk ha⟩, fun j e he ha heq => ?_⟩
    obtain ⟨k, _, e', _, h1, h2, h3, _, h4⟩ := hb0 j (nth_lt _ _ _ he)
    simp only [h4] at heq
    exact hb.2 k e' h2 h3.alive heq
  refine ⟨⟨fun j e hj => ?_, fun i j d e hi hj _ _ hij => ?_⟩, hA, fun b hb => ⟨hS.good b (.inl (Nat.le_trans hS.keep.size hb)), fun k e hk _ _ heq => by have := hS.mem.lt (nth_lt _ _ _ hk); omega⟩, hρL⟩
  · obtain ⟨k, e0, e', h0, h1, h2, h3, h5, h4⟩ := hb0 j (nth_lt _ _ _ hj)
    rw [hj] at h0
    cases h0
    have ho := hS.mem.ent k e' h2
    cases e with
    | var t d =>
      cases e' with
      | var t' d' =>
        obtain ⟨rfl, rfl⟩ := h3
        obtain ⟨o1, o2, o3⟩ := ho
        refine ⟨?_, by rw [D.ren_size] at o2; exact o2, Ok.back hA d h5 o3⟩
        rw [D.ren_cells] at o1
        simp only [h4]
        exact o1
      | _ => exact h3.elim
    | row e sz n f cap =>
      cases e' with
      | row e2 sz' n' f' cap' =>
        obtain ⟨rfl, rfl, rfl, rfl, hff⟩ := h3
        obtain ⟨cur, o1, o2, o3, o4, o5, o6, o7, o8⟩ := ho
        refine ⟨cur, by simp only [h4]; exact o1, o2, o3, o4, o5, o6, fun i hi => ?_, fun i hi j' v hv => ?_⟩
        · have := o7 i hi
          rw [hff i hi] at this
          exact ⟨by rw [D.ren_size] at this; exact this.1, Ok.back hA (f i) (h5 i hi) this.2⟩
        · refine o8 i hi j' v ?_
          rw [hff i hi, D.ren_cells]
          exact hv
      | _ => exact h3.elim
    | dead => obtain ⟨_, _, _, _, _, _, hd⟩ := hHg j _ hj; cases hd
  · obtain ⟨k1, _, e1, _, _, h2, h3, _, h4⟩ := hb0 i (nth_lt _ _ _ hi)
    obtain ⟨k2, _, e2, _, _, g2, g3, _, g4⟩ := hb0 j (nth_lt _ _ _ hj)
    have := hS.mem.inj k1 k2 e1 e2 h2 g2 h3.alive g3.alive (by simpa only [h4, g4] using hij)
    exact rn_inj hn hρL (h4.trans (this.trans g4.symm))

end Go.CE

/- A small program logic, twenty-fifth text: one operation of a region, told by what is known of the temporaries that it looks at (no condition: for any program whose types the table tells). -/
namespace Go.CE
open Go.RowKit

variable {P : Program} {T : Tab} {w0 w : World} {pins : Pins} {N : Nat} {env : Env} {gs : List Nat} {L : List Ent} {β : Nat → Nat} {a : Act} {C : Calls'} {ds : List Deferred}

/-- c knows no more than e. -/
def SubE (c e : Env) : Prop := ∀ t b, look t c = some b → look t e = some b

theorem LkOk.mono {A : Dom} {tmps : Array Value} {lk lk' : Nat → Option D} (hs : ∀ t d, lk t = some d → lk' t = some d) (h : LkOk T w A β tmps lk') : LkOk T w A β tmps lk := fun t d ht => h t d (hs t d ht)

theorem lkU_sub {c e : Env} (h : SubE c e) (t : Nat) (d : D) (ht : lkU c t = some d) : lkU e t = some d := by
  unfold lkU at ht ⊢
  split at ht
  · rename_i x hx
    rw [h t _ hx]
    exact ht
  · cases ht
theorem lkG_sub {c e : Env} (h : SubE c e) (tc : Nat) (wb : Bool) (t : Nat) (d : D) (ht : lkG tc wb c t = some d) : lkG tc wb e t = some d := by
  unfold lkG at ht ⊢
  split at ht
  · rename_i x hx
    rw [h t _ hx]
    exact ht
  · rename_i tc' w' x hx
    rw [h t _ hx]
    exact ht
  · cases ht

/-- What one operation that does not write does, in a state that knows at least what was looked at. -/
theorem step_q (hT : TabOk P T) (hZ : ZeroOk T) (hC : COk P T C) {dsts : List (Option Nat)} {ops : Array Oper} (hd : DstsOk dsts ops) {O O' : Prop} {o : Oper} {c c' : Env} {p : Nat × B} {gs' : List Nat}
    (h : run1q T C N dsts c [] L O o = some (p :: c', gs', O')) (hO : O') (hs : SubE c env) (hg : ∀ d, o.dst = some d → elemN d gs = false) (hS : SS T w0 pins N env gs L β a.tmps w) :
    o.dst = some p.1 ∧ ((Region.wanted o (yielded ops a.tmps) = true ∧ ∃ x, Yields P T β w o a x ∧ ∃ gs2, (∀ g, elemN g gs2 = true → elemN g gs = true ∨ elemN g gs' = true) ∧ SS T w0 pins N (p :: env) gs2 L β (a.put o.dst (x.val T β)).tmps w) ∨
      (Region.wanted o (yielded ops a.tmps) = false ∧ ∃ gs2, (∀ g, elemN g gs2 = true → elemN g gs = true ∨ elemN g gs' = true) ∧ SS T w0 pins N (p :: env) gs2 L β (a.put o.dst undef).tmps w)) := by
  unfold run1q at h
  split at h
  · cases h
  · rename_i d hdst
    have hc1 := hg d hdst
    split at h
    · rename_i hgd
      have hw : Region.wanted o (yielded ops a.tmps) = true := by simp [Region.wanted, hgd]
      split at h
      · cases h
      · rename_i hc
        simp only [Bool.or_eq_true, not_or, Bool.not_eq_true] at hc
        obtain ⟨_, hc2⟩ := hc
        have hdN : d < N := by
          cases hb : Nat.ble N d with
          | true => rw [hb] at hc2; cases hc2
          | false => exact Nat.lt_of_not_le fun hle => by rw [Nat.ble_eq_true_of_le hle] at hb; cases hb
        split at h
        · rename_i x hp
          simp only [Option.some.injEq, Prod.mk.injEq, List.cons.injEq] at h
          obtain ⟨⟨rfl, rfl⟩, rfl, rfl⟩ := h
          refine ⟨hdst, .inl ⟨hw, x, ?_⟩⟩
          obtain ⟨dst, op, ty, pos, after, guard⟩ := o
          simp only at hp hdst ⊢
          subst hdst
          unfold pickOp at hp
          split at hp
          · rename_i tc y
            split at hp
            · rename_i b hb
              have hcb : a.tmps.getD tc undef = .bool b := (hS.tmp tc _ (hs _ _ hb)).1
              split at hp
              · rename_i tc' xb hy
                split at hp
                · rename_i heq
                  have heq := Nat.eq_of_beq_eq_true heq
                  subst heq
                  simp only [Option.some.injEq] at hp
                  subst hp
                  obtain ⟨_, c, k1, k2⟩ := hS.tmp y _ (hs _ _ hy)
                  rw [hs _ _ hb] at k1
                  simp only [Option.some.injEq, B.d.injEq, D.v.injEq, Value.bool.injEq] at k1
                  subst k1
                  refine ⟨.inl ?_, gs, fun g hg => .inl hg, hS.set hdN hc1 rfl rfl⟩
                  simp only [execOp, Act.eval, hcb, asBool, Sem.run_bind, Sem.run_pure, Result.andThen_ok, val_v]
                  cases b with
                  | true => simp
                  | false => have := (k2 rfl).1; simp only [val_v] at this; simp [this]
                · cases hp
              · cases hp
            · cases hp
          · rename_i tc y
            split at hp
            · rename_i b hb
              have hcb : a.tmps.getD tc undef = .bool b := (hS.tmp tc _ (hs _ _ hb)).1
              split at hp
              · rename_i tc' xb hy
                split at hp
                · rename_i heq
                  have heq := Nat.eq_of_beq_eq_true heq
                  subst heq
                  simp only [Option.some.injEq] at hp
                  subst hp
                  obtain ⟨_, c, k1, k2⟩ := hS.tmp y _ (hs _ _ hy)
                  rw [hs _ _ hb] at k1
                  simp only [Option.some.injEq, B.d.injEq, D.v.injEq, Value.bool.injEq] at k1
                  subst k1
                  refine ⟨.inl ?_, gs, fun g hg => .inl hg, hS.set hdN hc1 rfl rfl⟩
                  simp only [execOp, Act.eval, hcb, asBool, Sem.run_bind, Sem.run_pure, Result.andThen_ok, val_v]
                  cases b with
                  | true => have := (k2 rfl).1; simp only [val_v] at this; simp [this]
                  | false => simp
                · cases hp
              · cases hp
            · cases hp
          · cases hp
        · split at h
          · rename_i x q hv
            simp only [Option.some.injEq, Prod.mk.injEq, List.cons.injEq] at h
            obtain ⟨⟨rfl, rfl⟩, rfl, rfl⟩ := h
            obtain ⟨hq, _⟩ := Ob.and_out hO
            refine ⟨hdst, .inl ⟨hw, x, ?_⟩⟩
            obtain ⟨y1, y2⟩ := valOp_ok (a := a) hT hZ hC hS.mem (LkOk.mono (lkU_sub hs) hS.lkU) hv hq
            refine ⟨y1, gs, fun g hg => .inl hg, ?_⟩
            rw [hdst]
            exact hS.set hdN hc1 y2 rfl
          · cases h
    · rename_i j wb hgd
      split at h
      · rename_i tc hj
        split at h
        · cases h
        · rename_i hc
          simp only [Bool.or_eq_true, not_or, Bool.not_eq_true] at hc
          obtain ⟨hc0, hc2⟩ := hc
          have hdN : d < N := by
            cases hb : Nat.ble N d with
            | true => rw [hb] at hc2; cases hc2
            | false => exact Nat.lt_of_not_le fun hle => by rw [Nat.ble_eq_true_of_le hle] at hb; cases hb
          have hc1' : elemN d (tc :: gs) = false := by
            simp only [elemN, Bool.or_eq_false_iff] at hc0 ⊢
            exact ⟨hc0.1, hc1⟩
          split at h
          · rename_i b hb
            split at h
            · rename_i x q hv
              simp only [Option.some.injEq, Prod.mk.injEq, List.cons.injEq] at h
              obtain ⟨⟨rfl, rfl⟩, rfl, rfl⟩ := h
              obtain ⟨hq, _⟩ := Ob.and_out hO
              have hcb : a.tmps.getD tc undef = .bool b := (hS.tmp tc _ (hs _ _ hb)).1
              have hw := wanted_of (a := a) hd hgd hj hcb
              have hgs : ∀ g, elemN g (tc :: gs) = true → elemN g gs = true ∨ elemN g [tc] = true := fun g hg => by
                simp only [elemN, Bool.or_eq_true, Bool.or_false] at hg ⊢
                exact hg.symm
              refine ⟨hdst, ?_⟩
              by_cases hbw : b = wb
              · subst hbw
                left
                obtain ⟨y1, y2⟩ := valOp_ok (a := a) hT hZ hC hS.mem (LkOk.mono (lkG_sub hs tc b) (hS.lkG (hs _ _ hb))) hv (Ob.under_out hq rfl)
                refine ⟨by rw [hw]; simp, x, y1, tc :: gs, hgs, ?_⟩
                rw [hdst]
                exact hS.setg hdN hc1' (hs _ _ hb) fun _ => ⟨rfl, y2⟩
              · right
                refine ⟨by rw [hw]; simp [hbw], tc :: gs, hgs, ?_⟩
                rw [hdst]
                exact hS.setg hdN hc1' (hs _ _ hb) fun e => absurd e hbw
            · cases h
          · cases h
      · cases h

/-! ### Writing operations -/

theorem opd_sub {lk lk' : Nat → Option D} (h : ∀ t d, lk t = some d → lk' t = some d) {x : Operand} {d : D} (hx : opd lk x = some d) : opd lk' x = some d := by
  unfold opd at hx ⊢
  split at hx
  · exact h _ _ hx
  · exact hx
  · exact hx
  · exact hx
  · cases hx
theorem putParts_sub {lk lk' : Nat → Option D} (h : ∀ t d, lk t = some d → lk' t = some d) : ∀ (parts : List (Nat × Operand)) (ds es : List D), putParts T lk parts ds = some es → putParts T lk' parts ds = some es
  | [], _, _, hp => hp
  | (i, x) :: r, ds, es, hp => by
    simp only [putParts] at hp ⊢
    split at hp
    · rename_i d hd
      rw [opd_sub h hd]
      simp only
      split at hp
      · rename_i old ho
        split at hp
        · rename_i hc
          simp only [ho, hc, if_true]
          exact putParts_sub h r _ _ hp
        · cases hp
      · cases hp
    · cases hp

/-- What a writing operation adds to what is known: one temporary, or nothing. -/
theorem writeOp_sub {c e : Env} (hs : SubE c e) {op : Op} {dst : Option Nat} {c' : Env} {L' : List Ent} {q : Ob} (h : writeOp T c L op dst = some (c', L', q)) :
    (∃ d x, dst = some d ∧ c' = (d, .d x) :: c ∧ writeOp T e L op dst = some ((d, .d x) :: e, L', q)) ∨ (dst = none ∧ c' = c ∧ writeOp T e L op dst = some (e, L', q)) := by
  have hU := lkU_sub hs
  unfold writeOp at h
  split at h
  · rename_i t d
    split at h
    · rename_i r hr
      simp only [Option.some.injEq, Prod.mk.injEq] at h
      obtain ⟨rfl, rfl, rfl⟩ := h
      exact .inl ⟨_, _, rfl, rfl, by simp only [writeOp, hr]⟩
    · cases h
  · rename_i t x d
    split at h
    · rename_i y hy
      split at h
      · rename_i hc
        simp only [Option.some.injEq, Prod.mk.injEq] at h
        obtain ⟨rfl, rfl, rfl⟩ := h
        exact .inl ⟨_, _, rfl, rfl, by simp only [writeOp, opd_sub hU hy, hc, if_true]⟩
      · cases h
    · cases h
  · rename_i t x y
    right
    split at h
    · rename_i z hz
      split at h
      · rename_i k π hx
        split at h
        · rename_i t' d hk
          split at h
          · rename_i old ho
            split at h
            · rename_i hc
              split at h
              · rename_i d' hd'
                simp only [Option.some.injEq, Prod.mk.injEq] at h
                obtain ⟨rfl, rfl, rfl⟩ := h
                exact ⟨rfl, rfl, by simp only [writeOp, opd_sub hU hz, opd_sub hU hx, hk, ho, hc, if_true, hd']⟩
              · cases h
            · cases h
          · cases h
        · rename_i e' sz n f cap hk
          split at h
          · rename_i sz' n' i r
            split at h
            · rename_i old ho
              split at h
              · rename_i hc
                split at h
                · rename_i d' hd'
                  simp only [Option.some.injEq, Prod.mk.injEq] at h
                  obtain ⟨rfl, rfl, rfl⟩ := h
                  exact ⟨rfl, rfl, by simp only [writeOp, opd_sub hU hz, opd_sub hU hx, hk, ho, hc, if_true, hd']⟩
                · cases h
              · cases h
            · cases h
          · cases h
        · cases h
      · cases h
    · cases h
  · rename_i t len parts d
    split at h
    · rename_i e' sz s b z ht
      split at h
      · rename_i r hr
        split at h
        · rename_i ds hp
          simp only [Option.some.injEq, Prod.mk.injEq] at h
          obtain ⟨rfl, rfl, rfl⟩ := h
          exact .inl ⟨_, _, rfl, rfl, by simp only [writeOp, ht, hr, putParts_sub hU _ _ _ hp]⟩
        · cases h
      · cases h
    · cases h
  · cases h

end Go.CE

/- A small program logic, twenty-sixth text: regions that draw their order: what must wait for what (no condition: definitions, and lemmas on lists and on the model's own order). -/
namespace Go.CE
open Go.RowKit

/-! ### What waits for what -/

def bndL : List Edge → List Nat
  | [] => []
  | e :: r => if Region.binds .any e then e.on :: bndL r else bndL r
def bnd (o : Oper) : List Nat := bndL o.after.toList
theorem mem_bndL {j : Nat} : ∀ {l : List Edge}, j ∈ bndL l ↔ ∃ e ∈ l, Region.binds .any e = true ∧ e.on = j
  | [] => by simp [bndL]
  | e :: r => by
    unfold bndL
    split
    · rename_i h
      simp only [List.mem_cons, mem_bndL (l := r)]
      constructor
      · rintro (rfl | ⟨e', h1, h2⟩)
        · exact ⟨e, .inl rfl, h, rfl⟩
        · exact ⟨e', .inr h1, h2⟩
      · rintro ⟨e', rfl | h1, h2, h3⟩
        · exact .inl h3.symm
        · exact .inr ⟨e', h1, h2, h3⟩
    · rename_i h
      simp only [List.mem_cons, mem_bndL (l := r)]
      constructor
      · rintro ⟨e', h1, h2⟩
        exact ⟨e', .inr h1, h2⟩
      · rintro ⟨e', rfl | h1, h2, h3⟩
        · exact absurd h2 h
        · exact ⟨e', h1, h2, h3⟩

def maskOf (ms : List Nat) : List Nat → Nat → Nat
  | [], m => m
  | j :: r, m => maskOf ms r (m ||| (1 <<< j) ||| ms.getD j 0)
def masksA : List Oper → List Nat → List Nat
  | [], ms => ms
  | o :: r, ms => masksA r (ms ++ [maskOf ms (bnd o) 0])
def anc (ms : List Nat) (k j : Nat) : Bool := Nat.testBit (ms.getD k 0) j

theorem maskOf_bit {ms : List Nat} {x : Nat} : ∀ {js : List Nat} {m : Nat}, Nat.testBit (maskOf ms js m) x = true → Nat.testBit m x = true ∨ ∃ j ∈ js, x = j ∨ Nat.testBit (ms.getD j 0) x = true
  | [], m, h => .inl h
  | j :: r, m, h => by
    rcases maskOf_bit (js := r) h with h | ⟨i, hi, h⟩
    · simp only [Nat.testBit_or, Bool.or_eq_true] at h
      rcases h with (h | h) | h
      · exact .inl h
      · refine .inr ⟨j, by simp, .inl ?_⟩
        simp only [Nat.testBit_shiftLeft, Bool.and_eq_true, decide_eq_true_eq] at h
        have h2 := h.2
        have : x - j = 0 := by
          rcases Nat.eq_zero_or_pos (x - j) with h0 | h0
          · exact h0
          · rw [Nat.testBit_one_eq_true_iff_self_eq_zero] at h2
            exact h2
        omega
      · exact .inr ⟨j, by simp, .inr h⟩
    · exact .inr ⟨i, by simp [hi], h⟩

theorem masksA_spec : ∀ (l : List Oper) (ms : List Nat), ∃ r, masksA l ms = ms ++ r ∧ r.length = l.length ∧ ∀ k o, l[k]? = some o → ∃ q, r[k]? = some q ∧ q = maskOf ((masksA l ms).take (ms.length + k)) (bnd o) 0
  | [], ms => ⟨[], by simp [masksA], rfl, by simp⟩
  | o :: l, ms => by
    obtain ⟨r, h1, h2, h3⟩ := masksA_spec l (ms ++ [maskOf ms (bnd o) 0])
    refine ⟨maskOf ms (bnd o) 0 :: r, by simp [masksA, h1], by simp [h2], fun k o' hk => ?_⟩
    cases k with
    | zero =>
      simp only [List.getElem?_cons_zero, Option.some.injEq] at hk
      subst hk
      refine ⟨_, rfl, ?_⟩
      simp [masksA, h1]
    | succ k =>
      simp only [List.getElem?_cons_succ] at hk ⊢
      obtain ⟨q, e1, e2⟩ := h3 k o' hk
      refine ⟨q, e1, ?_⟩
      rw [e2]
      simp only [masksA, List.length_append, List.length_cons, List.length_nil]
      congr 2
      omega

theorem anc_spec {l : List Oper} {k j : Nat} {o : Oper} (hk : l[k]? = some o) (h : anc (masksA l []) k j = true) : j ∈ bnd o ∨ ∃ i ∈ bnd o, i < k ∧ anc (masksA l []) i j = true := by
  obtain ⟨r, h1, h2, h3⟩ := masksA_spec l []
  obtain ⟨q, e1, e2⟩ := h3 k o hk
  simp only [List.nil_append] at h1
  unfold anc at h ⊢
  rw [List.getD_eq_getElem?_getD, h1, e1, Option.getD_some, e2] at h
  simp only [List.length_nil, Nat.zero_add] at h
  rcases maskOf_bit h with h | ⟨i, hi, h⟩
  · simp at h
  · rcases h with rfl | h
    · exact .inl hi
    · right
      by_cases hik : i < k
      · refine ⟨i, hi, hik, ?_⟩
        rw [List.getD_eq_getElem?_getD, List.getElem?_take_of_lt hik] at h
        rw [List.getD_eq_getElem?_getD]
        exact h
      · rw [List.getD_eq_getElem?_getD, List.getElem?_eq_none (by simp; omega)] at h
        simp at h

/-- Whatever is done: what it waited for is done. -/
def Closed (l : List Oper) (ls : List Bool) : Prop := ∀ k o, l[k]? = some o → ls.getD k false = true → ∀ j ∈ bnd o, ls.getD j false = true

theorem anc_ready {l : List Oper} {ls : List Bool} (hc : Closed l ls) : ∀ (k : Nat) (o : Oper) (j : Nat), l[k]? = some o → (∀ j ∈ bnd o, ls.getD j false = true) → anc (masksA l []) k j = true → ls.getD j false = true := by
  intro k
  induction k using Nat.strongRecOn with
  | _ k ih =>
    intro o j hk ho h
    rcases anc_spec hk h with h | ⟨i, hi, hik, h⟩
    · exact ho j h
    · have hil := ho i hi
      cases hoi : l[i]? with
      | none =>
        unfold anc at h
        obtain ⟨r, h1, h2, _⟩ := masksA_spec l []
        rw [List.getD_eq_getElem?_getD, h1, List.nil_append, List.getElem?_eq_none (by rw [h2]; exact List.getElem?_eq_none_iff.1 hoi)] at h
        simp at h
      | some oi => exact ih i hik oi j hoi (hc i oi hoi hil) h
theorem anc_done {l : List Oper} {ls : List Bool} (hc : Closed l ls) {k j : Nat} {o : Oper} (hk : l[k]? = some o) (hd : ls.getD k false = true) (h : anc (masksA l []) k j = true) : ls.getD j false = true :=
  anc_ready hc k o j hk (hc k o hk hd) h

/-! ### Any order, from a place on -/

def falses : List Bool → Nat
  | [] => 0
  | true :: r => falses r
  | false :: r => falses r + 1

def AW (P : Program) (l : List Oper) (Q : Exit → Act → World → Prop) (ls : List Bool) (a : Act) (w : World) : Prop := wpAny P .any l.toArray Q (falses ls) ls.toArray a w

theorem falses_set : ∀ {ls : List Bool} {i : Nat}, ls.getD i true = false → falses ls = falses (ls.set i true) + 1
  | [], i, h => by simp at h
  | b :: r, 0, h => by simp at h; subst h; rfl
  | b :: r, i + 1, h => by
    have h : r.getD i true = false := by simpa using h
    have e := falses_set h
    cases b
    · simp only [List.set_cons_succ, falses]; omega
    · simp only [List.set_cons_succ, falses]; exact e

theorem getD_arr {ls : List Bool} {j : Nat} {d : Bool} : ls.toArray.getD j d = ls.getD j d := by
  rw [Array.getD_eq_getD_getElem?, List.getD_eq_getElem?_getD]; simp

theorem ready_iff {l : List Oper} {ls : List Bool} {j : Nat} : j ∈ Region.ready .any l.toArray ls.toArray ↔ ls.getD j true = false ∧ ∃ o, l[j]? = some o ∧ ∀ i ∈ bnd o, ls.getD i false = true := by
  rw [mem_ready, getD_arr]
  constructor
  · rintro ⟨h1, o, h2, h3⟩
    refine ⟨h1, o, by simpa using h2, fun i hi => ?_⟩
    obtain ⟨e, he, hb, rfl⟩ := mem_bndL.1 hi
    rw [← getD_arr]
    exact h3 e (by simpa using he) hb
  · rintro ⟨h1, o, h2, h3⟩
    refine ⟨h1, o, by simpa using h2, fun e he hb => ?_⟩
    rw [getD_arr]
    exact h3 _ (mem_bndL.2 ⟨e, by simpa using he, hb, rfl⟩)

theorem AW.step {P : Program} {l : List Oper} {Q : Exit → Act → World → Prop} {ls : List Bool} {a : Act} {w : World} (hne : ∃ i, i ∈ Region.ready .any l.toArray ls.toArray)
    (h : ∀ i, i ∈ Region.ready .any l.toArray ls.toArray → wpOp P l.toArray Q i (AW P l Q (ls.set i true)) a w) : AW P l Q ls a w := by
  obtain ⟨i0, h0⟩ := hne
  have hf := falses_set (ready_iff.1 h0).1
  unfold AW
  rw [hf]
  show (_ → _) ∧ _
  refine ⟨fun he => (by rw [he] at h0; cases h0), fun i hi => ?_⟩
  have h1 := h i hi
  unfold AW at h1
  have e1 : falses (ls.set i true) = falses (ls.set i0 true) := by
    have := falses_set (ready_iff.1 hi).1
    omega
  have e2 : (ls.set i true).toArray = ls.toArray.setIfInBounds i true := by simp
  rw [e1, e2] at h1
  exact h1

theorem AW.done {P : Program} {l : List Oper} {Q : Exit → Act → World → Prop} {ls : List Bool} {a : Act} {w : World} (hn : falses ls = 0) (hl : ls.length = l.length) (h : Q .normal a w) : AW P l Q ls a w := by
  have key : ∀ {ls : List Bool}, falses ls = 0 → ∀ j, ls.getD j true = true := by
    intro ls
    induction ls with
    | nil => intro _ j; simp
    | cons b r ih =>
      intro h j
      cases b with
      | false => simp [falses] at h
      | true => cases j with
        | zero => simp
        | succ j => have := ih (by simpa [falses] using h) j; simpa using this
  unfold AW
  rw [hn]
  refine ⟨?_, h⟩
  rw [List.eq_nil_iff_forall_not_mem]
  intro j hj
  have := (ready_iff.1 hj).1
  rw [key hn j] at this
  cases this

/-- A region that draws its order. -/
theorem aw_region {P : Program} {l : List Oper} {Q : Exit → Act → World → Prop} {a : Act} {w : World} {id : Nat} (hm : P.follows .mixedOrders = true)
    (h : AW P l Q (List.replicate l.length false) a { w with drawn := w.drawn + 1 }) : (Code.region id l.toArray true).wp P Q a w := by
  refine wp_region_any hm ?_
  have e : ∀ n, falses (List.replicate n false) = n := by
    intro n
    induction n with
    | zero => rfl
    | succ n ih => simp [List.replicate_succ, falses, ih]
  unfold AW at h
  rw [e] at h
  simpa using h

end Go.CE

/- A small program logic, twenty-seventh text: regions that draw their order: one symbolic run in the order of the text serves every order (no condition: for any program whose types the table tells). -/
namespace Go.CE
open Go.RowKit

variable {P : Program} {T : Tab} {w0 w : World} {pins : Pins} {N : Nat} {env : Env} {gs : List Nat} {L : List Ent} {β : Nat → Nat} {a : Act} {C : Calls'} {ds : List Deferred}

/-! ### Operations that do not ask the memory -/

def memless (T : Tab) : Op → Bool
  | .move _ | .assign _ | .nilCheck _ | .fieldAddr .. | .index .. | .extract .. | .binOp .. | .unOp .. | .build .. | .makeFunc .. | .pick .. => true
  | .indexAddr t _ _ => (match T t with | some ⟨.ar .., _, _, _⟩ => true | _ => false)
  | .convert _ dst _ => (match T dst with | some ⟨.leaf, _, _, .v (.int ..)⟩ => true | _ => false)
  | .call ⟨.value (.func _), _, _⟩ => true
  | .call ⟨.builtin .len, _, _⟩ | .call ⟨.builtin .min, _, _⟩ | .call ⟨.builtin .max, _, _⟩ => true
  | _ => false

theorem memless_eval {lk : Nat → Option D} {L L' : List Ent} {op : Op} (h : memless T op = true) : evalOp T C lk L op = evalOp T C lk L' op := by
  cases op with
  | call c =>
    obtain ⟨callee, ⟨args⟩, ⟨tys⟩⟩ := c
    cases callee with
    | value x => cases x <;> first | rfl | (simp [memless] at h)
    | builtin b =>
      rcases args with _ | ⟨x, _ | ⟨y, _ | ⟨z, r⟩⟩⟩ <;> rcases tys with _ | ⟨t, _ | ⟨u, q⟩⟩ <;> cases b <;> first | rfl | (simp [memless] at h)
    | invoke r m => simp [memless] at h
  | indexAddr t x i =>
    simp only [memless] at h
    split at h
    · rename_i n e sz s b z ht
      simp only [evalOp, ht]
    · cases h
  | convert src dst x =>
    simp only [memless] at h
    split at h
    · rename_i k n s b ht
      simp only [evalOp, ht]
    · cases h
  | makeFunc fn fs cs =>
    obtain ⟨fs⟩ := fs
    cases fs <;> cases fn <;> rfl
  | _ => first | rfl | (simp [memless] at h)

theorem memless_val {lk : Nat → Option D} {L L' : List Ent} {op : Op} (h : memless T op = true) : valOp T C lk L op = valOp T C lk L' op := by
  unfold valOp
  rw [memless_eval (L := L) (L' := L') h]
theorem memless_run {dsts : List (Option Nat)} {c : Env} {gs : List Nat} {L L' : List Ent} {O : Prop} {o : Oper} (h : memless T o.op = true) : run1q T C N dsts c gs L O o = run1q T C N dsts c gs L' O o := by
  unfold run1q
  simp only [memless_val (C := C) (L := L) (L' := L') h]

/-! ### The run -/

def tmpsOf : List Operand → List Nat
  | [] => []
  | .tmp t :: r => t :: tmpsOf r
  | _ :: r => tmpsOf r
def gtmp (dsts : List (Option Nat)) (o : Oper) : Option Nat := match o.guard with
  | some (j, _) => (match nth dsts j with | some (some t) => some t | _ => none)
  | none => none
/-- The temporaries that an operation looks at. -/
def lks (dsts : List (Option Nat)) (o : Oper) : List Nat := match gtmp dsts o with
  | some t => t :: tmpsOf o.op.operands.toList
  | none => tmpsOf o.op.operands.toList
def cE (env : Env) : List Nat → Env
  | [] => []
  | t :: r => match look t env with
    | some b => (t, b) :: cE env r
    | none => cE env r
theorem cE_look {env : Env} : ∀ {ts : List Nat} {t : Nat} {b : B}, look t (cE env ts) = some b → t ∈ ts ∧ look t env = some b
  | [], _, _, h => by cases h
  | u :: r, t, b, h => by
    unfold cE at h
    split at h
    · rename_i b' hb
      by_cases e : u = t
      · subst e
        rw [look_cons_eq] at h
        exact ⟨by simp, by rw [hb]; exact h⟩
      · rw [look_cons_ne e] at h
        obtain ⟨h1, h2⟩ := cE_look h
        exact ⟨by simp [h1], h2⟩
    · obtain ⟨h1, h2⟩ := cE_look h
      exact ⟨by simp [h1], h2⟩

def isW : Op → Bool
  | .alloc _ | .box .. | .store .. | .buildSlice .. => true
  | _ => false

/-- One operation, out of what is known of the temporaries that it looks at alone. -/
def phe1 (T : Tab) (C : Calls') (N : Nat) (dsts : List (Option Nat)) (o : Oper) (env : Env) (L : List Ent) (O : Prop) : Option (Env × List Ent × Prop) :=
  match run1q T C N dsts (cE env (lks dsts o)) [] L O o with
  | some (p :: _, _, O') => some (p :: env, L, O')
  | some ([], _, _) => none
  | none => match o.guard with
    | some _ => none
    | none => if isW o.op then (match writeOp T (cE env (lks dsts o)) L o.op o.dst with
      | some (c', L', q) => (match o.dst with
        | some d => if Nat.ble N d then none else (match c' with | p :: _ => some (p :: env, L', q.and O) | [] => none)
        | none => some (env, L', q.and O))
      | none => none) else none
def phe (T : Tab) (C : Calls') (N : Nat) (dsts : List (Option Nat)) (l : List Oper) : List Nat → Env → List Ent → Prop → Option (Env × List Ent × Prop)
  | [], env, L, O => some (env, L, O)
  | k :: r, env, L, O => match nth l k with
    | some o => (match phe1 T C N dsts o env L O with
      | some (env', L', O') => phe T C N dsts l r env' L' O'
      | none => none)
    | none => none

/-- What is told of one operation of the run. -/
structure Rec where
  k : Nat
  o : Oper
  c : Env
  p : Option (Nat × B)
  L : List Ent
  L2 : List Ent
  W : Bool

/-- It does what is told. -/
def Rec.Ev (T : Tab) (C : Calls') (N : Nat) (dsts : List (Option Nat)) (r : Rec) : Prop :=
  (r.W = false ∧ r.L2 = r.L ∧ ∃ p c' gs' O O', r.p = some p ∧ run1q T C N dsts r.c [] r.L O r.o = some (p :: c', gs', O') ∧ O') ∨
  (r.W = true ∧ isW r.o.op = true ∧ r.o.guard = none ∧ ∃ c' q, writeOp T r.c r.L r.o.op r.o.dst = some (c', r.L2, q) ∧ q.out ∧ (∀ d, r.o.dst = some d → d < N ∧ ∃ p c'', c' = p :: c'' ∧ r.p = some p) ∧ (r.o.dst = none → r.p = none))

/-- What stands in a temporary ahead of the place n. -/
def KnB (tr : List Rec) (env : Env) (bef : Nat → Prop) (t : Nat) (b : B) : Prop :=
  (∃ r ∈ tr, bef r.k ∧ r.p = some (t, b)) ∨ ((∀ r ∈ tr, bef r.k → ∀ b', r.p ≠ some (t, b')) ∧ look t env = some b)
/-- What the memory is ahead of the place n. -/
def LaB (tr : List Rec) (L : List Ent) (bef : Nat → Prop) (Lc : List Ent) : Prop :=
  (Lc = L ∧ ∀ r ∈ tr, r.W = true → ¬ bef r.k) ∨ (∃ r ∈ tr, r.W = true ∧ bef r.k ∧ Lc = r.L2 ∧ ∀ r' ∈ tr, r'.W = true → r.k < r'.k → ¬ bef r'.k)

theorem run1q_shape {dsts : List (Option Nat)} {c c' : Env} {gs' : List Nat} {O O' : Prop} {o : Oper} {p : Nat × B} (h : run1q T C N dsts c [] L O o = some (p :: c', gs', O')) :
    o.dst = some p.1 ∧ (O' → O) ∧ ∀ g, elemN g gs' = true → gtmp dsts o = some g := by
  unfold run1q at h
  split at h
  · cases h
  · rename_i d hdst
    split at h
    · rename_i hgd
      split at h
      · cases h
      · split at h
        · simp only [Option.some.injEq, Prod.mk.injEq, List.cons.injEq] at h
          obtain ⟨⟨rfl, rfl⟩, rfl, rfl⟩ := h
          exact ⟨hdst, id, fun g hg => by cases hg⟩
        · split at h
          · simp only [Option.some.injEq, Prod.mk.injEq, List.cons.injEq] at h
            obtain ⟨⟨rfl, rfl⟩, rfl, rfl⟩ := h
            exact ⟨hdst, fun h => (Ob.and_out h).2, fun g hg => by cases hg⟩
          · cases h
    · rename_i j wb hgd
      split at h
      · rename_i tc hj
        split at h
        · cases h
        · split at h
          · split at h
            · simp only [Option.some.injEq, Prod.mk.injEq, List.cons.injEq] at h
              obtain ⟨⟨rfl, rfl⟩, rfl, rfl⟩ := h
              refine ⟨hdst, fun h => (Ob.and_out h).2, fun g hg => ?_⟩
              simp only [elemN, Bool.or_false] at hg
              have := Nat.eq_of_beq_eq_true hg
              subst this
              simp only [gtmp, hgd, hj]
            · cases h
          · cases h
      · cases h

theorem phe1_rec {dsts : List (Option Nat)} {o : Oper} {k : Nat} {env' : Env} {L' : List Ent} {O O' : Prop} (h : phe1 T C N dsts o env L O = some (env', L', O')) (hO : O') :
    ∃ r : Rec, r.k = k ∧ r.o = o ∧ r.c = cE env (lks dsts o) ∧ r.L = L ∧ r.L2 = L' ∧ r.Ev T C N dsts ∧ (∀ p, r.p = some p → o.dst = some p.1) ∧ (match r.p with | some p => env' = p :: env | none => env' = env) ∧ (r.W = false → r.L2 = r.L) ∧ O := by
  unfold phe1 at h
  split at h
  · rename_i p c' gs' O1 hq
    simp only [Option.some.injEq, Prod.mk.injEq] at h
    obtain ⟨rfl, rfl, rfl⟩ := h
    obtain ⟨h1, h2, _⟩ := run1q_shape hq
    exact ⟨⟨k, o, _, some p, L, L, false⟩, rfl, rfl, rfl, rfl, rfl, .inl ⟨rfl, rfl, p, c', gs', O, O1, rfl, hq, hO⟩, fun p' hp => by cases hp; exact h1, rfl, fun _ => rfl, h2 hO⟩
  · cases h
  · split at h
    · cases h
    · rename_i hgd
      split at h
      · rename_i hW
        split at h
        · rename_i c' L1 q hw
          split at h
          · rename_i d hdst
            split at h
            · cases h
            · rename_i hN
              split at h
              · rename_i p c''
                simp only [Option.some.injEq, Prod.mk.injEq] at h
                obtain ⟨rfl, rfl, rfl⟩ := h
                have hp : d = p.1 := by
                  rcases writeOp_sub (e := cE env (lks dsts o)) (fun t b h => h) hw with ⟨d', x, e1, e2, _⟩ | ⟨e1, _⟩
                  · rw [hdst] at e1
                    simp only [Option.some.injEq] at e1
                    simp only [List.cons.injEq] at e2
                    rw [e1, e2.1]
                  · rw [hdst] at e1; cases e1
                have hdN : d < N := Nat.lt_of_not_le fun hle => hN (Nat.ble_eq_true_of_le hle)
                obtain ⟨q1, q2⟩ := Ob.and_out hO
                exact ⟨⟨k, o, _, some p, L, _, true⟩, rfl, rfl, rfl, rfl, rfl, .inr ⟨rfl, hW, hgd, _, q, hw, q1, (fun d' hd' => by rw [hdst] at hd'; cases hd'; exact ⟨hdN, p, c'', rfl, rfl⟩), fun hn => by rw [hdst] at hn; cases hn⟩, fun p' hp' => by cases hp'; rw [hdst, hp], rfl, fun hf => (by cases hf), q2⟩
              · cases h
          · rename_i hdst
            simp only [Option.some.injEq, Prod.mk.injEq] at h
            obtain ⟨rfl, rfl, rfl⟩ := h
            obtain ⟨q1, q2⟩ := Ob.and_out hO
            exact ⟨⟨k, o, _, none, L, _, true⟩, rfl, rfl, rfl, rfl, rfl, .inr ⟨rfl, hW, hgd, _, q, hw, q1, (fun d' hd' => by rw [hdst] at hd'; cases hd'), fun _ => rfl⟩, fun p' hp' => (by cases hp'), rfl, fun hf => (by cases hf), q2⟩
        · cases h
      · cases h

def incB : List Nat → Bool
  | [] => true
  | k :: r => (match r with | [] => true | j :: _ => Nat.blt k j) && incB r
theorem inc_lt : ∀ {k : Nat} {r : List Nat}, incB (k :: r) = true → ∀ j ∈ r, k < j
  | k, [], _, j, hj => by cases hj
  | k, i :: r, h, j, hj => by
    simp only [incB, Bool.and_eq_true] at h
    have h1 : k < i := by have := h.1; simp only [Nat.blt_eq] at this; exact this
    rcases List.mem_cons.1 hj with rfl | hj
    · exact h1
    · exact Nat.lt_trans h1 (inc_lt (by simp only [incB, Bool.and_eq_true]; exact h.2) j hj)

/-- The run, operation by operation. -/
theorem phe_tr {dsts : List (Option Nat)} {l : List Oper} : ∀ (H : List Nat) {env env' : Env} {L L' : List Ent} {O O' : Prop}, phe T C N dsts l H env L O = some (env', L', O') → O' → incB H = true →
    ∃ tr : List Rec, O ∧ (∀ k, k ∈ H ↔ ∃ r ∈ tr, r.k = k) ∧ (∀ r ∈ tr, ∀ r' ∈ tr, r.k = r'.k → r = r') ∧ (∀ r ∈ tr, nth l r.k = some r.o ∧ r.Ev T C N dsts ∧ (∀ p, r.p = some p → r.o.dst = some p.1) ∧ (∀ t b, look t r.c = some b → t ∈ lks dsts r.o ∧ KnB tr env (· < r.k) t b) ∧ LaB tr L (· < r.k) r.L) ∧
      (∀ t b, look t env' = some b → KnB tr env (fun _ => True) t b) ∧ LaB tr L (fun _ => True) L'
  | [], env, env', L, L', O, O', h, hO, _ => by
    simp only [phe, Option.some.injEq, Prod.mk.injEq] at h
    obtain ⟨rfl, rfl, rfl⟩ := h
    exact ⟨[], hO, by simp, by simp, by simp, fun t b h => .inr ⟨by simp, h⟩, .inl ⟨rfl, by simp⟩⟩
  | k :: H, env, env', L, L', O, O', h, hO, hi => by
    unfold phe at h
    split at h
    · rename_i o ho
      split at h
      · rename_i env1 L1 O1 h1
        have hi' : incB H = true := by simp only [incB, Bool.and_eq_true] at hi; exact hi.2
        have hlt := inc_lt hi
        obtain ⟨tr, hO1, t1, t2, t3, t4, t5⟩ := phe_tr H h hO hi'
        obtain ⟨r, r1, r2, r3, r4, r5, r6, r7, r8, r9, r10⟩ := phe1_rec (k := k) h1 hO1
        subst r1
        have hne : ∀ r' ∈ tr, r.k < r'.k := fun r' hr' => hlt _ ((t1 _).2 ⟨r', hr', rfl⟩)
        -- what was known behind the first one
        have kn : ∀ (bef : Nat → Prop), bef r.k → ∀ t b, KnB tr env1 bef t b → KnB (r :: tr) env bef t b := by
          intro bef hb t b hk
          rcases hk with ⟨r', m1, m2, m3⟩ | ⟨m1, m2⟩
          · exact .inl ⟨r', by simp [m1], m2, m3⟩
          · cases hp : r.p with
            | none =>
              rw [hp] at r8
              subst r8
              refine .inr ⟨fun r' hr' hb' b' => ?_, m2⟩
              rcases List.mem_cons.1 hr' with rfl | hr'
              · rw [hp]; simp
              · exact m1 r' hr' hb' b'
            | some p =>
              rw [hp] at r8
              subst r8
              obtain ⟨d, x⟩ := p
              by_cases e : d = t
              · subst e
                rw [look_cons_eq] at m2
                cases m2
                exact .inl ⟨r, by simp, hb, hp⟩
              · rw [look_cons_ne e] at m2
                refine .inr ⟨fun r' hr' hb' b' => ?_, m2⟩
                rcases List.mem_cons.1 hr' with rfl | hr'
                · rw [hp]
                  intro h
                  cases h
                  exact e rfl
                · exact m1 r' hr' hb' b'
        have la : ∀ (bef : Nat → Prop), bef r.k → ∀ Lc, LaB tr L1 bef Lc → LaB (r :: tr) L bef Lc := by
          intro bef hb Lc hk
          rcases hk with ⟨m1, m2⟩ | ⟨r', m1, m2, m3, m4, m5⟩
          · cases hW : r.W with
            | true =>
              refine .inr ⟨r, by simp, hW, hb, by rw [m1, r5], fun r' hr' hw' hlt' => ?_⟩
              rcases List.mem_cons.1 hr' with rfl | hr'
              · exact absurd hlt' (Nat.lt_irrefl _)
              · exact m2 r' hr' hw'
            | false =>
              refine .inl ⟨by rw [m1, ← r5, r9 hW, r4], fun r' hr' hw' => ?_⟩
              rcases List.mem_cons.1 hr' with rfl | hr'
              · rw [hW] at hw'; cases hw'
              · exact m2 r' hr' hw'
          · refine .inr ⟨r', by simp [m1], m2, m3, m4, fun r'' hr'' hw'' hlt' => ?_⟩
            rcases List.mem_cons.1 hr'' with rfl | hr''
            · have := hne r' m1
              omega
            · exact m5 r'' hr'' hw'' hlt'
        refine ⟨r :: tr, r10, fun j => ?_, fun x hx y hy hxy => ?_, fun x hx => ?_, fun t b ht => kn _ trivial t b (t4 t b ht), la _ trivial _ t5⟩
        · simp only [List.mem_cons, exists_eq_or_imp, t1 j]
          constructor
          · rintro (h | h)
            · exact .inl h.symm
            · exact .inr h
          · rintro (h | h)
            · exact .inl h.symm
            · exact .inr h
        · rcases List.mem_cons.1 hx with e1 | hx' <;> rcases List.mem_cons.1 hy with e2 | hy'
          · rw [e1, e2]
          · have := hne y hy'; rw [e1] at hxy; omega
          · have := hne x hx'; rw [e2] at hxy; omega
          · exact t2 x hx' y hy' hxy
        · rcases List.mem_cons.1 hx with rfl | hx
          · refine ⟨by rw [r2]; exact ho, r6, by rw [r2]; exact r7, fun t b ht => ?_, ?_⟩
            · rw [r3] at ht
              obtain ⟨q1, q2⟩ := cE_look ht
              refine ⟨by rw [r2]; exact q1, .inr ⟨fun r' hr' hb b' => ?_, q2⟩⟩
              rcases List.mem_cons.1 hr' with rfl | hr'
              · exact absurd hb (Nat.lt_irrefl _)
              · have := hne r' hr'; omega
            · rw [r4]
              refine .inl ⟨rfl, fun r' hr' _ hb => ?_⟩
              rcases List.mem_cons.1 hr' with rfl | hr'
              · exact absurd hb (Nat.lt_irrefl _)
              · have := hne r' hr'; omega
          · obtain ⟨q1, q2, q3, q4, q5⟩ := t3 x hx
            exact ⟨q1, q2, q3, fun t b ht => ⟨(q4 t b ht).1, kn (· < x.k) (hne x hx) t b (q4 t b ht).2⟩, la (· < x.k) (hne x hx) _ q5⟩
      · cases h
    · cases h

end Go.CE

/- A small program logic, twenty-eighth text: regions that draw their order: the theorem (no condition: for any program whose types the table tells). -/
namespace Go.CE
open Go.RowKit

variable {P : Program} {T : Tab} {w0 w : World} {pins : Pins} {N : Nat} {env : Env} {gs : List Nat} {L : List Ent} {β : Nat → Nat} {a : Act} {C : Calls'} {ds : List Deferred}

def pairB (T : Tab) (ms : List Nat) (dsts : List (Option Nat)) (k : Nat) (o : Oper) (j : Nat) (oj : Oper) : Bool :=
  (match oj.dst with
   | some t => (Nat.beq k j || (match o.dst with | some d => !(Nat.beq d t) | none => true)) &&
      (!(elemN t (lks dsts o)) || (Nat.blt j k && anc ms k j) || (Nat.blt k j && anc ms j k)) &&
      (match gtmp dsts o with | some g => !(Nat.beq g t) || (Nat.blt j k && anc ms k j) | none => true)
   | none => true) &&
  (!(isW oj.op) || memless T o.op || Nat.beq k j || (Nat.blt j k && anc ms k j) || (Nat.blt k j && anc ms j k))
def allB (c : Nat → Bool) : List Nat → Bool
  | [] => true
  | k :: r => c k && allB c r
theorem allB_mem {c : Nat → Bool} : ∀ {H : List Nat}, allB c H = true → ∀ k ∈ H, c k = true
  | [], _, k, hk => by cases hk
  | j :: r, h, k, hk => by
    simp only [allB, Bool.and_eq_true] at h
    rcases List.mem_cons.1 hk with rfl | hk
    · exact h.1
    · exact allB_mem h.2 k hk
def closedB (l : List Oper) (ls : List Bool) : Bool := tyB.allR (fun k => !(ls.getD k false) || (match nth l k with | some o => allB (fun i => ls.getD i false) (bnd o) | none => true)) l.length
def chkB (T : Tab) (ms : List Nat) (dsts : List (Option Nat)) (l : List Oper) (ls : List Bool) (H : List Nat) : Bool :=
  Nat.beq ls.length l.length && incB H && closedB l ls &&
  allB (fun k => !(ls.getD k true) && (match nth l k with
    | some o => allB (fun i => ls.getD i false || (elemN i H && Nat.blt i k)) (bnd o) && allB (fun j => match nth l j with | some oj => pairB T ms dsts k o j oj | none => false) H
    | none => false)) H &&
  tyB.allR (fun i => ls.getD i false || elemN i H || allB (fun k => anc ms i k) H) l.length
def chk (T : Tab) (l : List Oper) (ls : List Bool) (H : List Nat) : Bool := chkB T (masksA l []) (dstsOf l) l ls H
def marks : List Bool → List Nat → List Bool
  | ls, [] => ls
  | ls, k :: r => marks (ls.set k true) r

theorem getD_set {ls : List Bool} {i j : Nat} (hi : i < ls.length) : (ls.set i true).getD j false = true ↔ j = i ∨ ls.getD j false = true := by
  simp only [List.getD_eq_getElem?_getD]
  by_cases e : j = i
  · subst e; simp [hi]
  · rw [List.getElem?_set_ne (Ne.symm e)]; simp [e]
theorem marks_len : ∀ (H : List Nat) (ls : List Bool), (marks ls H).length = ls.length
  | [], _ => rfl
  | k :: r, ls => by rw [marks, marks_len r]; simp
theorem marks_get : ∀ (H : List Nat) (ls : List Bool) (j : Nat), (∀ k ∈ H, k < ls.length) → ((marks ls H).getD j false = true ↔ j ∈ H ∨ ls.getD j false = true)
  | [], ls, j, _ => by simp [marks]
  | k :: r, ls, j, h => by
    rw [marks, marks_get r (ls.set k true) j (by simpa using fun i hi => h i (by simp [hi])), getD_set (h k (by simp))]
    simp only [List.mem_cons]
    constructor
    · rintro (h | h | h)
      · exact .inl (.inr h)
      · exact .inl (.inl h)
      · exact .inr h
    · rintro ((h | h) | h)
      · exact .inr (.inl h)
      · exact .inl h
      · exact .inr (.inr h)
theorem bools_ext {l m : List Bool} (hl : l.length = m.length) (h : ∀ j, l.getD j false = true ↔ m.getD j false = true) : l = m := by
  refine List.ext_getElem hl fun i h1 h2 => ?_
  have := h i
  simp only [List.getD_eq_getElem?_getD, List.getElem?_eq_getElem h1, List.getElem?_eq_getElem h2, Option.getD_some] at this
  cases ha : l[i] <;> cases hb : m[i] <;> simp_all

theorem min_ex {p : Nat → Prop} {n : Nat} (h : p n) : ∃ k, p k ∧ ∀ j, j < k → ¬ p j := by
  induction n using Nat.strongRecOn with
  | _ n ih =>
    by_cases e : ∃ j, j < n ∧ p j
    · obtain ⟨j, h1, h2⟩ := e
      exact ih j h1 h2
    · exact ⟨n, h, fun j hj hp => e ⟨j, hj, hp⟩⟩

/-- Guards' temporaries that are still asked for; each of them is known. -/
def gsE : Env → List Nat
  | [] => []
  | (_, .g tc _ _) :: r => tc :: gsE r
  | (_, .d _) :: r => gsE r
def gclB (env : Env) : Env → Bool
  | [] => true
  | (_, .g tc _ _) :: r => (match look tc env with | some (.d (.v (.bool _))) => true | _ => false) && gclB env r
  | (_, .d _) :: r => gclB env r
theorem gclB_ok {env : Env} : ∀ {e : Env}, gclB env e = true → ∀ t tc b x, look t e = some (.g tc b x) → elemN tc (gsE e) = true ∧ ∃ c, look tc env = some (.d (.v (.bool c)))
  | [], _, _, _, _, _, h => by cases h
  | (u, .d y) :: r, hg, t, tc, b, x, h => by
    by_cases e : u = t
    · subst e; rw [look_cons_eq] at h; cases h
    · rw [look_cons_ne e] at h
      exact gclB_ok (e := r) hg t tc b x h
  | (u, .g tc' b' y) :: r, hg, t, tc, b, x, h => by
    simp only [gclB, Bool.and_eq_true] at hg
    by_cases e : u = t
    · subst e
      rw [look_cons_eq] at h
      cases h
      refine ⟨by simp [gsE, elemN], ?_⟩
      have := hg.1
      split at this
      · rename_i c hc; exact ⟨c, hc⟩
      · cases this
    · rw [look_cons_ne e] at h
      obtain ⟨h1, h2⟩ := gclB_ok hg.2 t tc b x h
      exact ⟨by simp only [gsE, elemN, Bool.or_eq_true]; exact .inr h1, h2⟩
theorem SS.weaken {env' : Env} (h : SS T w0 pins N env gs L β a.tmps w) (hs : SubE env' env) (hg : gclB env' env' = true) : SS T w0 pins N env' (gsE env') L β a.tmps w := by
  refine ⟨h.n, fun t b ht => ?_, h.mem, h.keep, h.new, h.pin, h.good⟩
  have h1 := h.tmp t b (hs t b ht)
  cases b with
  | d x => exact h1
  | g tc b x =>
    obtain ⟨k1, c, k2, k3⟩ := h1
    obtain ⟨g1, c', g2⟩ := gclB_ok hg t tc b x ht
    refine ⟨g1, c', g2, ?_⟩
    have := hs _ _ g2
    rw [k2] at this
    cases this
    exact k3

theorem isW_memless {op : Op} (h : isW op = true) : memless T op = false := by
  cases op <;> first | rfl | (simp [isW] at h)

theorem laB_eq {tr : List Rec} {p q : Nat → Prop} {L1 L2 : List Ent} (hu : ∀ r ∈ tr, ∀ r' ∈ tr, r.k = r'.k → r = r') (h : ∀ r ∈ tr, r.W = true → (p r.k ↔ q r.k)) (h1 : LaB tr L p L1) (h2 : LaB tr L q L2) : L1 = L2 := by
  rcases h1 with ⟨a1, a2⟩ | ⟨r, a1, a2, a3, a4, a5⟩ <;> rcases h2 with ⟨b1, b2⟩ | ⟨s, b1, b2, b3, b4, b5⟩
  · rw [a1, b1]
  · exact absurd ((h s b1 b2).2 b3) (a2 s b1 b2)
  · exact absurd ((h r a1 a2).1 a3) (b2 r a1 a2)
  · have : r = s := by
      refine hu r a1 s b1 ?_
      rcases Nat.lt_trichotomy r.k s.k with hlt | he | hlt
      · exact absurd ((h s b1 b2).2 b3) (a5 s b1 b2 hlt)
      · exact he
      · exact absurd ((h r a1 a2).1 a3) (b5 r a1 a2 hlt)
    rw [a4, b4, this]

theorem elemN_mem {n : Nat} {l : List Nat} : elemN n l = true ↔ n ∈ l := elemN_iff

section
variable {l : List Oper} {ls : List Bool} {H : List Nat} {Q : Exit → Act → World → Prop}

structure Chk (T : Tab) (l : List Oper) (ls : List Bool) (H : List Nat) : Prop where
  len : ls.length = l.length
  inc : incB H = true
  closed : Closed l ls
  un : ∀ k ∈ H, k < l.length ∧ ls.getD k false = false
  edge : ∀ k ∈ H, ∀ o, nth l k = some o → ∀ i ∈ bnd o, ls.getD i false = true ∨ (i ∈ H ∧ i < k)
  pair : ∀ k ∈ H, ∀ o, nth l k = some o → ∀ j ∈ H, ∀ oj, nth l j = some oj → pairB T (masksA l []) (dstsOf l) k o j oj = true
  rest : ∀ i, i < l.length → ls.getD i false = true ∨ i ∈ H ∨ ∀ k ∈ H, anc (masksA l []) i k = true

theorem chk_ok (h : chk T l ls H = true) : Chk T l ls H := by
  simp only [chk, chkB, Bool.and_eq_true] at h
  obtain ⟨⟨⟨⟨h1, h2⟩, h3⟩, h4⟩, h5⟩ := h
  have hlen := Nat.eq_of_beq_eq_true h1
  have key := fun k hk => allB_mem h4 k hk
  refine ⟨hlen, h2, fun k o hk hl j hj => ?_, fun k hk => ?_, fun k hk o ho i hi => ?_, fun k hk o ho j hj oj hoj => ?_, fun i hi => ?_⟩
  · have hkl : k < l.length := (List.getElem?_eq_some_iff.1 hk).1
    have := allR_ok h3 k hkl
    rw [nth_get, hk] at this
    simp only [hl, Bool.not_true, Bool.false_or] at this
    exact allB_mem this j hj
  · have := key k hk
    simp only [Bool.and_eq_true, Bool.not_eq_true'] at this
    obtain ⟨g1, g2⟩ := this
    split at g2
    · rename_i o ho
      exact ⟨nth_lt _ _ _ ho, getD_both' g1⟩
    · cases g2
  · have := key k hk
    simp only [Bool.and_eq_true, ho] at this
    have := allB_mem this.2.1 i hi
    simp only [Bool.or_eq_true, Bool.and_eq_true, Nat.blt_eq] at this
    rcases this with h | ⟨h, h'⟩
    · exact .inl h
    · exact .inr ⟨elemN_mem.1 h, h'⟩
  · have := key k hk
    simp only [Bool.and_eq_true, ho] at this
    have := allB_mem this.2.2 j hj
    simpa only [hoj] using this
  · have := allR_ok h5 i hi
    simp only [Bool.or_eq_true] at this
    rcases this with (h | h) | h
    · exact .inl h
    · exact .inr (.inl (elemN_mem.1 h))
    · exact .inr (.inr fun k hk => allB_mem h k hk)
where
  getD_both' {ls : List Bool} {i : Nat} (h : ls.getD i true = false) : ls.getD i false = false := by
    simp only [List.getD_eq_getElem?_getD] at h ⊢
    cases hi : ls[i]? with
    | none => simp [hi] at h
    | some b => simp [hi] at h ⊢; exact h

/-- What holds while the run's operations come up in some order. -/
structure Inv (T : Tab) (w0 : World) (pins : Pins) (N : Nat) (l : List Oper) (tr : List Rec) (env0 : Env) (L0 : List Ent) (ls : List Bool) (e : Env) (gs : List Nat) (Lc : List Ent) (β : Nat → Nat) (a : Act) (w : World) : Prop where
  ss : SS T w0 pins N e gs Lc β a.tmps w
  kn : ∀ t b, KnB tr env0 (fun i => ls.getD i false = true) t b → look t e = some b
  la : LaB tr L0 (fun i => ls.getD i false = true) Lc
  gs : ∀ g, elemN g gs = true → ∃ r ∈ tr, ls.getD r.k false = true ∧ gtmp (dstsOf l) r.o = some g

theorem any_run0 (K : Kit P T C) (hc : Chk T l ls H) {tr : List Rec} {env' : Env} {L' : List Ent} (t1 : ∀ k, k ∈ H ↔ ∃ r ∈ tr, r.k = k) (t2 : ∀ r ∈ tr, ∀ r' ∈ tr, r.k = r'.k → r = r')
    (t3 : ∀ r ∈ tr, nth l r.k = some r.o ∧ r.Ev T C N (dstsOf l) ∧ (∀ p, r.p = some p → r.o.dst = some p.1) ∧ (∀ t b, look t r.c = some b → t ∈ lks (dstsOf l) r.o ∧ KnB tr env (· < r.k) t b) ∧ LaB tr L (· < r.k) r.L)
    (t4 : ∀ t b, look t env' = some b → KnB tr env (fun _ => True) t b) (t5 : LaB tr L (fun _ => True) L') (hg : gclB env' env' = true)
    (hk : ∀ β' a' w', SS T w0 pins N env' (gsE env') L' β' a'.tmps w' → a'.defers = ds → AW P l Q (marks ls H) a' w') :
    ∀ (n : Nat) (ls' : List Bool) (e : Env) (gs : List Nat) (Lc : List Ent) (β : Nat → Nat) (a : Act) (w : World), falses ls' = n → ls'.length = l.length → Closed l ls' → (∀ i, ls.getD i false = true → ls'.getD i false = true) → (∀ i, ls'.getD i false = true → ls.getD i false = true ∨ i ∈ H) →
      Inv T w0 pins N l tr env L ls' e gs Lc β a w → a.defers = ds → AW P l Q ls' a w := by
  intro n
  induction n with
  | zero =>
    intro ls' e gs Lc β a w hn hl hcl h1 h2 hI hd
    exact fin ls' e gs Lc β a w hl h2 h1 hI hd fun k hk => by
      have : k < ls'.length := by rw [hl]; exact (hc.un k hk).1
      cases hb : ls'.getD k false with
      | true => rfl
      | false =>
        have := falses_set (i := k) (ls := ls') (by
          simp only [List.getD_eq_getElem?_getD, List.getElem?_eq_getElem this, Option.getD_some] at hb ⊢; exact hb)
        omega
  | succ n ih =>
    intro ls' e gs Lc β a w hn hl hcl h1 h2 hI hd
    by_cases hall : ∀ k ∈ H, ls'.getD k false = true
    · exact fin ls' e gs Lc β a w hl h2 h1 hI hd hall
    have hex : ∃ k, k ∈ H ∧ ls'.getD k false = false := by
      apply Classical.byContradiction
      intro hno
      exact hall fun k hk => by
        cases hb : ls'.getD k false with
        | true => rfl
        | false => exact absurd ⟨k, hk, hb⟩ hno
    obtain ⟨k0, hk0⟩ := hex
    obtain ⟨k1, ⟨k1H, k1u⟩, kmin⟩ := min_ex (p := fun k => k ∈ H ∧ ls'.getD k false = false) hk0
    have unl : ∀ k, k < l.length → ls'.getD k false = false → ls'.getD k true = false := fun k hk hu => by
      have : k < ls'.length := by rw [hl]; exact hk
      simp only [List.getD_eq_getElem?_getD, List.getElem?_eq_getElem this, Option.getD_some] at hu ⊢
      exact hu
    refine AW.step ⟨k1, ready_iff.2 ⟨unl k1 (hc.un k1 k1H).1 k1u, ?_⟩⟩ fun i hi => ?_
    · obtain ⟨r, hr, rfl⟩ := (t1 k1).1 k1H
      refine ⟨r.o, by rw [← nth_get]; exact (t3 r hr).1, fun j hj => ?_⟩
      rcases hc.edge _ k1H _ (t3 r hr).1 j hj with h | ⟨hjH, hjk⟩
      · exact h1 j h
      · cases hb : ls'.getD j false with
        | true => rfl
        | false => exact absurd ⟨hjH, hb⟩ (kmin j hjk)
    obtain ⟨hiu, o, hio, hib⟩ := ready_iff.1 hi
    have hil : i < l.length := (List.getElem?_eq_some_iff.1 hio).1
    have hiu' : ls'.getD i false = false := by
      have : i < ls'.length := by rw [hl]; exact hil
      simp only [List.getD_eq_getElem?_getD, List.getElem?_eq_getElem this, Option.getD_some] at hiu ⊢
      exact hiu
    have hiH : i ∈ H := by
      rcases hc.rest i hil with h | h | h
      · rw [h1 i h] at hiu'; cases hiu'
      · exact h
      · have := anc_ready hcl i o k1 hio hib (h k1 k1H)
        rw [k1u] at this; cases this
    obtain ⟨r, hr, rfl⟩ := (t1 i).1 hiH
    obtain ⟨q1, q2, q3, q4, q5⟩ := t3 r hr
    have ho : o = r.o := by
      rw [nth_get, hio] at q1
      exact Option.some.inj q1
    subst ho
    -- pairs
    have hpair : ∀ r' ∈ tr, pairB T (masksA l []) (dstsOf l) r.k r.o r'.k r'.o = true ∧ pairB T (masksA l []) (dstsOf l) r'.k r'.o r.k r.o = true := fun r' hr' =>
      ⟨hc.pair _ hiH _ q1 _ ((t1 _).2 ⟨r', hr', rfl⟩) _ (t3 r' hr').1, hc.pair _ ((t1 _).2 ⟨r', hr', rfl⟩) _ (t3 r' hr').1 _ hiH _ q1⟩
    have hpd : ∀ r' ∈ tr, ∀ t b, r'.p = some (t, b) → (r.k = r'.k ∨ r.o.dst ≠ some t) ∧ (t ∈ lks (dstsOf l) r.o → (r'.k < r.k ∧ anc (masksA l []) r.k r'.k = true) ∨ (r.k < r'.k ∧ anc (masksA l []) r'.k r.k = true)) := by
      intro r' hr' t b hp
      have hd' := (t3 r' hr').2.2.1 _ hp
      have := (hpair r' hr').1
      simp only [pairB, hd', Bool.and_eq_true] at this
      obtain ⟨⟨⟨g1, g2⟩, _⟩, _⟩ := this
      constructor
      · simp only [Bool.or_eq_true] at g1
        rcases g1 with g1 | g1
        · exact .inl (Nat.eq_of_beq_eq_true g1)
        · right
          intro he
          rw [he] at g1
          simp [Nat.beq_refl] at g1
      · intro ht
        simp only [elemN_mem.2 ht, Bool.not_true, Bool.false_or, Bool.or_eq_true, Bool.and_eq_true, Nat.blt_eq] at g2
        exact g2
    -- what it looks at
    have hsub : SubE r.c e := by
      intro t b ht
      obtain ⟨m1, m2⟩ := q4 t b ht
      refine hI.kn t b ?_
      rcases m2 with ⟨r', n1, n2, n3⟩ | ⟨n1, n2⟩
      · refine .inl ⟨r', n1, ?_, n3⟩
        rcases (hpd r' n1 t b n3).2 m1 with ⟨_, h⟩ | ⟨h, _⟩
        · exact anc_ready hcl _ _ _ hio hib h
        · omega
      · refine .inr ⟨fun r' hr' hl' b' hp => ?_, n2⟩
        rcases (hpd r' hr' t b' hp).2 m1 with ⟨h, _⟩ | ⟨_, h⟩
        · exact n1 r' hr' h b' hp
        · have hl' : ls'.getD r'.k false = true := hl'
          have := anc_done hcl (by rw [← nth_get]; exact (t3 r' hr').1) hl' h
          rw [hiu'] at this; cases this
    -- the memory
    have hmem : memless T r.o.op = false → r.L = Lc := by
      intro hm
      refine laB_eq t2 (fun r' hr' hW => ?_) q5 hI.la
      have hW' : isW r'.o.op = true := by
        rcases (t3 r' hr').2.1 with ⟨h, _⟩ | ⟨_, h, _⟩
        · rw [hW] at h; cases h
        · exact h
      have := (hpair r' hr').1
      simp only [pairB, Bool.and_eq_true, Bool.or_eq_true, hW', hm, Bool.not_true, Bool.false_eq_true, false_or, Nat.blt_eq] at this
      rcases this.2 with (h | ⟨h, h'⟩) | ⟨h, h'⟩
      · have h := Nat.eq_of_beq_eq_true h
        rw [← h]
        constructor
        · intro h; omega
        · intro h; rw [hiu'] at h; cases h
      · constructor
        · intro _; exact anc_ready hcl _ _ _ hio hib h'
        · intro _; exact h
      · constructor
        · intro h2; omega
        · intro h2
          have := anc_done hcl (by rw [← nth_get]; exact (t3 r' hr').1) h2 h'
          rw [hiu'] at this; cases this
    -- guards
    have hgd : ∀ d, r.o.dst = some d → elemN d gs = false := by
      intro d hd
      cases hb : elemN d gs with
      | false => rfl
      | true =>
        obtain ⟨r', n1, n2, n3⟩ := hI.gs d hb
        have := (hpair r' n1).2
        simp only [pairB, hd, n3, Bool.and_eq_true, Nat.beq_refl, Bool.not_true, Bool.false_or, Nat.blt_eq] at this
        have := anc_done hcl (by rw [← nth_get]; exact (t3 r' n1).1) n2 this.1.2.2
        rw [hiu'] at this; cases this
    -- behind it
    have hset : ∀ j, (ls'.set r.k true).getD j false = true ↔ j = r.k ∨ ls'.getD j false = true := fun j => getD_set (by rw [hl]; exact hil)
    have hcl' : Closed l (ls'.set r.k true) := by
      intro k o hk hd j hj
      rcases (hset k).1 hd with rfl | hd
      · rw [hio] at hk
        cases hk
        exact (hset j).2 (.inr (hib j hj))
      · exact (hset j).2 (.inr (hcl k o hk hd j hj))
    have hkn : ∀ e', (match r.p with | some p => e' = p :: e | none => e' = e) → ∀ t b, KnB tr env (fun i => (ls'.set r.k true).getD i false = true) t b → look t e' = some b := by
      intro e' he' t b hk'
      cases hp : r.p with
      | none =>
        rw [hp] at he'
        subst he'
        refine hI.kn t b ?_
        rcases hk' with ⟨r', n1, n2, n3⟩ | ⟨n1, n2⟩
        · rcases (hset _).1 n2 with h | h
          · rw [t2 r' n1 r hr h, hp] at n3; cases n3
          · exact .inl ⟨r', n1, h, n3⟩
        · exact .inr ⟨fun r' hr' hl' => n1 r' hr' ((hset _).2 (.inr hl')), n2⟩
      | some p =>
        rw [hp] at he'
        subst he'
        obtain ⟨d, x⟩ := p
        by_cases hdt : d = t
        · subst hdt
          rw [look_cons_eq]
          rcases hk' with ⟨r', n1, n2, n3⟩ | ⟨n1, n2⟩
          · rcases (hpd r' n1 d b n3).1 with h | h
            · rw [← t2 r hr r' n1 h, hp] at n3
              cases n3
              rfl
            · exact absurd (q3 _ hp) h
          · exact absurd hp (n1 r hr ((hset _).2 (.inl rfl)) x)
        · rw [look_cons_ne hdt]
          refine hI.kn t b ?_
          rcases hk' with ⟨r', n1, n2, n3⟩ | ⟨n1, n2⟩
          · rcases (hset _).1 n2 with h | h
            · rw [t2 r' n1 r hr h, hp] at n3
              cases n3
              exact absurd rfl hdt
            · exact .inl ⟨r', n1, h, n3⟩
          · exact .inr ⟨fun r' hr' hl' => n1 r' hr' ((hset _).2 (.inr hl')), n2⟩
    have hfn : falses (ls'.set r.k true) = n := by
      have := falses_set hiu
      omega
    have go : ∀ e' gs' Lc' β' a' w', Inv T w0 pins N l tr env L (ls'.set r.k true) e' gs' Lc' β' a' w' → a'.defers = ds → AW P l Q (ls'.set r.k true) a' w' := fun e' gs' Lc' β' a' w' hI' hd' =>
      ih (ls'.set r.k true) e' gs' Lc' β' a' w' hfn (by simpa using hl) hcl' (fun i h => (hset i).2 (.inr (h1 i h))) (fun i h => by
        rcases (hset i).1 h with rfl | h
        · exact .inr hiH
        · exact h2 i h) hI' hd'
    have hgs : ∀ gs2 gs', (∀ g, elemN g gs2 = true → elemN g gs = true ∨ elemN g gs' = true) → (∀ g, elemN g gs' = true → gtmp (dstsOf l) r.o = some g) → ∀ g, elemN g gs2 = true → ∃ r' ∈ tr, (ls'.set r.k true).getD r'.k false = true ∧ gtmp (dstsOf l) r'.o = some g := by
      intro gs2 gs' m1 m2 g hg
      rcases m1 g hg with h | h
      · obtain ⟨r', n1, n2, n3⟩ := hI.gs g h
        exact ⟨r', n1, (hset _).2 (.inr n2), n3⟩
      · exact ⟨r, hr, (hset _).2 (.inl rfl), m2 g h⟩
    unfold wpOp
    have hio' : l.toArray[r.k]? = some r.o := by simpa using hio
    simp only [hio']
    rcases q2 with ⟨hW, hL2, p, c', gs', O, O', hp, hrun, hO⟩ | ⟨hW, hWo, hgn, c', q, hw, hq, hd1, hd2⟩
    · -- it does not write
      have hrun : run1q T C N (dstsOf l) r.c [] Lc O r.o = some (p :: c', gs', O') := by
        cases hm : memless T r.o.op with
        | true => rw [← hrun]; exact memless_run hm
        | false => rw [← hmem hm]; exact hrun
      have hla : LaB tr L (fun i => (ls'.set r.k true).getD i false = true) Lc := by
        rcases hI.la with ⟨m1, m2⟩ | ⟨r', m1, m2, m3, m4, m5⟩
        · refine .inl ⟨m1, fun r' hr' hW' h => ?_⟩
          rcases (hset _).1 h with h | h
          · rw [t2 r' hr' r hr h, hW] at hW'; cases hW'
          · exact m2 r' hr' hW' h
        · refine .inr ⟨r', m1, m2, (hset _).2 (.inr m3), m4, fun r'' hr'' hW'' hlt h => ?_⟩
          rcases (hset _).1 h with h | h
          · rw [t2 r'' hr'' r hr h, hW] at hW''; cases hW''
          · exact m5 r'' hr'' hW'' hlt h
      obtain ⟨_, hs⟩ := step_q (a := a) K.tab K.zero K.calls (dstsOf_ok l) hrun hO hsub hgd hI.ss
      have hgt := (run1q_shape hrun).2.2
      rcases hs with ⟨hwn, x, hy, gs2, hg2, hS2⟩ | ⟨hwn, gs2, hg2, hS2⟩
      · rw [if_pos hwn]
        left
        unfold Oper.wp
        rcases hy with hrn | ⟨f, args, hrn, hcl⟩
        · rw [hrn]
          exact go _ gs2 Lc β _ w ⟨hS2, hkn (p :: e) (by rw [hp]), hla, hgs gs2 gs' hg2 hgt⟩ (by rw [Act.put_defers]; exact hd)
        · rw [hrn]
          refine hcl.mono ?_
          rintro en w' ⟨rfl, hb⟩
          exact go _ gs2 Lc β _ w' ⟨hS2.below hb, hkn (p :: e) (by rw [hp]), hla, hgs gs2 gs' hg2 hgt⟩ (by rw [Act.put_defers]; exact hd)
      · rw [if_neg (by rw [hwn]; simp)]
        exact go _ gs2 Lc β _ w ⟨hS2, hkn (p :: e) (by rw [hp]), hla, hgs gs2 gs' hg2 hgt⟩ (by rw [Act.put_defers]; exact hd)
    · -- it writes
      have hwn : Region.wanted r.o (yielded l.toArray a.tmps) = true := by simp [Region.wanted, hgn]
      rw [if_pos hwn]
      left
      have hmL := hmem (isW_memless hWo)
      rw [hmL] at hw
      have hla : LaB tr L (fun i => (ls'.set r.k true).getD i false = true) r.L2 := by
        refine .inr ⟨r, hr, hW, (hset _).2 (.inl rfl), rfl, fun r' hr' hW' hlt h => ?_⟩
        rcases (hset _).1 h with h | h
        · omega
        · have hWr : isW r'.o.op = true := by
            rcases (t3 r' hr').2.1 with ⟨h, _⟩ | ⟨_, h, _⟩
            · rw [hW'] at h; cases h
            · exact h
          have := (hpair r' hr').1
          simp only [pairB, Bool.and_eq_true, Bool.or_eq_true, hWr, isW_memless (T := T) hWo, Bool.not_true, Bool.false_eq_true, false_or, Nat.blt_eq] at this
          rcases this.2 with (h' | ⟨h', _⟩) | ⟨_, h'⟩
          · have := Nat.eq_of_beq_eq_true h'; omega
          · omega
          · have := anc_done hcl (by rw [← nth_get]; exact (t3 r' hr').1) h h'
            rw [hiu'] at this; cases this
      have hgd' : ∀ d, r.o.dst = some d → elemN d gs = false ∧ d < N := fun d hd => ⟨hgd d hd, (hd1 d hd).1⟩
      have hfinal : ∃ e', (match r.p with | some p => e' = p :: e | none => e' = e) ∧ writeOp T e Lc r.o.op r.o.dst = some (e', r.L2, q) := by
        rcases writeOp_sub hsub hw with ⟨d, x, n1, n2, n3⟩ | ⟨n1, n2, n3⟩
        · obtain ⟨_, p, c'', n4, n5⟩ := hd1 d n1
          refine ⟨_, ?_, n3⟩
          rw [n5]
          rw [n2] at n4
          simp only [List.cons.injEq] at n4
          rw [n4.1]
        · exact ⟨e, by rw [hd2 n1], n3⟩
      obtain ⟨e', he', hw'⟩ := hfinal
      obtain ⟨β1, v, w1, hrn, hS1, _⟩ := writeOp_ok K.tab K.zero hw' hq hgd' hI.ss
      unfold Oper.wp
      rcases hrn with hrn | ⟨hrn, rfl⟩
      · rw [hrn]
        exact go _ gs _ β1 _ w1 ⟨hS1, hkn e' he', hla, hgs gs [] (fun g h => .inl h) (fun g h => by cases h)⟩ (by rw [Act.put_defers]; exact hd)
      · rw [hrn]
        exact go _ gs _ β1 _ w1 ⟨hS1, hkn e' he', hla, hgs gs [] (fun g h => .inl h) (fun g h => by cases h)⟩ (by rw [Act.put_defers]; exact hd)
where
  fin (ls' : List Bool) (e : Env) (gs : List Nat) (Lc : List Ent) (β : Nat → Nat) (a : Act) (w : World) (hl : ls'.length = l.length) (h2 : ∀ i, ls'.getD i false = true → ls.getD i false = true ∨ i ∈ H) (h1 : ∀ i, ls.getD i false = true → ls'.getD i false = true)
      (hI : Inv T w0 pins N l tr env L ls' e gs Lc β a w) (hd : a.defers = ds) (hall : ∀ k ∈ H, ls'.getD k false = true) : AW P l Q ls' a w := by
    have hlt : ∀ k ∈ H, k < ls.length := fun k hk => by rw [hc.len]; exact (hc.un k hk).1
    have e1 : ls' = marks ls H := bools_ext (by rw [marks_len, hl, hc.len]) fun j => by
      rw [marks_get H ls j hlt]
      constructor
      · intro h; exact (h2 j h).symm
      · rintro (h | h)
        · exact hall j h
        · exact h1 j h
    have e2 : L' = Lc := laB_eq t2 (fun r hr _ => ⟨fun _ => hall _ ((t1 _).2 ⟨r, hr, rfl⟩), fun _ => trivial⟩) t5 hI.la
    rw [e1]
    refine hk β a w ?_ hd
    rw [e2]
    refine hI.ss.weaken (fun t b ht => hI.kn t b ?_) hg
    rcases t4 t b ht with ⟨r, n1, _, n3⟩ | ⟨n1, n2⟩
    · exact .inl ⟨r, n1, hall _ ((t1 _).2 ⟨r, n1, rfl⟩), n3⟩
    · exact .inr ⟨fun r hr _ => n1 r hr trivial, n2⟩
end

end Go.CE

/- A small program logic, twenty-ninth text: regions that draw their order, as a walk takes them. -/
namespace Go.CE
open Go.RowKit

variable {P : Program} {T : Tab} {w0 w : World} {pins : Pins} {N : Nat} {env : Env} {gs : List Nat} {L : List Ent} {β : Nat → Nat} {a : Act} {C : Calls'} {ds : List Deferred}

/-- Some of a region's operations, in whatever order they come up: behind them the others. -/
theorem anyp (K : Kit P T C) {l : List Oper} {ls : List Bool} {Q : Exit → Act → World → Prop} {env' : Env} {L' : List Ent} {O' : Prop} (H : List Nat)
    (hB : chk T l ls H = true) (hS : Ste T w0 pins N ds env [] L β a w) (hr : phe T C N (dstsOf l) l H env L True = some (env', L', O')) (hO : O') (hg : gclB env' env' = true)
    (hk : ∀ β' a' w', Ste T w0 pins N ds env' (gsE env') L' β' a' w' → AW P l Q (marks ls H) a' w') : AW P l Q ls a w := by
  have hc := chk_ok hB
  obtain ⟨tr, _, t1, t2, t3, t4, t5⟩ := phe_tr H hr hO hc.inc
  have hno : ∀ r ∈ tr, ¬ ls.getD r.k false = true := fun r hr h => by
    rw [(hc.un _ ((t1 _).2 ⟨r, hr, rfl⟩)).2] at h; cases h
  refine any_run0 (ds := ds) K hc t1 t2 t3 t4 t5 hg (fun β' a' w' h1 h2 => hk β' a' w' ⟨h1, h2⟩) _ ls env [] L β a w rfl hc.len hc.closed (fun _ h => h) (fun _ h => .inl h) ⟨hS.ss, fun t b hk => ?_, .inl ⟨rfl, fun r hr _ => hno r hr⟩, fun g h => by cases h⟩ hS.df
  rcases hk with ⟨r, n1, n2, _⟩ | ⟨_, n2⟩
  · exact absurd n2 (hno r n1)
  · exact n2

theorem Ste.drawn (h : Ste T w0 pins N ds env gs L β a w) : Ste T w0 pins N ds env gs L β a { w with drawn := w.drawn + 1 } := ⟨h.ss.below ⟨rfl, rfl, rfl, Nat.le_refl _, fun _ _ => rfl⟩, h.df⟩

/-- Into a region that draws its order. -/
theorem regAp (K : Kit P T C) {id : Nat} {l : List Oper} {Q : Exit → Act → World → Prop} (hS : Ste T w0 pins N ds env gs L β a w)
    (hk : ∀ w', Ste T w0 pins N ds env gs L β a w' → AW P l Q (List.replicate l.length false) a w') : (Code.region id l.toArray true).wp P Q a w :=
  aw_region K.mixed (hk _ hS.drawn)
/-- All of a region's operations. -/
theorem regA (K : Kit P T C) {id : Nat} {l : List Oper} {Q : Exit → Act → World → Prop} {env' env2 : Env} {L' : List Ent} {O' : Prop} (ts : List Nat)
    (hB : (chk T l (List.replicate l.length false) (List.range l.length) && Nat.beq (falses (marks (List.replicate l.length false) (List.range l.length))) 0) = true)
    (hS : Ste T w0 pins N ds env [] L β a w) (hr : phe T C N (dstsOf l) l (List.range l.length) env L True = some (env', L', O')) (hg : gclB env' env' = true) (he : keepE env' ts [] = some env2) (hO : O')
    (hk : ∀ β' a' w', Ste T w0 pins N ds env2 [] L' β' a' w' → Q .normal a' w') : (Code.region id l.toArray true).wp P Q a w := by
  simp only [Bool.and_eq_true] at hB
  refine regAp K hS fun w' hS => anyp K _ hB.1 hS hr hO hg fun β a w hS => AW.done (Nat.eq_of_beq_eq_true hB.2) (by rw [marks_len]; simp) ?_
  exact hk β a w (hS.keepE he)
theorem regAS (K : Kit P T C) {id : Nat} {l : List Oper} {y : Code} {Q : Exit → Act → World → Prop} {env' env2 : Env} {L' : List Ent} {O' : Prop} (ts : List Nat)
    (hB : (chk T l (List.replicate l.length false) (List.range l.length) && Nat.beq (falses (marks (List.replicate l.length false) (List.range l.length))) 0) = true)
    (hS : Ste T w0 pins N ds env [] L β a w) (hr : phe T C N (dstsOf l) l (List.range l.length) env L True = some (env', L', O')) (hg : gclB env' env' = true) (he : keepE env' ts [] = some env2) (hO : O')
    (hk : ∀ β' a' w', Ste T w0 pins N ds env2 [] L' β' a' w' → y.wp P Q a' w') : (Code.seq (.region id l.toArray true) y).wp P Q a w :=
  wp_seq (regA K ts hB hS hr hg he hO hk)

theorem wpOp_of_list {l : List Oper} {Q : Exit → Act → World → Prop} {i : Nat} {o : Oper} {R : Act → World → Prop} (hi : nth l i = some o) (h : wpList P l.toArray (Exit.then R Q) [o] a w) : wpOp P l.toArray Q i R a w := by
  rw [nth_get] at hi
  unfold wpOp
  have hi' : l.toArray[i]? = some o := by simpa using hi
  simp only [hi']
  unfold wpList at h
  split
  · rename_i hw
    rw [if_pos hw] at h
    rcases h with h | ⟨h1, h2⟩
    · left
      unfold Oper.wp at h ⊢
      generalize (execOp a.eval o).run P w = r at *
      cases r with
      | ok n w' =>
        cases n <;> simp only [Oper.upon] at h ⊢ <;> exact h
      | halt x w' => cases x <;> simp only [Oper.upon] at h ⊢ <;> exact h
    · exact .inr ⟨h1, h2⟩
  · rename_i hw
    rw [if_neg hw] at h
    exact h

/-- A move that may come up now, and that nothing hangs on which may come up now: it is taken first. -/
theorem anym {l : List Oper} {ls : List Bool} {Q : Exit → Act → World → Prop} (hS : Ste T w0 pins N ds env gs L β a w) (i : Nat) {o : Oper} {x : Operand} {d : D} {dd : Nat} (hi : nth l i = some o) (hop : o.op = .move x) (hd : o.dst = some dd) (hg : o.guard = none) (hx : opd (lkU env) x = some d) (hdN : Nat.ble N dd = false) (hdg : elemN dd gs = false)
    (hB : (Region.noSelect l.toArray && Region.free .any l.toArray ls.toArray i && (Region.ready .any l.toArray ls.toArray).contains i) = true)
    (hQ : ∀ c a w, Q (.panic c) (a.put (some dd) (d.val T β)) w → Q (.panic c) a w)
    (hk : ∀ a', Ste T w0 pins N ds ((dd, .d d) :: env) gs L β a' w → AW P l Q (marks ls [i]) a' w) : AW P l Q ls a w := by
  simp only [Bool.and_eq_true] at hB
  obtain ⟨⟨h1, h2⟩, h3⟩ := hB
  have hrd : i ∈ Region.ready .any l.toArray ls.toArray := by simpa using h3
  have hf := falses_set (ready_iff.1 hrd).1
  obtain ⟨e1, e2⟩ := opd_ok hS.ss.lkU hx
  have hdN' : dd < N := by
    cases hb : Nat.ble N dd with
    | true => rw [hb] at hdN; cases hdN
    | false => exact Nat.lt_of_not_le fun hle => by rw [Nat.ble_eq_true_of_le hle] at hb; cases hb
  have hk' := hk (a.put (some dd) (d.val T β)) ⟨hS.ss.set hdN' hdg e2 rfl, by rw [Act.put_defers]; exact hS.df⟩
  unfold AW at hk' ⊢
  rw [hf]
  rw [nth_get] at hi
  refine wpAny_take (i := i) (oi := o) (v := d.val T β) (by simpa using hi) h1 h2 h3 (by rw [hd]; exact hQ) (.inl ⟨by simp [Region.wanted, hg], fun w => ?_⟩) ?_
  · simp only [execOp, hop, e1]; rfl
  · rw [hd]
    have : (marks ls [i]).toArray = ls.toArray.setIfInBounds i true := by simp [marks]
    rw [← this]
    exact hk'

/-- An operation whose value hangs on no world, that may come up now, and that nothing hangs on which may come up now: it is taken first. -/
theorem anyTake {l : List Oper} {ls : List Bool} {Q : Exit → Act → World → Prop} (hS : Ste T w0 pins N ds env gs L β a w) (i : Nat) {o : Oper} {d : D} {dd : Nat} (hi : nth l i = some o) (hd : o.dst = some dd) (hg : o.guard = none) (hdN : Nat.ble N dd = false) (hdg : elemN dd gs = false)
    (hB : (Region.noSelect l.toArray && Region.free .any l.toArray ls.toArray i && (Region.ready .any l.toArray ls.toArray).contains i) = true)
    (hQ : ∀ c a w, Q (.panic c) (a.put (some dd) (d.val T β)) w → Q (.panic c) a w)
    (hv : ∀ w, (execOp a.eval o).run P w = .ok (.value (d.val T β)) w) (ho : OkT T w (Own pins.G L β) d)
    (hk : ∀ a', Ste T w0 pins N ds ((dd, .d d) :: env) gs L β a' w → AW P l Q (marks ls [i]) a' w) : AW P l Q ls a w := by
  simp only [Bool.and_eq_true] at hB
  obtain ⟨⟨h1, h2⟩, h3⟩ := hB
  have hrd : i ∈ Region.ready .any l.toArray ls.toArray := by simpa using h3
  have hf := falses_set (ready_iff.1 hrd).1
  have hdN' : dd < N := by
    cases hb : Nat.ble N dd with
    | true => rw [hb] at hdN; cases hdN
    | false => exact Nat.lt_of_not_le fun hle => by rw [Nat.ble_eq_true_of_le hle] at hb; cases hb
  have hk' := hk (a.put (some dd) (d.val T β)) ⟨hS.ss.set hdN' hdg ho rfl, by rw [Act.put_defers]; exact hS.df⟩
  unfold AW at hk' ⊢
  rw [hf]
  rw [nth_get] at hi
  refine wpAny_take (i := i) (oi := o) (v := d.val T β) (by simpa using hi) h1 h2 h3 (by rw [hd]; exact hQ) (.inl ⟨by simp [Region.wanted, hg], hv⟩) ?_
  rw [hd]
  have : (marks ls [i]).toArray = ls.toArray.setIfInBounds i true := by simp [marks]
  rw [← this]
  exact hk'
/-- So for the address of a field. -/
theorem anyf (K : Kit P T C) {l : List Oper} {ls : List Bool} {Q : Exit → Act → World → Prop} (hS : Ste T w0 pins N ds env gs L β a w) (i : Nat) {o : Oper} {x : Operand} {s f k dd sz b : Nat} {π : List Stp} {fs : List (Nat × Nat)} {z : D} {c : Nat × Nat} (hi : nth l i = some o) (hop : o.op = .fieldAddr s x f) (hd : o.dst = some dd) (hg : o.guard = none) (hx : opd (lkU env) x = some (.p k π)) (hs : T s = some ⟨.st fs, sz, b, z⟩) (hf : nth fs f = some c) (hdN : Nat.ble N dd = false) (hdg : elemN dd gs = false)
    (hB : (Region.noSelect l.toArray && Region.free .any l.toArray ls.toArray i && (Region.ready .any l.toArray ls.toArray).contains i) = true)
    (hQ : ∀ c a w, Q (.panic c) (a.put (some dd) ((D.p k (snoc π (.fld s f))).val T β)) w → Q (.panic c) a w)
    (hk : ∀ a', Ste T w0 pins N ds ((dd, .d (.p k (snoc π (.fld s f)))) :: env) gs L β a' w → AW P l Q (marks ls [i]) a' w) : AW P l Q ls a w := by
  obtain ⟨e1, e2⟩ := opd_ok hS.ss.lkU hx
  have e2 : k < L.length ∧ StepsOk π := e2
  have ev : (D.p k (snoc π (.fld s f))).val T β = .pointer (some ⟨β k, offs T π + off T s f, none⟩) := by
    simp [D.val, D.cells, D.isAgg, offs_snoc, offs]
  refine anyTake hS i hi hd hg hdN hdg hB hQ (fun w => ?_) (show k < L.length ∧ _ from ⟨e2.1, (StepsOk_snoc _ _).2 ⟨e2.2, trivial⟩⟩) hk
  have e3 : (D.p k π).val T β = .pointer (some ⟨β k, offs T π, none⟩) := rfl
  rw [ev]
  simp only [execOp, hop, e1, e3, Sem.run_bind, fieldAt_ok K.tab hs hf, Result.andThen_ok, Sem.run_pure]
/-- So for a number told as one of another kind. -/
theorem anyv (K : Kit P T C) {l : List Oper} {ls : List Bool} {Q : Exit → Act → World → Prop} (hS : Ste T w0 pins N ds env gs L β a w) (i : Nat) {o : Oper} {x : Operand} {src dst dd : Nat} {sz b : Nat} {k k' k2 : IntKind} {n n2 : Int} {rsrc : Row} (hi : nth l i = some o) (hop : o.op = .convert src dst x) (hd : o.dst = some dd) (hg : o.guard = none) (hx : opd (lkU env) x = some (.v (.int k n))) (hs : T dst = some ⟨.leaf, sz, b, .v (.int k' n2)⟩) (hr : T src = some rsrc) (hk2 : k2 = k') (hdN : Nat.ble N dd = false) (hdg : elemN dd gs = false)
    (hB : (Region.noSelect l.toArray && Region.free .any l.toArray ls.toArray i && (Region.ready .any l.toArray ls.toArray).contains i) = true)
    (hQ : ∀ c a w, Q (.panic c) (a.put (some dd) ((D.v (.int k2 (k2.wrap n))).val T β)) w → Q (.panic c) a w)
    (hk : ∀ a', Ste T w0 pins N ds ((dd, .d (.v (.int k2 (k2.wrap n)))) :: env) gs L β a' w → AW P l Q (marks ls [i]) a' w) : AW P l Q ls a w := by
  subst hk2
  obtain ⟨e1, _⟩ := opd_ok hS.ss.lkU hx
  refine anyTake hS i hi hd hg hdN hdg hB hQ (fun w => ?_) rfl hk
  have hu : P.underlying dst = some (.int k2) := (K.tab dst _ hs).2.2.2
  obtain ⟨ds, hds⟩ := und_some K.tab hr
  simp [execOp, hop, convert, e1, val_v, run_underlying hu, run_underlying hds, Conv.intToInt]

def scB : Env → Bool
  | [] => true
  | (_, .d (.v x)) :: r => x.oneCell' && scB r
  | _ => false
theorem scB_ok {tmps : Array Value} {A : Dom} : ∀ {c : Env}, scB c = true → (∀ t b, look t c = some b → look t env = some b) → SS T w0 pins N env gs L β tmps w → ∀ w', LkOk T w' A β tmps (lkU c) := by
  intro c hc hs hS w' t d ht
  unfold lkU at ht
  split at ht
  · rename_i x hx
    simp only [Option.some.injEq] at ht
    subst ht
    have : ∃ y, x = .v y ∧ y.oneCell' = true := by
      clear hs
      induction c with
      | nil => cases hx
      | cons p r ih =>
        obtain ⟨u, b⟩ := p
        cases b with
        | g => simp [scB] at hc
        | d z => cases z with
          | v y =>
            simp only [scB, Bool.and_eq_true] at hc
            by_cases e : u = t
            · subst e
              rw [look_cons_eq] at hx
              cases hx
              exact ⟨y, rfl, hc.1⟩
            · rw [look_cons_ne e] at hx
              exact ih hc.2 hx
          | _ => simp [scB] at hc
    obtain ⟨y, rfl, hy⟩ := this
    exact ⟨(hS.tmp t _ (hs t _ hx)).1, hy⟩
  · cases ht
/-- So for an operation on scalars. -/
theorem anyS (K : Kit P T C) {l : List Oper} {ls : List Bool} {Q : Exit → Act → World → Prop} (hS : Ste T w0 pins N ds env gs L β a w) (i : Nat) {o : Oper} {d : D} {q : Ob} {dd : Nat} (hi : nth l i = some o) (hd : o.dst = some dd) (hg : o.guard = none) (he : evalOp T (fun _ _ => none) (lkU (cE env (lks (dstsOf l) o))) [] o.op = some (d, q)) (hq : q.out) (hsc : scB (cE env (lks (dstsOf l) o)) = true) (hsl : Sl0 d) (hdN : Nat.ble N dd = false) (hdg : elemN dd gs = false)
    (hB : (Region.noSelect l.toArray && Region.free .any l.toArray ls.toArray i && (Region.ready .any l.toArray ls.toArray).contains i) = true)
    (hQ : ∀ c a w, Q (.panic c) (a.put (some dd) (d.val T β)) w → Q (.panic c) a w)
    (hk : ∀ a', Ste T w0 pins N ds ((dd, .d d) :: env) gs L β a' w → AW P l Q (marks ls [i]) a' w) : AW P l Q ls a w := by
  have key : ∀ w', Ans P T w' (Own pins.G [] β) β o a d := fun w' => by
    rcases evalOp_ok (G := pins.G) (L := []) (β := β) (a := a) K.tab K.zero (w := w') MemOk.nil (scB_ok hsc (fun t b ht => (cE_look ht).2) hS.ss w') he hq with ⟨_, _, _, _, _, _, h⟩ | h
    · cases h
    · exact h
  exact anyTake hS i hi hd hg hdN hdg hB hQ (fun w => (key w).1) (OkT.nosl (A := Own pins.G [] β) (Nat.zero_le _) hsl (key w).2) hk

/-- A region of a code, by its number. -/
def findR (id : Nat) : Code → Option (List Oper)
  | .region i ops _ => if Nat.beq i id then some ops.toList else none
  | .seq x y => (match findR id x with | some l => some l | none => findR id y)
  | .cond _ x y => (match findR id x with | some l => some l | none => findR id y)
  | .block _ x => findR id x
  | .loop x => findR id x
  | .scope x => findR id x
  | _ => none
def opsAt (fn : Func) (id : Nat) : List Oper := match fn.body with
  | some c => (match findR id c with | some l => l | none => [])
  | none => []

/-- One operation alone can come up. -/
theorem any1 {l : List Oper} {ls : List Bool} {Q : Exit → Act → World → Prop} (i : Nat) {o : Oper} (hr : Region.ready .any l.toArray ls.toArray = [i]) (hi : nth l i = some o)
    (h : wpList P l.toArray (Exit.then (AW P l Q (marks ls [i])) Q) [o] a w) : AW P l Q ls a w := by
  refine AW.step ⟨i, by rw [hr]; simp⟩ fun j hj => ?_
  rw [hr] at hj
  have : j = i := by simpa using hj
  subst this
  exact wpOp_of_list hi h
/-- Two operations can come up. -/
theorem any2 {l : List Oper} {ls : List Bool} {Q : Exit → Act → World → Prop} (i j : Nat) {oi oj : Oper} (hr : Region.ready .any l.toArray ls.toArray = [i, j]) (hi : nth l i = some oi) (hj : nth l j = some oj)
    (h1 : wpList P l.toArray (Exit.then (AW P l Q (marks ls [i])) Q) [oi] a w) (h2 : wpList P l.toArray (Exit.then (AW P l Q (marks ls [j])) Q) [oj] a w) : AW P l Q ls a w := by
  refine AW.step ⟨i, by rw [hr]; simp⟩ fun k hk => ?_
  rw [hr] at hk
  simp only [List.mem_cons, List.not_mem_nil, or_false] at hk
  rcases hk with rfl | rfl
  · exact wpOp_of_list hi h1
  · exact wpOp_of_list hj h2
/-- The last of a region's operations. -/
theorem anye (K : Kit P T C) {l : List Oper} {ls : List Bool} {Q : Exit → Act → World → Prop} {env' env2 : Env} {L' : List Ent} {O' : Prop} (ts H : List Nat)
    (hB : (chk T l ls H && Nat.beq (falses (marks ls H)) 0) = true) (hS : Ste T w0 pins N ds env [] L β a w) (hr : phe T C N (dstsOf l) l H env L True = some (env', L', O')) (hg : gclB env' env' = true) (he : keepE env' ts [] = some env2) (hO : O')
    (hk : ∀ β' a' w', Ste T w0 pins N ds env2 [] L' β' a' w' → Q .normal a' w') : AW P l Q ls a w := by
  simp only [Bool.and_eq_true] at hB
  refine anyp K H hB.1 hS hr hO hg fun β a w hS => AW.done (Nat.eq_of_beq_eq_true hB.2) ?_ (hk β a w (hS.keepE he))
  rw [marks_len]
  exact (chk_ok hB.1).len

end Go.CE

/- A small program logic, thirtieth text: a row that nobody writes any more is told as a slice to be read. -/
namespace Go.CE
open Go.RowKit

variable {P : Program} {T : Tab} {w0 w : World} {pins : Pins} {N : Nat} {env : Env} {gs : List Nat} {L : List Ent} {β : Nat → Nat} {a : Act} {C : Calls'} {ds : List Deferred}

/-- A row: its number, its block; size of an element; how many; room; the elements. -/
structure FR where
  r : Nat
  b : Nat
  sz : Nat
  n : Nat
  cap : Nat
  f : Nat → D

mutual
/-- The same tree, the row told as a slice to be read. -/
def Frz (R : FR) : D → D → Prop
  | .os k n' cap', d' => (∃ m, k = R.r ∧ cap' = R.cap ∧ n' ≤ R.n ∧ m = n' ∧ d' = .sl R.sz (.slice (some ⟨R.b, 0, none⟩) m R.cap) m R.f) ∨ (k < R.r ∧ d' = .os k n' cap')
  | .st s ds, .st s' ds' => s = s' ∧ FrzL R ds ds'
  | .st .., _ => False
  | .ar n sz g, .ar n' sz' g' => n = n' ∧ sz = sz' ∧ ∀ i, i < n → Frz R (g i) (g' i)
  | .ar .., _ => False
  | .v x, d' => d' = .v x
  | .p k π, d' => k < R.r ∧ d' = .p k π
  | .sl sz x n f, d' => d' = .sl sz x n f
  | .rp sz x n f i π, d' => d' = .rp sz x n f i π
  | .fn f cs, .fn f' cs' => f = f' ∧ FrzL R cs cs'
  | .fn .., _ => False
  | .tup ds, .tup ds' => FrzL R ds ds'
  | .tup .., _ => False
def FrzL (R : FR) : List D → List D → Prop
  | [], [] => True
  | d :: r, d' :: r' => Frz R d d' ∧ FrzL R r r'
  | _, _ => False
end

mutual
theorem Frz.cl {R : FR} : ∀ d, Cl d → Frz R d d
  | .v _, _ => rfl
  | .st _ ds, h => ⟨rfl, FrzL.cl ds h⟩
  | .ar _ _ f, h => ⟨rfl, rfl, fun i hi => Frz.cl (f i) (h i hi)⟩
  | .sl .., _ => rfl
  | .p .., h => h.elim
  | .os .., h => h.elim
  | .rp .., _ => rfl
  | .fn _ cs, h => ⟨rfl, FrzL.cl cs h⟩
  | .tup ds, h => FrzL.cl ds h
theorem FrzL.cl {R : FR} : ∀ ds, ClL ds → FrzL R ds ds
  | [], _ => trivial
  | d :: r, h => ⟨Frz.cl d h.1, FrzL.cl r h.2⟩
end

mutual
theorem Frz.size {R : FR} : ∀ d d', Frz R d d' → d'.size T = d.size T ∧ d'.isAgg = d.isAgg
  | .v _, _, h => by cases h; exact ⟨rfl, rfl⟩
  | .st _ ds, .st _ ds', h => by obtain ⟨rfl, _⟩ := h; exact ⟨rfl, rfl⟩
  | .ar _ _ f, .ar _ _ g, h => by obtain ⟨rfl, rfl, _⟩ := h; exact ⟨rfl, rfl⟩
  | .sl .., _, h => by cases h; exact ⟨rfl, rfl⟩
  | .p .., _, h => by obtain ⟨_, rfl⟩ := h; exact ⟨rfl, rfl⟩
  | .os .., _, h => by
    rcases h with ⟨m, _, _, _, _, rfl⟩ | ⟨_, rfl⟩ <;> exact ⟨rfl, rfl⟩
  | .rp .., _, h => by cases h; exact ⟨rfl, rfl⟩
  | .fn _ cs, .fn _ cs', h => ⟨rfl, rfl⟩
  | .tup ds, .tup ds', h => ⟨rfl, rfl⟩
theorem FrzL.size {R : FR} : ∀ ds ds', FrzL R ds ds' → ds'.map (D.size T) = ds.map (D.size T)
  | [], [], _ => rfl
  | d :: r, d' :: r', h => by simp only [List.map_cons, (Frz.size d d' h.1).1, FrzL.size r r' h.2]
end
theorem flatMap_congr2 {α γ : Type} {l : List α} {f g : α → List γ} (h : ∀ a ∈ l, f a = g a) : l.flatMap f = l.flatMap g := flatMap_congr' h
mutual
theorem Frz.cells {R : FR} (hb : R.b = β R.r) : ∀ d d', Frz R d d' → d'.cells T β = d.cells T β
  | .v _, _, h => by cases h; rfl
  | .st _ ds, .st _ ds', h => FrzL.cells hb ds ds' h.2
  | .ar n _ f, .ar _ _ g, h => by
    obtain ⟨rfl, rfl, h⟩ := h
    exact flatMap_congr' fun i hi => Frz.cells hb (f i) (g i) (h i (by simpa using hi))
  | .sl .., _, h => by cases h; rfl
  | .p .., _, h => by obtain ⟨_, rfl⟩ := h; rfl
  | .os k n' cap', _, h => by
    rcases h with ⟨m, rfl, rfl, _, rfl, rfl⟩ | ⟨_, rfl⟩
    · simp only [D.cells, hb]
    · rfl
  | .rp .., _, h => by cases h; rfl
  | .fn _ cs, .fn _ cs', h => by
    obtain ⟨rfl, h⟩ := h
    simp only [D.cells, FrzL.vals hb cs cs' h]
  | .tup ds, .tup ds', h => by simp only [D.cells, FrzL.vals hb ds ds' h]
theorem FrzL.cells {R : FR} (hb : R.b = β R.r) : ∀ ds ds', FrzL R ds ds' → D.cellsL T β ds' = D.cellsL T β ds
  | [], [], _ => rfl
  | d :: r, d' :: r', h => by simp only [D.cellsL, Frz.cells hb d d' h.1, FrzL.cells hb r r' h.2]
theorem FrzL.vals {R : FR} (hb : R.b = β R.r) : ∀ ds ds', FrzL R ds ds' → D.valL T β ds' = D.valL T β ds
  | [], [], _ => rfl
  | d :: r, d' :: r', h => by simp only [D.valL, Frz.cells hb d d' h.1, (Frz.size (T := T) d d' h.1).2, FrzL.vals hb r r' h.2]
end
theorem Frz.val {R : FR} (hb : R.b = β R.r) {d d' : D} (h : Frz R d d') : d'.val T β = d.val T β := by simp only [D.val, Frz.cells hb d d' h, (Frz.size (T := T) d d' h).2]
mutual
theorem Frz.ok {R : FR} {A A' : Dom} (hA : ∀ b, A.ok b → A'.ok b) (hn : R.r ≤ A'.n) (hs : ∀ m, m ≤ R.n → Ok T w A' (.sl R.sz (.slice (some ⟨R.b, 0, none⟩) m R.cap) m R.f)) : ∀ d d', Frz R d d' → Ok T w A d → Ok T w A' d'
  | .v _, _, h, ho => by cases h; exact ho
  | .st s ds, .st _ ds', h, ho => by
    obtain ⟨rfl, h⟩ := h
    obtain ⟨⟨fs, b, z, h1, h2⟩, h3⟩ := ho
    exact ⟨⟨fs, b, z, h1, by rw [FrzL.size ds ds' h]; exact h2⟩, FrzL.ok hA hn hs ds ds' h h3⟩
  | .ar n _ f, .ar _ _ g, h, ho => by
    obtain ⟨rfl, rfl, h⟩ := h
    exact fun i hi => ⟨by rw [(Frz.size (T := T) _ _ (h i hi)).1]; exact (ho i hi).1, Frz.ok hA hn hs (f i) (g i) (h i hi) (ho i hi).2⟩
  | .sl sz x n f, _, h, ho => by
    cases h
    exact ⟨ho.1.wide hA, fun i hi => ⟨(ho.2 i hi).1, Ok.cl hA _ (ho.2 i hi).2.2 (ho.2 i hi).2.1, (ho.2 i hi).2.2⟩⟩
  | .p .., _, h, ho => by obtain ⟨h, rfl⟩ := h; exact ⟨Nat.lt_of_lt_of_le h hn, ho.2⟩
  | .os k n' cap', _, h, _ => by
    rcases h with ⟨m, rfl, rfl, hm, rfl, rfl⟩ | ⟨h, rfl⟩
    · exact hs _ hm
    · exact Nat.lt_of_lt_of_le h hn
  | .rp sz x n f i π, _, h, ho => by
    cases h
    obtain ⟨⟨h1, h2⟩, h3, h4⟩ := ho
    exact ⟨⟨h1.wide hA, fun i hi => ⟨(h2 i hi).1, Ok.cl hA _ (h2 i hi).2.2 (h2 i hi).2.1, (h2 i hi).2.2⟩⟩, h3, h4⟩
  | .fn _ cs, .fn _ cs', h, ho => FrzL.ok hA hn hs cs cs' h.2 ho
  | .tup ds, .tup ds', h, ho => ho.elim
theorem FrzL.ok {R : FR} {A A' : Dom} (hA : ∀ b, A.ok b → A'.ok b) (hn : R.r ≤ A'.n) (hs : ∀ m, m ≤ R.n → Ok T w A' (.sl R.sz (.slice (some ⟨R.b, 0, none⟩) m R.cap) m R.f)) : ∀ ds ds', FrzL R ds ds' → OkL T w A ds → OkL T w A' ds'
  | [], [], _, _ => trivial
  | d :: r, d' :: r', h, ho => ⟨Frz.ok hA hn hs d d' h.1 ho.1, FrzL.ok hA hn hs r r' h.2 ho.2⟩
end

def FrzE (R : FR) : List Ent → List Ent → Prop
  | [], [] => True
  | .var t d :: l, .var t' d' :: l' => t = t' ∧ Frz R d d' ∧ FrzE R l l'
  | .row e sz n f cap :: l, .row e' sz' n' f' cap' :: l' => e = e' ∧ sz = sz' ∧ n = n' ∧ cap = cap' ∧ (∀ i, i < n → f i = f' i ∧ Cl (f i)) ∧ FrzE R l l'
  | .dead :: l, .dead :: l' => FrzE R l l'
  | _, _ => False
theorem FrzE.len {R : FR} : ∀ {l l' : List Ent}, FrzE R l l' → l'.length = l.length
  | [], [], _ => rfl
  | .var .. :: l, .var .. :: l', h => by simp [FrzE.len h.2.2]
  | .row .. :: l, .row .. :: l', h => by simp [FrzE.len h.2.2.2.2.2]
  | .dead :: l, .dead :: l', h => by simp [FrzE.len (l := l) (l' := l') h]
/-- Two entries of one frozen list. -/
def FrzEnt (R : FR) : Ent → Ent → Prop
  | .var t d, .var t' d' => t = t' ∧ Frz R d d'
  | .row e sz n f cap, .row e' sz' n' f' cap' => e = e' ∧ sz = sz' ∧ n = n' ∧ cap = cap' ∧ ∀ i, i < n → f i = f' i ∧ Cl (f i)
  | .dead, .dead => True
  | _, _ => False
theorem FrzE.get {R : FR} : ∀ {l l' : List Ent}, FrzE R l l' → ∀ k e', nth l' k = some e' → ∃ e, nth l k = some e ∧ FrzEnt R e e'
  | [], [], _, k, e', h => by cases h
  | .var .. :: l, .var .. :: l', h, k, e', hk => by
    cases k with
    | zero => simp only [nth, Option.some.injEq] at hk; subst hk; exact ⟨_, rfl, h.1, h.2.1⟩
    | succ k => exact FrzE.get h.2.2 k e' hk
  | .row .. :: l, .row .. :: l', h, k, e', hk => by
    cases k with
    | zero => simp only [nth, Option.some.injEq] at hk; subst hk; exact ⟨_, rfl, h.1, h.2.1, h.2.2.1, h.2.2.2.1, h.2.2.2.2.1⟩
    | succ k => exact FrzE.get h.2.2.2.2.2 k e' hk
  | .dead :: l, .dead :: l', h, k, e', hk => by
    cases k with
    | zero => simp only [nth, Option.some.injEq] at hk; subst hk; exact ⟨_, rfl, trivial⟩
    | succ k => exact FrzE.get (l := l) (l' := l') h k e' hk
theorem FrzEnt.alive {R : FR} {e e' : Ent} (h : FrzEnt R e e') : e.alive = e'.alive := by cases e <;> cases e' <;> first | rfl | exact h.elim
def FrzN (R : FR) (env : Env) : Env → Prop
  | [] => True
  | (t, .d x) :: q => (∃ y, look t env = some (.d y) ∧ Frz R y x) ∧ FrzN R env q
  | (_, .g ..) :: _ => False
theorem FrzN.get {R : FR} : ∀ {e : Env}, FrzN R env e → ∀ t b, look t e = some b → ∃ x y, b = .d x ∧ look t env = some (.d y) ∧ Frz R y x
  | [], _, _, _, h => by cases h
  | (s, .d x) :: q, h, t, b, hb => by
    by_cases e : s = t
    · subst e
      rw [look_cons_eq] at hb
      simp only [Option.some.injEq] at hb
      subst hb
      obtain ⟨⟨y, h1, h2⟩, _⟩ := h
      exact ⟨x, y, rfl, h1, h2⟩
    · rw [look_cons_ne e] at hb
      exact FrzN.get h.2 t b hb

/-- A row that nobody writes any more: it, and the blocks behind it, are no longer asked for. -/
theorem Ste.freeze {L1 J L' : List Ent} {e sz n cap : Nat} {f : Nat → D} {env' : Env} (h : Ste T w0 pins N ds env [] L β a w) (hL : L = L1 ++ .row e sz n f cap :: J) (hp : pins.fix.length ≤ L1.length) (hf : ∀ i, i < n → Cl (f i))
    (hE : FrzE ⟨L1.length, β L1.length, sz, n, cap, f⟩ L1 L') (hN : FrzN ⟨L1.length, β L1.length, sz, n, cap, f⟩ env env') : Ste T w0 pins N ds env' [] L' β a w := by
  subst hL
  have hl := hE.len
  have hnth : ∀ k e', nth L1 k = some e' → nth (L1 ++ .row e sz n f cap :: J) k = some e' := fun k e' hk => by rw [nth_append_if, if_pos (nth_lt _ _ _ hk)]; exact hk
  have hrow : nth (L1 ++ .row e sz n f cap :: J) L1.length = some (.row e sz n f cap) := by rw [nth_append_if, if_neg (Nat.lt_irrefl _), Nat.sub_self]; rfl
  have hA : ∀ b, (Own pins.G (L1 ++ .row e sz n f cap :: J) β).ok b → (Own pins.G L' β).ok b := fun b hb => by
    refine ⟨hb.1, fun k e' hk ha => ?_⟩
    obtain ⟨e0, h1, h2⟩ := hE.get k e' hk
    exact hb.2 k e0 (hnth k e0 h1) (by rw [h2.alive]; exact ha)
  have hb : (Own pins.G L' β).ok (β L1.length) := by
    refine ⟨h.ss.good _ (h.ss.new L1.length hp (by simp)), fun k e' hk ha heq => ?_⟩
    obtain ⟨e0, h1, h2⟩ := hE.get k e' hk
    have := h.ss.mem.inj k L1.length e0 _ (hnth k e0 h1) hrow (by rw [h2.alive]; exact ha) rfl heq
    have := nth_lt _ _ _ h1
    omega
  have hs : ∀ m, m ≤ n → Ok T w (Own pins.G L' β) (.sl sz (.slice (some ⟨β L1.length, 0, none⟩) m cap) m f) := fun m hm => row_sl h.ss hrow hm hf hA hb
  have key : ∀ d d', Frz ⟨L1.length, β L1.length, sz, n, cap, f⟩ d d' → Ok T w (Own pins.G (L1 ++ .row e sz n f cap :: J) β) d → Ok T w (Own pins.G L' β) d' := fun d d' hd ho =>
    Frz.ok (R := ⟨L1.length, β L1.length, sz, n, cap, f⟩) hA (by show L1.length ≤ L'.length; omega) hs d d' hd ho
  refine ⟨⟨h.ss.n, fun t b hb' => ?_, ⟨fun k e' hk => ?_, fun i j d e' hi hj hd he hij => ?_⟩, h.ss.keep, fun k h1 h2 => h.ss.new k h1 (by rw [List.length_append]; omega), fun k b hb => ?_, h.ss.good⟩, h.df⟩
  · obtain ⟨x, y, rfl, h1, h2⟩ := hN.get t b hb'
    obtain ⟨g1, g2⟩ := h.ss.tmp t _ h1
    refine ⟨by rw [g1, Frz.val (R := ⟨L1.length, β L1.length, sz, n, cap, f⟩) rfl h2], ?_⟩
    cases y with
    | tup ds => cases x with
      | tup ds' => exact FrzL.ok (R := ⟨L1.length, β L1.length, sz, n, cap, f⟩) hA (by show L1.length ≤ L'.length; omega) hs ds ds' h2 g2
      | _ => exact h2.elim
    | _ => exact (key _ _ h2 (g2.ok rfl)).top
  · obtain ⟨e0, h1, h2⟩ := hE.get k e' hk
    have ho := h.ss.mem.ent k e0 (hnth k e0 h1)
    cases e0 with
    | var t d => cases e' with
      | var t' d' =>
        obtain ⟨rfl, h2⟩ := h2
        exact ⟨by rw [Frz.cells (R := ⟨L1.length, β L1.length, sz, n, cap, f⟩) rfl d d' h2]; exact ho.1, by rw [(Frz.size (T := T) d d' h2).1]; exact ho.2.1, key d d' h2 ho.2.2⟩
      | _ => exact h2.elim
    | row e1 sz1 n1 f1 cap1 => cases e' with
      | row e2 sz2 n2 f2 cap2 =>
        obtain ⟨rfl, rfl, rfl, rfl, h3⟩ := h2
        obtain ⟨cur, g1, g2, g3, g4, g5, g6, g7, g8⟩ := ho
        refine ⟨cur, g1, g2, g3, g4, g5, g6, fun i hi => ?_, fun i hi => ?_⟩
        · rw [← (h3 i hi).1]; exact ⟨(g7 i hi).1, Ok.cl hA _ (h3 i hi).2 (g7 i hi).2⟩
        · rw [← (h3 i hi).1]; exact g8 i hi
      | _ => exact h2.elim
    | dead => cases e' with
      | dead => exact ho
      | _ => exact h2.elim
  · obtain ⟨d0, h1, h2⟩ := hE.get i d hi
    obtain ⟨e0, h3, h4⟩ := hE.get j e' hj
    exact h.ss.mem.inj i j d0 e0 (hnth i d0 h1) (hnth j e0 h3) (by rw [h2.alive]; exact hd) (by rw [h4.alive]; exact he) hij
  · obtain ⟨h1, h2⟩ := h.ss.pin k b hb
    exact ⟨by have := nth_lt _ _ _ hb; omega, h2⟩

end Go.CE

/- A small program logic, thirty-first text: functions that defer a call. -/
namespace Go.CE
open Go.RowKit

variable {P : Program} {T : Tab} {w0 w : World} {pins : Pins} {N : Nat} {env : Env} {gs : List Nat} {L : List Ent} {β : Nat → Nat} {a : Act} {C : Calls'} {ds : List Deferred}

/-- A contract of a deferred function: of its caller's mode. -/
def ConD (P : Program) (T : Tab) (f : Nat) (xs : List D) (L : List Ent) (u u1 : FrameMode) (L2 : List Ent) : Prop :=
  ∀ (G : Nat → Prop) (β : Nat → Nat) (w : World), MemOk T G L β w → (∀ d ∈ xs, Ok T w (Own G L β) d) → (∀ b, w.heap.size ≤ b → G b) →
    CallsD P f (xs.map (D.val T β)).toArray u w fun e u' w' => u' = u1 ∧ CPost T w β L.length L.length G (fun y L1 => y = .tup [] ∧ L1 = L2) e w'

theorem ConD.intro {f : Nat} {fn : Func} {c : Code} {xs : List D} {L0 L2 : List Ent} {u u1 : FrameMode} (hf : P.funcs[f]? = some fn) (hb : fn.body = some c) (hl : Nat.ble xs.length fn.ntmps = true) (he : argE 0 xs [] = some env)
    (h : ∀ G w0 β0 β a w c₀ cs, c₀.mode = u → Ste T w0 (pinsOf β0 L0.length L0.length G) fn.ntmps [] env [] L0 β a w → c.wpS P (bodyPostS P fn c₀ cs fun e u' w' => u' = u1 ∧ CPost T w0 β0 L0.length L0.length G (fun y L1 => y = .tup [] ∧ L1 = L2) e w') a (c₀ :: cs) w) : ConD P T f xs L0 u u1 L2 := by
  intro G β w hM ho hg1
  exact callsD_of_wpS hf hb fun c₀ cs hu => h G w β β _ w c₀ cs hu ⟨SS.init hM (Nat.le_refl _) hg1 (fun k h1 h2 => by omega) ho (Nat.le_of_ble_eq_true hl) he, rfl⟩

/-- Into a function that defers. -/
theorem Con.introD {f : Nat} {fn : Func} {c : Code} {xs : List D} {L0 : List Ent} {m : Nat} {R : D → List Ent → Prop} (hf : P.funcs[f]? = some fn) (hb : fn.body = some c) (hl : Nat.ble xs.length fn.ntmps = true) (he : argE 0 xs [] = some env) (hml : Nat.ble m L0.length = true)
    (h : ∀ G w0 β0 β a w, Ste T w0 (pinsOf β0 m L0.length G) fn.ntmps [] env [] L0 β a w → c.wp P (bodyPostD P fn (CPost T w0 β0 L0.length m G R)) a w) : Con P T f xs L0 m R := by
  intro G β w hM ho hg1 hg2
  exact calls_of_wp_defers hf hb (h G w β β _ w ⟨SS.init hM (Nat.le_of_ble_eq_true hml) hg1 hg2 ho (Nat.le_of_ble_eq_true hl) he, rfl⟩)

/-- What is deferred by 'defer func() { .. }()'. -/
def dfrOf (T : Tab) (β : Nat → Nat) (f : Nat) (caps : List D) : Deferred := { target := .fn (.func f) (caps.map (D.val T β)).toArray, args := #[] }

theorem dfr {l rest : List Oper} {Q : Exit → Act → World → Prop} {o : Oper} {cv : Operand} {ty : Array TypeId} {f : Nat} {caps : List D} (hS : Ste T w0 pins N ds env gs L β a w)
    (hg : o.guard = none) (hd : o.dst = none) (hop : o.op = .defer ⟨.value cv, ⟨[]⟩, ty⟩) (hcv : opd (lkU env) cv = some (.fn f caps))
    (hk : ∀ a', Ste T w0 pins N (dfrOf T β f caps :: ds) env gs L β a' w → wpList P l.toArray Q rest a' w) : wpList P l.toArray Q (o :: rest) a w := by
  have hw : Region.wanted o (yielded l.toArray a.tmps) = true := by simp [Region.wanted, hg]
  unfold wpList
  rw [if_pos hw]
  left
  obtain ⟨h1, _⟩ := opd_ok hS.ss.lkU hcv
  have e1 : (D.fn f caps).val T β = .func (.func f) #[] (caps.map (D.val T β)).toArray := by simp [D.val, D.cells, D.isAgg, valL_map]
  have hr : (execOp a.eval o).run P w = .ok (.defer (dfrOf T β f caps)) w := by
    simp [execOp, hop, resolve, Deferred.ofValue, h1, e1, dfrOf]
  unfold Oper.wp
  rw [hr]
  show wpList _ _ _ rest ({ a with defers := dfrOf T β f caps :: a.defers }.put o.dst undef) w
  rw [hd, Act.put_none]
  exact hk _ ⟨hS.ss, by show dfrOf T β f caps :: a.defers = _; rw [hS.df]⟩

theorem renL_map {r : Nat → Nat} : ∀ xs : List D, (D.renL r xs).map (D.val T β) = xs.map (D.val T fun k => β (r k))
  | [] => rfl
  | d :: q => by simp only [D.renL, List.map_cons, D.ren_val, renL_map q]

/-- The end of a function that has one call deferred, which is handed the blocks ρ. -/
theorem ends {fn : Func} {f : Nat} {xs : List D} {L0 L2 : List Ent} {u u1 : FrameMode} {R : Ending → World → Prop} {cs : Array Value} (hE : Enters P f) (hD : ConD P T f xs L0 u u1 L2) (hu : u ≠ .run) (hset : settle u1 = .returning)
    (hS : Ste T w0 pins N [{ target := .fn (.func f) cs, args := #[] }] env [] L β a w) (ρ : List Nat) (hn : ρ.Nodup) (hH : HandE L (rn ρ L.length) L0.length ρ L0)
    (hcs : cs = ((D.renL (rn ρ L.length) xs).map (D.val T β)).toArray) (hxi : IdxL (· < L0.length) xs) (hxo : OkL T w (Own pins.G L β) (D.renL (rn ρ L.length) xs))
    (ts : List Nat) {env2 : Env} (he : keepE env ts [] = some env2)
    (hk : ∀ β' w', SS T w0 pins N env2 [] (putE (rn ρ L.length) ρ L2 L) β' a.tmps w' → ∃ v, (results fn a.tmps).run P w' = .ok v w' ∧ R (.returned v) w') : Leaves P fn a.tmps R a.defers u w := by
  obtain ⟨hM, hA, hG, hρ⟩ := hS.ss.hand hn hH
  obtain ⟨hHl, hHg⟩ := hH.get
  rw [hS.df]
  refine ⟨hu, _, _, f, cs, rfl, ?_, ?_⟩
  · have := hE cs w
    simpa [invoke] using this
  have hx : ∀ d ∈ xs, Ok T w (Own (hidG pins L β ρ) L0 fun j => β (rn ρ L.length j)) d := OkL_iff.1 (OkL.back hA xs hxi hxo)
  have hc := hD (hidG pins L β ρ) (fun j => β (rn ρ L.length j)) w hM hx hG
  rw [renL_map] at hcs
  rw [hcs]
  refine hc.mono ?_
  rintro e u' w' ⟨rfl, y, L1, β1, ⟨rfl, rfl⟩, rfl, hM', hy, hK, hlen, hβ, hnew⟩
  show Leaves P fn a.tmps R [] (settle u') w'
  rw [hset]
  have hlk := keepE_look ts [] env2 he (fun t b h => by cases h)
  obtain ⟨h1, _, _⟩ := hS.ss.called (ρ := ρ) (L0 := L0) (m := L0.length) hn hρ hHl (fun j hj => by
      obtain ⟨e, he⟩ := nth_of_lt L0 j hj
      obtain ⟨k, e', g1, g2, g3, _⟩ := hHg j e he
      exact ⟨k, e', g1, g2, g3.alive⟩) (fun j k hj hk => by
        have := nth_lt _ _ _ hk
        omega) (S := (· < L.length)) (fun k h => h) (fun j k hj hk => by
        have := nth_lt _ _ _ hk
        omega) (env2 := env2) (fun t b hb => by
        obtain ⟨⟨x, rfl⟩, h2⟩ := hlk t b hb
        exact ⟨x, rfl, h2, OkT.idx (hS.ss.tmp t _ h2).2⟩) (fun k e hk _ => EntOk.idx (hS.ss.mem.ent k e hk)) (hidG pins L β ρ) rfl (w' := w') hM' hy hK hlen hβ (Nat.le_refl _) hnew
  exact hk _ w' h1

end Go.CE

/- Where two ways of a walk come together. -/
namespace Go.CE
open Go.RowKit

theorem join {P : Program} {x y : Code} {Q : Exit → Act → World → Prop} {a : Act} {w : World} (I : (Nat → Nat) → Act → World → Prop) (h : x.wp P (Exit.then (fun a w => ∃ β, I β a w) Q) a w) (hk : ∀ β a w, I β a w → y.wp P Q a w) : (Code.seq x y).wp P Q a w :=
  wp_seq (wp_mono h fun e a w => by
    cases e with
    | normal => rintro ⟨β, hI⟩; exact hk β a w hI
    | _ => exact id)

end Go.CE

/- Contracts: a number's bytes as the document writes them. -/
namespace Go.CE
open Go.RowKit Go.Proofs

theorem bytesOf_data (l : List Int) : bytesOf l = ⟨(l.map fun x => UInt8.ofNat x.toNat).toArray⟩ := by
  unfold bytesOf bytesD
  congr 2
  refine List.ext_getElem (by simp) fun i h1 h2 => ?_
  have h : i < l.length := by simpa using h1
  simp [rowD, intD, List.getD_eq_getElem?_getD, List.getElem?_eq_getElem h]
theorem bytesOf_size (l : List Int) : (bytesOf l).size = l.length := bytesD_size _ _
theorem bytesOf_app (l m : List Int) : bytesOf l ++ bytesOf m = bytesOf (l ++ m) := by
  rw [bytesOf_data, bytesOf_data, bytesOf_data, ByteArray.ext_iff, ByteArray.data_append]
  simp
theorem bytesOf_nil : bytesOf [] = ⟨#[]⟩ := rfl

theorem nn_shr (n : Int) : ∀ i, i ≤ 8 → nn n i = shrI .u64 n (8 * i : Nat)
  | 0, _ => by simp [nn, shrI]
  | i + 1, h => by
    have e1 : min 8 (IntKind.u64.bits) = 8 := rfl
    have e2 : (8 : Int).toNat = 8 := rfl
    rw [nn, nn_shr n i (by omega)]
    simp only [shrI, Int.toNat_natCast, e2, e1]
    have h1 : min (8 * i) (IntKind.u64.bits) = 8 * i := Nat.min_eq_left (by show 8 * i ≤ 64; omega)
    have h2 : min (8 * (i + 1)) (IntKind.u64.bits) = 8 * (i + 1) := Nat.min_eq_left (by show 8 * (i + 1) ≤ 64; omega)
    rw [h1, h2, Int.fdiv_eq_ediv_of_nonneg _ (Int.le_of_lt (Int.pow_pos (by decide))), Int.fdiv_eq_ediv_of_nonneg _ (Int.le_of_lt (Int.pow_pos (by decide))), Int.fdiv_eq_ediv_of_nonneg _ (Int.le_of_lt (Int.pow_pos (by decide))), Int.ediv_ediv_of_nonneg (Int.le_of_lt (Int.pow_pos (by decide))), ← Int.pow_add]
    rfl

/-- A row that grows from nothing. -/
def outT (i cap : Nat) : D := match i with
  | 0 => nilD
  | i + 1 => .os 0 (i + 1) cap
def outL (n : Int) (i cap : Nat) : List Ent := match i with
  | 0 => []
  | i + 1 => [.row 5 1 (i + 1) (rowD (le n (i + 1))) cap]

theorem sh8 (n : Int) {i : Nat} (h : i < 8) : IntKind.u8.wrap (shrI .u64 n (IntKind.u64.wrap (IntKind.i64.wrap (8 * (i : Int))))) = by8 (nn n i) := by
  rw [nn_shr n i (by omega), wr64' (n := 8 * (i : Int)) (by omega)]
  have : IntKind.u64.wrap (8 * (i : Int)) = ((8 * i : Nat) : Int) := by rw [IntKind.wrap_u64]; omega
  rw [this]
  rfl
where
  wr64' {n : Int} (h : -9223372036854775808 ≤ n ∧ n ≤ 9223372036854775807) : IntKind.i64.wrap n = n := IntWalk.i64_in _ ⟨by omega, by omega⟩

theorem c_refNum (n : Int) (b : Nat) (hb : b ≤ 8) : Fun Try.prog T 29 [u64 n, i64 b] fun y => y = .v (.string (bytesOf (le n b))) := by
  refine Con.intro Try.func29 rfl rfl rfl rfl fun G w0 β0 β a w hS => ?_
  refine regS K0 [0, 1] hS rfl rfl trivial fun β a w hS => ?_
  refine regS K0 [0, 1, 5] hS rfl rfl trivial fun β a w hS => ?_
  refine wp_seq ?_
  refine regS K0 [0, 1, 5, 6] hS rfl rfl trivial fun β a w hS => ?_
  refine wp_block ?_
  refine lop (fun s : Nat × Nat => b - s.1) (fun s => s.1 ≤ b) (fun s => [(0, .d (u64 n)), (1, .d (i64 b)), (5, .d (outT s.1 s.2)), (6, .d (i64 s.1))]) (fun s => outL n s.1 s.2) (0, 0) (Nat.zero_le _) (Ste.sub hS ⟨rfl, rfl, rfl, rfl, trivial⟩) ?_
  rintro ⟨i, cap⟩ hi β a w hS
  have hi : i ≤ b := hi
  simp only at hS
  refine wp_seq ?_
  refine regS K0 [0, 1, 5, 6, 9] hS rfl rfl trivial fun β a w hS => ?_
  refine cnd hS rfl (fun hlt => wp_skip ?_) (fun hge => wp_exit ?_)
  · have hlt : i < b := by simpa using hlt
    refine wp_seq ?_
    refine wp_block ?_
    cases i with
    | zero =>
      have hS : Ste T w0 (pinsOf β0 0 0 G) Try.f29.ntmps [] [(0, .d (u64 n)), (1, .d (i64 b)), (5, .d nilD), (6, .d (i64 (0 : Nat)))] [] [] β a w := Ste.sub hS ⟨rfl, rfl, rfl, rfl, trivial⟩
      refine regp K0 hS rfl ⟨by decide, by rw [IntKind.wrap_u64]; omega, trivial⟩ fun β a w hS => ?_
      refine appn K0 hS [0, 1, 6] 1 (rowD (le n 1)) rfl rfl rfl rfl rfl rfl rfl rfl rfl rfl (.inr ⟨0, 1, 1, _, 1, rfl, ⟨_, rfl⟩, Nat.le_refl _, fun j hj => ?_⟩) Nat.zero_lt_one (by decide) (by decide) fun cap' β a w hS => ?_
      · have : j = 0 := by omega
        subst this
        show D.v (.int .u8 (IntKind.u8.wrap (shrI .u64 n (IntKind.u64.wrap (IntKind.i64.wrap (8 * ((0 : Nat) : Int))))))) = _
        rw [sh8 n (by omega)]
        rfl
      refine rege K0 [0, 1, 5, 6] hS rfl rfl trivial fun β a w hS => ?_
      refine reg K0 [0, 1, 5, 6] hS rfl rfl trivial fun β a w hS => ?_
      have hS := hS.reidx (L' := outL n 1 cap') (env' := [(0, .d (u64 n)), (1, .d (i64 b)), (5, .d (outT 1 cap')), (6, .d (i64 (1 : Nat)))]) [1] (by decide)
        ⟨⟨_, rfl, rfl, rfl, rfl, rfl, fun _ _ => rfl⟩, fun _ _ => trivial, rfl, trivial⟩
        ⟨rfl, trivial, rfl, trivial, rfl, Nat.zero_lt_succ _, rfl, trivial, trivial⟩ (fun k hk => by rw [pinsOf_len] at hk; exact absurd hk (Nat.not_lt_zero _)) (fun j k hj hk => Nat.zero_le _)
      exact ⟨(1, cap'), _, hlt, Nat.sub_lt_sub_left hlt (Nat.lt_succ_self 0), hS⟩
    | succ i =>
      have hS : Ste T w0 (pinsOf β0 0 0 G) Try.f29.ntmps [] [(0, .d (u64 n)), (1, .d (i64 b)), (5, .d (.os 0 (i + 1) cap)), (6, .d (i64 (i + 1 : Nat)))] [] [.row 5 1 (i + 1) (rowD (le n (i + 1))) cap] β a w := Ste.sub hS ⟨rfl, rfl, rfl, rfl, trivial⟩
      refine regp K0 hS rfl ⟨by decide, by rw [IntKind.wrap_u64]; omega, trivial⟩ fun β a w hS => ?_
      refine appo K0 hS [0, 1, 6] 1 (fun _ => .v (.int .u8 (by8 (nn n (i + 1))))) (rowD (le n (i + 2))) rfl rfl rfl rfl rfl rfl rfl rfl rfl rfl rfl
        (by rw [pinsOf_len]; exact Nat.zero_le _) ⟨trivial, trivial, trivial, trivial⟩ ⟨.inl rfl, .inr fun j hj => (by have : j = 0 := by omega
                                                                                                                       subst this; trivial), trivial⟩ (fun j _ => trivial) (.inr ⟨1, 1, 1, _, 1, rfl, ⟨_, rfl⟩, Nat.le_refl _, fun j hj => ?_⟩) (fun j _ => trivial) (fun j hj => ?_) (fun j hj => ?_) (by simp only [maxLen]; omega) (by show (i + 1 + 1) * 1 ≤ _; omega) fun cap' β a w hS => ?_
      · have : j = 0 := by omega
        subst this
        show D.v (.int .u8 (IntKind.u8.wrap (shrI .u64 n (IntKind.u64.wrap (IntKind.i64.wrap (8 * ((i + 1 : Nat) : Int))))))) = _
        rw [sh8 n (by omega)]
      · have := rowS [] n (i + 1) j (by simpa using hj)
        simpa using this
      · have := rowN [] n (i + 1) j hj
        simpa using this
      refine rege K0 [0, 1, 5, 6] hS rfl rfl trivial fun β a w hS => ?_
      refine reg K0 [0, 1, 5, 6] hS rfl rfl trivial fun β a w hS => ?_
      have hS := hS.drop (L1 := [_]) (J := [_]) rfl (by rw [pinsOf_len]; exact Nat.zero_le _) ⟨trivial, Nat.zero_lt_one, trivial, trivial, trivial⟩ ⟨fun j _ => trivial, trivial⟩
      exact ⟨(i + 2, cap'), β, hlt, Nat.sub_lt_sub_left hlt (Nat.lt_succ_self _), Ste.sub hS ⟨rfl, rfl, rfl, up1d hlt (by simp only [maxLen]; omega), trivial⟩⟩
  · have hge : i = b := by have : ¬ ((i : Int) < b) := by simpa using hge
                           omega
    subst hge
    cases i with
    | zero =>
      have hS : Ste T w0 (pinsOf β0 0 0 G) Try.f29.ntmps [] [(5, .d nilD)] [] [] β a w := Ste.sub hS ⟨rfl, trivial⟩
      refine regS K0 [4] hS rfl rfl ⟨⟨rfl, fun j hj => absurd hj (Nat.not_lt_zero _)⟩, trivial⟩ fun β a w hS => ?_
      exact wp_ret (fret1 K0 rfl hS rfl trivial rfl)
    | succ i =>
      have hS : Ste T w0 (pinsOf β0 0 0 G) Try.f29.ntmps [] [(5, .d (.os 0 (i + 1) cap))] [] [.row 5 1 (i + 1) (rowD (le n (i + 1))) cap] β a w := Ste.sub hS ⟨rfl, trivial⟩
      refine regS K0 [4] hS rfl rfl ⟨⟨rfl, Nat.le_refl _, fun j hj => ⟨_, rfl⟩⟩, trivial⟩ fun β a w hS => ?_
      refine wp_ret (fret1 K0 rfl hS rfl trivial ?_)
      rw [bytesOf, le_len]

theorem e_refNum : Enters Try.prog 29 := enters_of Try.func29 rfl (by kernel_rfl)
theorem c_four (n : Int) : Fun Try.prog T 30 [i32 n] fun y => y = .v (.string (bytesOf (le (IntKind.u64.wrap (IntKind.u32.wrap n)) 4))) := by
  refine Con.intro Try.func30 rfl rfl rfl rfl fun G w0 β0 β a w hS => ?_
  refine regS K0 [0] hS rfl rfl trivial fun β a w hS => ?_
  refine wp_seq (regp K0 hS rfl trivial fun β a w hS => ?_)
  refine call0 e_refNum (c_refNum (IntKind.u64.wrap (IntKind.u32.wrap n)) 4 (by omega)) hS [] rfl rfl rfl rfl rfl ⟨trivial, trivial, trivial⟩ rfl ?_
  rintro y rfl β a w hS
  refine rege K0 [2] hS rfl rfl trivial fun β a w hS => ?_
  exact wp_ret (fret1 K0 rfl hS rfl trivial rfl)
theorem e_four : Enters Try.prog 30 := enters_of Try.func30 rfl (by kernel_rfl)

def CD : Calls' := fun f ds => match ds with
  | [.v (.int .u64 n), .v (.int .i64 b)] => if Nat.beq f 29 then some (.v (.string (bytesOf (le n b.toNat))), .c (0 ≤ b ∧ b ≤ 8)) else none
  | [.v (.int .i32 n)] => if Nat.beq f 30 then some (.v (.string (bytesOf (le (IntKind.u64.wrap (IntKind.u32.wrap n)) 4))), .t) else none
  | _ => none
theorem CD_ok : COk Try.prog T CD := by
  intro f ds d q h hq
  unfold CD at h
  split at h
  · split at h
    · rename_i n b hf
      have hf := Nat.eq_of_beq_eq_true hf
      subst hf
      simp only [Option.some.injEq, Prod.mk.injEq] at h
      obtain ⟨rfl, rfl⟩ := h
      have hq : 0 ≤ b ∧ b ≤ 8 := hq
      have h1 := (c_refNum n b.toNat (by omega)).pure ⟨trivial, trivial, trivial⟩
      have e : ((b.toNat : Nat) : Int) = b := by omega
      rw [e] at h1
      exact ⟨e_refNum, h1, fun _ _ => rfl⟩
    · cases h
  · split at h
    · rename_i n hf
      have hf := Nat.eq_of_beq_eq_true hf
      subst hf
      simp only [Option.some.injEq, Prod.mk.injEq] at h
      obtain ⟨rfl, rfl⟩ := h
      exact ⟨e_four, (c_four n).pure ⟨trivial, trivial⟩, fun _ _ => rfl⟩
    · cases h
  · cases h
theorem KD : Kit Try.prog T CD := ⟨tab_ok, zero_ok, CD_ok, mixed⟩

end Go.CE

/- Contract: a state's bytes as the document writes them. -/
namespace Go.CE
open Go.RowKit Go.Proofs

theorem b0 : (⟨#[0]⟩ : ByteArray) = bytesOf (le 0 1) := by rw [bytesOf_data]; rfl
theorem b1 : (⟨#[1]⟩ : ByteArray) = bytesOf (le 1 1) := by rw [bytesOf_data]; rfl
def strD (l : List Int) : D := .v (.string (bytesOf l))

theorem c_refPut (x : Value) (s : State) (hn : s.game.n ≤ 32) : Fun Try.prog T 12 [stateD x s] fun y => y = strD (putB s) := by
  have hml : (9223372036854775807 : Nat) = maxLen := rfl
  refine Con.intro Try.func12 rfl rfl rfl rfl fun G w0 β0 β a w hS => ?_
  refine regS K0 [1] hS rfl rfl trivial fun β a w hS => ?_
  refine regqS KD [1, 3] (by kernel_rfl) hS rfl rfl ⟨?_, ⟨by decide, by decide⟩, ⟨by decide, by decide⟩, trivial⟩ fun a w hS => ?_
  · show (bytesOf (le _ 4)).size + (bytesOf (le _ 8)).size ≤ _
    simp only [bytesOf_size, le_len]
    decide
  have hS : Ste T w0 (pinsOf β0 0 0 G) Try.f12.ntmps [] [(1, .d (.p 0 [])), (3, .d (strD (put1 s)))] [] [.var 35 (stateD x s)] β a w := Ste.sub hS ⟨rfl, by rw [strD, put1, ← bytesOf_app]; rfl, trivial⟩
  have hl1 := put1_len s
  refine wp_seq ?_
  refine regS K0 [1, 3, 4] hS rfl rfl trivial fun β a w hS => ?_
  refine wp_block ?_
  refine lop (fun i : Nat => 8 - i) (fun i => i ≤ 8) (fun i => [(1, .d (.p 0 [])), (3, .d (strD (put1 s ++ flat shipB s.game.ships i))), (4, .d (i64 i))]) (fun i => [.var 35 (stateD x s)]) 0 (Nat.zero_le _) (Ste.sub hS ⟨rfl, by simp only [flat, List.range_zero, List.flatMap_nil, List.append_nil]; rfl, rfl, trivial⟩) ?_
  intro i hi β a w hS
  have hl2 := flat_len shipB s.game.ships 22 shipB_len i
  refine wp_seq ?_
  refine regS K0 [1, 3, 4, 20] hS rfl rfl trivial fun β a w hS => ?_
  refine cnd hS rfl (fun hlt => wp_skip ?_) (fun hge => wp_exit ?_)
  · have hlt : i < 8 := by have : (i : Int) < 8 := by simpa using hlt
                           omega
    refine wp_seq ?_
    refine wp_block ?_
    refine regS K0 [1, 3, 4, 5] hS rfl rfl ⟨⟨by omega, by omega⟩, trivial⟩ fun β a w hS => ?_
    refine wp_seq ?_
    refine regS K0 [1, 3, 4, 5, 30] hS rfl rfl trivial fun β a w hS => ?_
    refine cnd hS rfl (fun h => ?_) (fun h => wp_skip ?_)
    · have h : (s.game.ships i).on = false := by
        have h : (!(s.game.ships i).on) = true := h
        simpa using h
      refine regS K0 [1, 3, 4] hS rfl rfl ⟨?_, trivial⟩ fun β a w hS => ?_
      · show (bytesOf (put1 s ++ flat shipB s.game.ships i)).size + 1 ≤ _
        simp only [bytesOf_size, List.length_append]
        omega
      refine wp_exit ?_
      refine reg K0 [1, 3, 4] hS rfl rfl trivial fun β a w hS => ?_
      have hS := hS.drop (L1 := [_]) (J := [_]) rfl (by rw [pinsOf_len]; exact Nat.zero_le _) ⟨trivial, trivial, Nat.zero_lt_one, trivial⟩ ⟨Cl.idx _ _ (state_cl x s), trivial⟩
      refine ⟨i + 1, β, hlt, Nat.sub_lt_sub_left hlt (Nat.lt_succ_self i), Ste.sub hS ⟨rfl, ?_, up8 hlt, trivial⟩⟩
      show some (B.d (.v (.string (bytesOf (put1 s ++ flat shipB s.game.ships i) ++ ⟨#[0]⟩)))) = _
      rw [b0, bytesOf_app, flat_succ, shipB, if_neg (by rw [h]; simp), ← List.append_assoc]
      rfl
    · have h : (s.game.ships i).on = true := by
        have h : (!(s.game.ships i).on) = false := h
        simpa using h
      refine regq KD [1, 3, 4] (by kernel_rfl) hS rfl rfl ?_ fun a w hS => ?_
      · refine ⟨?_, ⟨by decide, by decide⟩, ?_, ⟨by decide, by decide⟩, ?_, ?_, ?_, ?_, ?_, trivial⟩ <;>
        · show (ByteArray.size _) + (ByteArray.size _) ≤ _
          simp only [ByteArray.size_append, bytesOf_size, List.length_append, le_len, b1]
          omega
      refine reg K0 [1, 3, 4] hS rfl rfl trivial fun β a w hS => ?_
      have hS := hS.drop (L1 := [_]) (J := [_]) rfl (by rw [pinsOf_len]; exact Nat.zero_le _) ⟨trivial, trivial, Nat.zero_lt_one, trivial⟩ ⟨Cl.idx _ _ (state_cl x s), trivial⟩
      refine ⟨i + 1, β, hlt, Nat.sub_lt_sub_left hlt (Nat.lt_succ_self i), Ste.sub hS ⟨rfl, ?_, up8 hlt, trivial⟩⟩
      show some (B.d (.v (.string (((((((bytesOf (put1 s ++ flat shipB s.game.ships i) ++ ⟨#[1]⟩) ++ bytesOf (le (cv (s.game.ships i).x) 4)) ++ bytesOf (le (cv (s.game.ships i).y) 4)) ++ bytesOf (le (cv (s.game.ships i).vx) 4)) ++ bytesOf (le (cv (s.game.ships i).vy) 4)) ++ bytesOf (le (IntKind.u64.wrap (s.game.ships i).cool) 1)) ++ bytesOf (le (IntKind.u64.wrap (s.game.ships i).score) 4))))) = _
      rw [b1]
      simp only [bytesOf_app, flat_succ, shipB, h, if_true, strD, quadB, List.range_succ, List.range_zero, List.nil_append, List.flatMap_append, List.flatMap_cons, List.flatMap_nil, List.append_nil, shipQ, List.append_assoc, List.cons_append]
  · have hge : i = 8 := by have : ¬ ((i : Int) < 8) := by simpa using hge
                           omega
    subst hge
    refine regS KD [1, 3] hS rfl rfl ⟨?_, ⟨by decide, by decide⟩, trivial⟩ fun β a w hS => ?_
    · show (bytesOf (put1 s ++ flat shipB s.game.ships 8)).size + (bytesOf (le _ 1)).size ≤ _
      simp only [bytesOf_size, List.length_append, le_len]
      omega
    have hS : Ste T w0 (pinsOf β0 0 0 G) Try.f12.ntmps [] [(1, .d (.p 0 [])), (3, .d (strD (put2 s)))] [] [.var 35 (stateD x s)] β a w := Ste.sub hS ⟨rfl, by rw [strD, put2, ← bytesOf_app _ (le _ 1)]; rfl, trivial⟩
    have hl3 := put2_len s
    refine wp_seq ?_
    refine regS K0 [1, 3, 6] hS rfl rfl trivial fun β a w hS => ?_
    refine wp_block ?_
    refine lop (fun i : Nat => s.game.n - i) (fun i => i ≤ s.game.n) (fun i => [(1, .d (.p 0 [])), (3, .d (strD (put2 s ++ flat shotB s.game.shots i))), (6, .d (i64 i))]) (fun i => [.var 35 (stateD x s)]) 0 (Nat.zero_le _) (Ste.sub hS ⟨rfl, by simp only [flat, List.range_zero, List.flatMap_nil, List.append_nil]; rfl, rfl, trivial⟩) ?_
    intro i hi β a w hS
    have hl4 := flat_len shotB s.game.shots 18 shotB_len i
    refine wp_seq ?_
    refine regS K0 [1, 3, 6, 74] hS rfl rfl trivial fun β a w hS => ?_
    refine cnd hS rfl (fun hlt => wp_skip ?_) (fun hge => wp_exit ?_)
    · have hlt : i < s.game.n := by simpa using hlt
      refine wp_seq ?_
      refine wp_block ?_
      refine regS K0 [1, 3, 6, 7] hS rfl rfl ⟨⟨by omega, by omega, rfl⟩, trivial⟩ fun β a w hS => ?_
      refine regq KD [1, 3, 6] (by kernel_rfl) hS rfl rfl ?_ fun a w hS => ?_
      · refine ⟨?_, ⟨by decide, by decide⟩, ?_, ?_, ?_, ?_, ?_, ⟨by decide, by decide⟩, trivial⟩ <;>
        · show (ByteArray.size _) + (ByteArray.size _) ≤ _
          simp only [ByteArray.size_append, bytesOf_size, List.length_append, le_len]
          omega
      refine reg K0 [1, 3, 6] hS rfl rfl trivial fun β a w hS => ?_
      have hS := hS.drop (L1 := [_]) (J := [_]) rfl (by rw [pinsOf_len]; exact Nat.zero_le _) ⟨trivial, trivial, Nat.zero_lt_one, trivial⟩ ⟨Cl.idx _ _ (state_cl x s), trivial⟩
      refine ⟨i + 1, β, hlt, Nat.sub_lt_sub_left hlt (Nat.lt_succ_self i), Ste.sub hS ⟨rfl, ?_, up1d hlt (by simp only [maxLen]; omega), trivial⟩⟩
      show some (B.d (.v (.string ((((((bytesOf (put2 s ++ flat shotB s.game.shots i) ++ bytesOf (le (IntKind.u64.wrap (s.game.shots i).owner) 1)) ++ bytesOf (le (cv (s.game.shots i).x) 4)) ++ bytesOf (le (cv (s.game.shots i).y) 4)) ++ bytesOf (le (cv (s.game.shots i).vx) 4)) ++ bytesOf (le (cv (s.game.shots i).vy) 4)) ++ bytesOf (le (IntKind.u64.wrap (s.game.shots i).life) 1))))) = _
      simp only [bytesOf_app, flat_succ, shotB, strD, quadB, List.range_succ, List.range_zero, List.nil_append, List.flatMap_append, List.flatMap_cons, List.flatMap_nil, List.append_nil, shotQ, List.append_assoc, List.cons_append]
    · have hge : i = s.game.n := by have : ¬ ((i : Int) < s.game.n) := by simpa using hge
                                    omega
      subst hge
      refine regS KD [1, 3] hS rfl rfl ⟨?_, ⟨by decide, by decide⟩, trivial⟩ fun β a w hS => ?_
      · show (bytesOf (put2 s ++ flat shotB s.game.shots s.game.n)).size + (bytesOf (le _ 4)).size ≤ _
        simp only [bytesOf_size, List.length_append, le_len]
        omega
      have hS : Ste T w0 (pinsOf β0 0 0 G) Try.f12.ntmps [] [(1, .d (.p 0 [])), (3, .d (strD (put3 s)))] [] [.var 35 (stateD x s)] β a w := Ste.sub hS ⟨rfl, by rw [strD, put3, ← bytesOf_app _ (le _ 4)]; rfl, trivial⟩
      have hl5 := put3_len s hn
      refine wp_seq ?_
      refine regS K0 [1, 3, 8] hS rfl rfl trivial fun β a w hS => ?_
      refine wp_block ?_
      refine lop (fun i : Nat => 8 - i) (fun i => i ≤ 8) (fun i => [(1, .d (.p 0 [])), (3, .d (strD (put3 s ++ flat seatBy s.roster.seats i))), (8, .d (i64 i))]) (fun i => [.var 35 (stateD x s)]) 0 (Nat.zero_le _) (Ste.sub hS ⟨rfl, by simp only [flat, List.range_zero, List.flatMap_nil, List.append_nil]; rfl, rfl, trivial⟩) ?_
      intro i hi β a w hS
      have hl6 := flat_len seatBy s.roster.seats 3 seatB_len i
      refine wp_seq ?_
      refine regS K0 [1, 3, 8, 118] hS rfl rfl trivial fun β a w hS => ?_
      refine cnd hS rfl (fun hlt => wp_skip ?_) (fun hge => wp_exit ?_)
      · have hlt : i < 8 := by have : (i : Int) < 8 := by simpa using hlt
                               omega
        refine wp_seq ?_
        refine wp_block ?_
        refine regq KD [1, 3, 8] (by kernel_rfl) hS rfl rfl ⟨?_, ⟨by decide, by decide⟩, ⟨by omega, by omega⟩, ?_, ⟨by decide, by decide⟩, ⟨by omega, by omega⟩, trivial⟩ fun a w hS => ?_
        · show (ByteArray.size _) + (ByteArray.size _) ≤ _
          simp only [ByteArray.size_append, bytesOf_size, List.length_append, le_len]
          omega
        · show (ByteArray.size _) + (ByteArray.size _) ≤ _
          simp only [bytesOf_size, List.length_append, le_len]
          omega
        refine reg K0 [1, 3, 8] hS rfl rfl trivial fun β a w hS => ?_
        refine ⟨i + 1, β, hlt, Nat.sub_lt_sub_left hlt (Nat.lt_succ_self i), Ste.sub hS ⟨rfl, ?_, up8 hlt, trivial⟩⟩
        show some (B.d (.v (.string ((bytesOf (put3 s ++ flat seatBy s.roster.seats i) ++ bytesOf (le (IntKind.u64.wrap (IntKind.i64.wrap ((s.roster.seats i).peer + 1))) 1)) ++ bytesOf (le (IntKind.u64.wrap (s.roster.seats i).gen) 2))))) = _
        simp only [bytesOf_app, flat_succ, seatBy, strD, List.append_assoc]
      · have hge : i = 8 := by have : ¬ ((i : Int) < 8) := by simpa using hge
                               omega
        subst hge
        refine regS K0 [2] hS rfl rfl trivial fun β a w hS => ?_
        exact wp_ret (fret1 K0 rfl hS rfl trivial rfl)

end Go.CE

/- Contracts: where the document's games begin. -/
namespace Go.CE
open Go.RowKit Go.Proofs

def shot0 : Shot := ⟨0, 0, 0, 0, 0, 0⟩
def game0 (s : ByteArray) : Game := ⟨0, fnv s s.size, fun _ => ship0, 0, fun _ => shot0⟩
def roster0 : Roster := ⟨0, fun _ => ⟨-1, 0⟩⟩
def state0 (s : ByteArray) : State := ⟨game0 s, roster0⟩
def nilV : Value := .slice none 0 0

theorem c_new (s : ByteArray) (hs : s.size ≤ maxLen) : Fun Try.prog T 49 [.v (.string s)] fun y => y = gameD nilV (game0 s) := by
  refine Con.intro Try.func49 rfl rfl rfl rfl fun G w0 β0 β a w hS => ?_
  refine regS K0 [0, 2] hS rfl rfl trivial fun β a w hS => ?_
  refine wp_seq (regp K0 hS rfl trivial fun β a w hS => ?_)
  refine call0 e_rseed (c_rseed s hs) hS [2] rfl rfl rfl rfl rfl ⟨trivial, trivial⟩ rfl ?_
  rintro y rfl β a w hS
  refine rege K0 [2] hS rfl rfl trivial fun β a w hS => ?_
  exact wp_ret (fret1 K0 rfl hS rfl (game_cl nilV (game0 s)) rfl)

/-- The roster while its seats are made empty. -/
def sI (i j : Nat) : Seat := ⟨if j < i then -1 else 0, 0⟩
def rI (i : Nat) : D := rosterD ⟨0, sI i⟩
theorem rI_succ (i : Nat) : rI (i + 1) = .st 33 [i64 0, .ar 8 2 fun j => if j = i then seatD ⟨-1, 0⟩ else seatD (sI i j)] := by
  have : (fun j => seatD (sI (i + 1) j)) = fun j => if j = i then seatD ⟨-1, 0⟩ else seatD (sI i j) := by
    funext j
    by_cases h : j = i
    · subst h; simp [sI]
    · rw [if_neg h]
      have : (j < i + 1) = (j < i) := by simp only [eq_iff_iff]; omega
      simp only [sI, this]
  unfold rI rosterD
  rw [this]

theorem c_newRoster : Fun Try.prog T 50 [] fun y => y = rosterD ⟨0, sI 8⟩ := by
  refine Con.intro Try.func50 rfl rfl rfl rfl fun G w0 β0 β a w hS => ?_
  refine regS K0 [0] hS rfl rfl trivial fun β a w hS => ?_
  refine regS K0 [0, 1] hS rfl rfl trivial fun β a w hS => ?_
  refine wp_seq (regS K0 [0, 1, 2] hS rfl rfl trivial fun β a w hS => ?_)
  have e0 : rI 0 = rosterD ⟨0, fun _ => ⟨0, 0⟩⟩ := by
    have : sI 0 = fun _ => ⟨0, 0⟩ := by funext j; simp [sI]
    simp only [rI, this]
  refine wp_block (lop (fun i : Nat => 8 - i) (fun i => i ≤ 8) (fun i => [(0, .d (.p 0 [])), (1, .d (.p 1 [])), (2, .d (i64 i))]) (fun i => [.var 33 (rosterD ⟨0, fun _ => ⟨0, 0⟩⟩), .var 33 (rI i)]) 0 (Nat.zero_le _) (by
    show Ste T w0 _ _ _ _ _ [_, .var _ (rI 0)] β a w
    rw [e0]
    exact Ste.sub hS ⟨rfl, rfl, rfl, trivial⟩) ?_)
  intro i hi β a w hS
  refine wp_seq (regS K0 [0, 1, 2, 4] hS rfl rfl trivial fun β a w hS => ?_)
  refine cnd hS rfl (fun hlt => wp_skip ?_) (fun hge => wp_exit ?_)
  · have hlt : i < 8 := by have : (i : Int) < 8 := by simpa using hlt
                           omega
    refine wp_seq (wp_block ?_)
    refine reg K0 [0, 1, 2] hS rfl rfl ⟨⟨by omega, by omega⟩, trivial⟩ fun β a w hS => ?_
    refine reg K0 [0, 1, 2] hS rfl rfl trivial fun β a w hS => ?_
    refine ⟨i + 1, β, hlt, Nat.sub_lt_sub_left hlt (Nat.lt_succ_self i), ?_⟩
    show Ste T w0 _ _ _ _ _ [_, .var _ (rI (i + 1))] β a w
    rw [rI_succ]
    exact Ste.sub hS ⟨rfl, rfl, up8 hlt, trivial⟩
  · have hge : i = 8 := by have : ¬ ((i : Int) < 8) := by simpa using hge
                           omega
    subst hge
    refine regS K0 [0] hS rfl rfl trivial fun β a w hS => ?_
    exact wp_ret (fret1 K0 rfl hS rfl (roster_cl _) rfl)

/-- Where all begins. -/
def startS (s : ByteArray) : State := ⟨game0 s, ⟨0, sI 8⟩⟩
theorem e_rnew : Enters Try.prog 49 := enters_of Try.func49 rfl (by kernel_rfl)
theorem e_rnewRoster : Enters Try.prog 50 := enters_of Try.func50 rfl (by kernel_rfl)
theorem e_rstart : Enters Try.prog 23 := enters_of Try.func23 rfl (by kernel_rfl)

theorem c_start (s : ByteArray) (hs : s.size ≤ maxLen) : Fun Try.prog T 23 [.v (.string s)] fun y => y = stateD nilV (startS s) := by
  refine Con.intro Try.func23 rfl rfl rfl rfl fun G w0 β0 β a w hS => ?_
  refine regS K0 [0, 2] hS rfl rfl trivial fun β a w hS => ?_
  refine wp_seq (regp K0 hS rfl trivial fun β a w hS => ?_)
  refine call0 e_rnew (c_new s hs) hS [2] rfl rfl rfl rfl rfl ⟨trivial, trivial⟩ rfl ?_
  rintro y rfl β a w hS
  refine call0 e_rnewRoster c_newRoster hS [2, 4] rfl rfl rfl rfl rfl trivial rfl ?_
  rintro y rfl β a w hS
  refine rege K0 [2] hS rfl rfl trivial fun β a w hS => ?_
  exact wp_ret (fret1 K0 rfl hS rfl (state_cl nilV (startS s)) rfl)

end Go.CE

/- Contracts: bytes that are read. -/
namespace Go.CE
open Go.RowKit Go.Proofs

variable {w0 w : World} {pins : Pins} {N : Nat} {env : Env} {gs : List Nat} {L : List Ent} {β : Nat → Nat} {a : Act} {ds : List Deferred}

/-- What a reader panics with. -/
def badV : Value := .iface 77 (.agg #[])

theorem bad_build {o : Oper} (hop : o.op = .build 77 #[]) : (execOp a.eval o).run Try.prog w = .ok (.value (.agg #[])) w := by
  have h1 : (Try.prog.info? 77).map (fun i => (i.zero, i.size, i.bytes)) = some (some (.agg #[]), 0, 0) := by kernel_rfl
  obtain ⟨i, hi, hz, _⟩ := info_parts h1
  have h2 : Try.prog.underlying 77 = some (.struct #[]) := by kernel_rfl
  simp [execOp, hop, Instr.build, zeroValue, typeInfo, hi, hz, run_underlying h2, Value.cells]
  rfl

theorem bad_iface {o : Oper} {t : Nat} (hop : o.op = .makeInterface 77 (.tmp t)) (ht : a.tmps.getD t undef = .agg #[]) : (execOp a.eval o).run Try.prog w = .ok (.value badV) w := by
  have h2 : Try.prog.underlying 77 = some (.struct #[]) := by kernel_rfl
  simp only [execOp, hop, Act.eval, ht, Instr.makeInterface]
  simp [run_underlying h2, badV]

theorem bad_panic {o : Oper} {t : Nat} (hop : o.op = .panic (.tmp t)) (ht : a.tmps.getD t undef = badV) : (execOp a.eval o).run Try.prog w = .halt (.panic badV) w := by
  simp only [execOp, hop, Act.eval, ht, Instr.panic, badV]
  rfl

/-- The three operations of 'panic(wrong{})'. -/
theorem die {l : List Oper} {o1 o2 o3 : Oper} {Q : Exit → Act → World → Prop} {t u : Nat} (hl : l = [o1, o2, o3]) (hS : Ste T w0 pins N ds env [] L β a w) (ht : t < N) (hu : u < N)
    (h1 : o1.op = .build 77 #[] ∧ o1.dst = some t ∧ o1.guard = none) (h2 : o2.op = .makeInterface 77 (.tmp t) ∧ o2.dst = some u ∧ o2.guard = none) (h3 : o3.op = .panic (.tmp u) ∧ o3.guard = none)
    (hk : ∀ a', Ste T w0 pins N ds [] [] L β a' w → Q (.panic [{ v := badV, recovered := false }]) a' w) {id : Nat} : (Code.region id l.toArray false).wp Try.prog Q a w := by
  refine wp_region_lit ?_
  have hS0 : Ste T w0 pins N ds [] [] L β a w := Ste.sub hS trivial
  have hS1 := hS0.putU (d := t) rfl (.agg #[])
  have hS2 := hS1.putU (d := u) rfl badV
  rw [hl]
  unfold wpList
  rw [if_pos (by simp [Region.wanted, h1.2.2])]
  left
  unfold Oper.wp
  rw [bad_build h1.1, Oper.upon_value, h1.2.1]
  show wpList _ _ _ [o2, o3] (a.put (some t) (.agg #[])) w
  unfold wpList
  rw [if_pos (by simp [Region.wanted, h2.2.2])]
  left
  unfold Oper.wp
  rw [bad_iface h2.1 (by rw [Act.put_some]; exact getD_set_eq' (by rw [hS.ss.n]; exact ht)), Oper.upon_value, h2.2.1]
  show wpList _ _ _ [o3] ((a.put (some t) (.agg #[])).put (some u) badV) w
  unfold wpList
  rw [if_pos (by simp [Region.wanted, h3.2])]
  left
  unfold Oper.wp
  rw [bad_panic h3.1 (by rw [Act.put_some]; exact getD_set_eq' (by rw [Act.put_some, Array.size_setIfInBounds, hS.ss.n]; exact hu))]
  exact hk _ hS2

/-- The reader's block: what is left to be read. -/
def rdL (x : Value) (l : List Int) : List Ent := [.var 80 (.st 80 [.sl 1 x l.length (rowD l)])]
/-- A number out of the first bytes. -/
def rdN (l : List Int) : Nat → Int
  | 0 => 0
  | i + 1 => bitI .or .u64 (rdN l i) (shlI .u64 (IntKind.u64.wrap (l.getD i 0)) (IntKind.u64.wrap (IntKind.i64.wrap (8 * (i : Int)))))

theorem rowD_drop (l : List Int) (i j : Nat) : rowD (l.drop i) j = rowD l (i + j) := by simp [rowD, List.getD_eq_getElem?_getD, List.getElem?_drop]

theorem c_rnum (x : Value) (l : List Int) (b : Nat) (hb : b ≤ 8) :
    ConG Try.prog T 32 [.p 0 [], i64 b] (rdL x l) 1 fun o y L1 => (b ≤ l.length ∧ o = none ∧ y = u64 (rdN l b) ∧ ∃ x', L1 = rdL x' (l.drop b)) ∨ (l.length < b ∧ o = some badV ∧ y = .tup [] ∧ L1 = rdL x l) := by
  refine ConG.intro Try.func32 rfl rfl rfl rfl fun G w0 β0 β a w hS => ?_
  refine regS K0 [0, 1] hS rfl rfl trivial fun β a w hS => ?_
  refine wp_seq (regS K0 [0, 1, 13] hS rfl rfl trivial fun β a w hS => ?_)
  refine cnd hS rfl (fun h => ?_) (fun h => wp_skip ?_)
  · have h : l.length < b := by have h : decide ((l.length : Int) < (b : Int)) = true := h
                                simpa using h
    refine die rfl hS (t := 14) (u := 15) (by decide) (by decide) ⟨rfl, rfl, rfl⟩ ⟨rfl, rfl, rfl⟩ ⟨rfl, rfl⟩ fun a hS => ?_
    refine ⟨hS.df, ?_⟩
    exact SS.dies (L1 := rdL x l) (J := []) (y := .tup []) hS.ss (.inr ⟨h, rfl, rfl, rfl⟩) (Nat.le_refl _) ⟨⟨trivial, trivial⟩, trivial⟩ (fun _ _ => trivial)
  · have h : b ≤ l.length := by have h : decide ((l.length : Int) < (b : Int)) = false := h
                                simp only [decide_eq_false_iff_not] at h
                                omega
    refine regS K0 [0, 1, 5] hS rfl rfl trivial fun β a w hS => ?_
    refine wp_seq (wp_seq (reg K0 [0, 1, 5, 16, 17] hS rfl rfl trivial fun β a w hS => ?_))
    refine wp_block (lop (fun i : Nat => b - i) (fun i => i ≤ b) (fun i => [(0, .d (.p 0 [])), (1, .d (i64 b)), (5, .d (u64 (rdN l i))), (16, .d (i64 b)), (17, .d (i64 i))]) (fun _ => rdL x l) 0 (Nat.zero_le _) (Ste.sub hS ⟨rfl, rfl, rfl, rfl, rfl, trivial⟩) ?_)
    intro i hi β a w hS
    refine regS K0 [0, 1, 5, 16, 17, 18] hS rfl rfl trivial fun β a w hS => ?_
    refine wp_seq (cnd hS rfl (fun hlt => wp_skip ?_) (fun hge => wp_exit ?_))
    · have hlt : i < b := by simpa using hlt
      refine wp_seq (wp_block ?_)
      refine regS K0 [0, 1, 5, 6, 16, 17] hS rfl rfl trivial fun β a w hS => ?_
      refine reg K0 [0, 1, 5, 16, 17] hS rfl rfl ⟨u64_nn _, ⟨by omega, by omega, rfl⟩, trivial⟩ fun β a w hS => ?_
      refine reg K0 [0, 1, 5, 16, 17] hS rfl rfl trivial fun β a w hS => ?_
      exact ⟨i + 1, β, hlt, Nat.sub_lt_sub_left hlt (Nat.lt_succ_self i), Ste.sub hS ⟨rfl, rfl, rfl, rfl, up1d hlt (by simp only [maxLen]; omega), trivial⟩⟩
    · have hge : i = b := by have : ¬ ((i : Int) < b) := by simpa using hge
                             omega
      subst hge
      refine wp_seq (regp K0 hS rfl trivial fun β a w hS => ?_)
      refine resl K0 hS i (rowD (l.drop i)) rfl rfl rfl rfl rfl rfl rfl rfl rfl h (fun j _ => rowD_drop l i j) fun x' a hS => ?_
      refine rege K0 [5] hS rfl rfl trivial fun β a w hS => ?_
      refine regS K0 [4] hS rfl rfl trivial fun β a w hS => ?_
      have e1 : l.length - i = (l.drop i).length := by rw [List.length_drop]
      refine wp_ret (gret1 K0 rfl hS rfl (rdL x' (l.drop i)) [] ?_ rfl ⟨⟨trivial, trivial⟩, trivial⟩ _ rfl rfl (.inl ⟨h, rfl, rfl, x', rfl⟩))
      rw [List.append_nil]
      unfold rdL
      rw [← e1]
      rfl

theorem e_rnum : Enters Try.prog 32 := enters_of Try.func32 rfl (by kernel_rfl)
theorem e_small : Enters Try.prog 33 := enters_of Try.func33 rfl (by kernel_rfl)

def rdS (l : List Int) : Int := IntKind.i32.wrap (IntKind.u32.wrap (rdN l 4))

theorem c_small (x : Value) (l : List Int) :
    ConG Try.prog T 33 [.p 0 []] (rdL x l) 1 fun o y L1 => (4 ≤ l.length ∧ o = none ∧ y = i32 (rdS l) ∧ ∃ x', L1 = rdL x' (l.drop 4)) ∨ (l.length < 4 ∧ o = some badV ∧ y = .tup [] ∧ L1 = rdL x l) := by
  refine ConG.intro Try.func33 rfl rfl rfl rfl fun G w0 β0 β a w hS => ?_
  refine regS K0 [0] hS rfl rfl trivial fun β a w hS => ?_
  refine wp_seq (regp K0 hS rfl trivial fun β a w hS => ?_)
  refine callfG e_rnum (c_rnum x l 4 (by omega)) hS [0] [0] rfl rfl rfl rfl rfl (by decide) rfl rfl rfl ⟨Nat.zero_lt_one, trivial, trivial⟩ ⟨⟨_, rfl, rfl, rfl⟩, ⟨trivial, trivial⟩, rfl, trivial⟩ ?_ ?_
  · rintro v y L1 (⟨_, h, _⟩ | ⟨h, hv, rfl, rfl⟩) β w hS
    · cases h
    · cases hv
      refine ⟨hS.df, ?_⟩
      exact SS.dies (L1 := rdL x l) (J := []) (y := .tup []) hS.ss (.inr ⟨h, rfl, rfl, rfl⟩) (Nat.le_refl _) ⟨⟨trivial, trivial⟩, trivial⟩ (fun _ _ => trivial)
  · rintro y L1 (⟨h, _, rfl, x', rfl⟩ | ⟨_, h, _⟩) β a w hS
    · refine rege K0 [2] hS rfl rfl trivial fun β a w hS => ?_
      exact wp_ret (gret1 K0 rfl hS rfl (rdL x' (l.drop 4)) [] rfl rfl ⟨⟨trivial, trivial⟩, trivial⟩ _ rfl rfl (.inl ⟨h, rfl, rfl, x', rfl⟩))
    · cases h

end Go.CE

/- Contracts: what is done when reading ends. -/
namespace Go.CE
open Go.RowKit Go.Proofs

variable {w0 w : World} {pins : Pins} {N : Nat} {env : Env} {gs : List Nat} {L : List Ent} {β : Nat → Nat} {a : Act} {ds : List Deferred}

theorem wrong_assert : ∀ w : World, (Instr.typeAssert badV 20 77 true).run Try.prog w = .ok (.tuple #[.agg #[], .bool true]) w := by
  intro w
  simp [Instr.typeAssert, badV]
theorem wrong_none : ∀ w : World, (Instr.typeAssert .nilIface 20 77 true).run Try.prog w = .ok (.tuple #[.agg #[], .bool false]) w := by
  intro w
  have h1 : (Try.prog.info? 77).map (fun i => (i.zero, i.size, i.bytes)) = some (some (.agg #[]), 0, 0) := by kernel_rfl
  obtain ⟨i, hi, hz, _⟩ := info_parts h1
  have h2 : Try.prog.underlying 77 = some (.struct #[]) := by kernel_rfl
  simp [Instr.typeAssert, run_underlying h2, zeroValue, typeInfo, hi, hz]

theorem wrong_alloc (w : World) : (Instr.alloc 77 true (.tuple #[])).run Try.prog w = .ok (.pointer (some ⟨w.heap.size, 0, none⟩)) (w.alloc (.cells #[] 77)) := by
  have h1 : (Try.prog.info? 77).map (fun i => (i.zero, i.size, i.bytes)) = some (some (.agg #[]), 0, 0) := by kernel_rfl
  obtain ⟨i, hi, hz, _⟩ := info_parts h1
  simp [Instr.alloc, zeroValue, typeInfo, hi, hz, newVar, newRow, Value.cells]

theorem wrong_store (w : World) (p : Addr) : (Instr.storeAt 77 (.pointer (some p)) (.agg #[])).run Try.prog w = .ok () w := by
  have h1 : (Try.prog.info? 77).map (fun i => (i.zero, i.size, i.bytes)) = some (some (.agg #[]), 0, 0) := by kernel_rfl
  obtain ⟨i, hi, _, hs, _⟩ := info_parts h1
  simp [Instr.storeAt, Instr.sureAddr, storeVar, sizeOf, typeInfo, hi, hs, Value.cells, storeCells]

/-- What is laid down in the frame of the deferred function, ahead of its test. -/
def recA (a : Act) (b : Bool) (rv : Value) (n : Nat) : Act := (((((((a.put (some 5) rv).put (some 6) (.tuple #[.agg #[], .bool b])).put (some 4) (.tuple #[.agg #[], .bool b])).put (some 7) (.agg #[])).put (some 8) (.bool b)).put (some 2) (.pointer (some ⟨n, 0, none⟩))).put none undef).put (some 3) (.bool b)

section
variable {P : Program} {ops : Array Oper} {Q : Exit → Act → List Frame → World → Prop} {cs : List Frame} {rest : List Nat} {o : Oper} {i : Nat} {v : Value} {w' : World} {d : Option Nat}
theorem opS_value (ho : ops[i]? = some o) (hd : o.dst = d) (hg : o.guard = none) (hr : (execOp a.eval o).run P w = .ok (.value v) w') (hk : wpOpsS P ops Q rest (a.put d v) cs w') : wpOpsS P ops Q (i :: rest) a cs w := by
  subst hd
  simp only [wpOpsS, ho]
  rw [if_pos (by simp [Region.wanted, hg]), hr]
  exact hk
theorem opS_skip (ho : ops[i]? = some o) (hd : o.dst = d) (hg : o.guard = none) (hr : (execOp a.eval o).run P w = .ok .skip w') (hk : wpOpsS P ops Q rest (a.put d undef) cs w') : wpOpsS P ops Q (i :: rest) a cs w := by
  subst hd
  simp only [wpOpsS, ho]
  rw [if_pos (by simp [Region.wanted, hg]), hr]
  exact hk
theorem opS_rec {cs' : List Frame} (ho : ops[i]? = some o) (hd : o.dst = d) (hg : o.guard = none) (hr : (execOp a.eval o).run P w = .ok .recover w') (hc : recoverD cs = some (v, cs')) (hk : wpOpsS P ops Q rest (a.put d v) cs' w') : wpOpsS P ops Q (i :: rest) a cs w := by
  subst hd
  simp only [wpOpsS, ho]
  rw [if_pos (by simp [Region.wanted, hg]), hr]
  simp only [hc]
  exact hk
theorem opS_recN (ho : ops[i]? = some o) (hd : o.dst = d) (hg : o.guard = none) (hr : (execOp a.eval o).run P w = .ok .recover w') (hc : recoverD cs = none) (hk : wpOpsS P ops Q rest (a.put d .nilIface) cs w') : wpOpsS P ops Q (i :: rest) a cs w := by
  subst hd
  simp only [wpOpsS, ho]
  rw [if_pos (by simp [Region.wanted, hg]), hr]
  simp only [hc]
  exact hk
end

theorem ex_assert {o : Oper} {t : Nat} (hop : o.op = .typeAssert (.tmp t) 20 77 true) (ht : a.tmps.getD t undef = badV) : (execOp a.eval o).run Try.prog w = .ok (.value (.tuple #[.agg #[], .bool true])) w := by
  simp only [execOp, hop, Act.eval, ht, Sem.run_bind, wrong_assert, Result.andThen_ok, Sem.run_pure]
theorem ex_assertN {o : Oper} {t : Nat} (hop : o.op = .typeAssert (.tmp t) 20 77 true) (ht : a.tmps.getD t undef = .nilIface) : (execOp a.eval o).run Try.prog w = .ok (.value (.tuple #[.agg #[], .bool false])) w := by
  simp only [execOp, hop, Act.eval, ht, Sem.run_bind, wrong_none, Result.andThen_ok, Sem.run_pure]
theorem ex_move {o : Oper} {t : Nat} {v : Value} (hop : o.op = .move (.tmp t)) (ht : a.tmps.getD t undef = v) : (execOp a.eval o).run Try.prog w = .ok (.value v) w := by
  simp only [execOp, hop, Act.eval, ht, Sem.run_pure]
theorem ex_assign {o : Oper} {t : Nat} {v : Value} (hop : o.op = .assign (.tmp t)) (ht : a.tmps.getD t undef = v) : (execOp a.eval o).run Try.prog w = .ok (.value v) w := by
  simp only [execOp, hop, Act.eval, ht, Sem.run_pure]
theorem ex_extract0 {o : Oper} {t : Nat} {u v : Value} (hop : o.op = .extract (.tmp t) 0) (ht : a.tmps.getD t undef = .tuple #[u, v]) : (execOp a.eval o).run Try.prog w = .ok (.value u) w := by
  simp only [execOp, hop, Act.eval, ht]
  rfl
theorem ex_extract1 {o : Oper} {t : Nat} {u v : Value} (hop : o.op = .extract (.tmp t) 1) (ht : a.tmps.getD t undef = .tuple #[u, v]) : (execOp a.eval o).run Try.prog w = .ok (.value v) w := by
  simp only [execOp, hop, Act.eval, ht]
  rfl
theorem ex_alloc {o : Oper} (hop : o.op = .alloc 77) : (execOp a.eval o).run Try.prog w = .ok (.value (.pointer (some ⟨w.heap.size, 0, none⟩))) (w.alloc (.cells #[] 77)) := by
  simp only [execOp, hop, Sem.run_bind, wrong_alloc, Result.andThen_ok, Sem.run_pure]
theorem ex_store {o : Oper} {t u : Nat} {p : Addr} (hop : o.op = .store 77 (.tmp t) (.tmp u)) (ht : a.tmps.getD t undef = .pointer (some p)) (hu : a.tmps.getD u undef = .agg #[]) : (execOp a.eval o).run Try.prog w = .ok .skip w := by
  simp only [execOp, hop, Act.eval, ht, hu, Sem.run_bind, wrong_store, Result.andThen_ok, Sem.run_pure]

theorem pz (x : Act) (d : Nat) (v : Value) : (x.put (some d) v).tmps.size = x.tmps.size := by simp [Act.put]
theorem pg (x : Act) (d : Nat) (v : Value) (h : d < x.tmps.size) : (x.put (some d) v).tmps.getD d undef = v := by rw [Act.put_some]; exact getD_set_eq' h
theorem pn (x : Act) (d t : Nat) (v u : Value) (h : d ≠ t) (ht : x.tmps.getD t undef = u) : (x.put (some d) v).tmps.getD t undef = u := by rw [Act.put_some, getD_set_ne' h]; exact ht

theorem rec0 {Q : Exit → Act → List Frame → World → Prop} {c₀ : Frame} {cs : List Frame} {older : List PanicEntry} {o0 o1 o2 o3 o4 o5 o6 o7 : Oper}
    (h0 : o0.op = .call ⟨.builtin .recover, #[], #[]⟩ ∧ o0.dst = some 5 ∧ o0.guard = none) (h1 : o1.op = .typeAssert (.tmp 5) 20 77 true ∧ o1.dst = some 6 ∧ o1.guard = none) (h2 : o2.op = .move (.tmp 6) ∧ o2.dst = some 4 ∧ o2.guard = none)
    (h3 : o3.op = .extract (.tmp 4) 0 ∧ o3.dst = some 7 ∧ o3.guard = none) (h4 : o4.op = .extract (.tmp 4) 1 ∧ o4.dst = some 8 ∧ o4.guard = none) (h5 : o5.op = .alloc 77 ∧ o5.dst = some 2 ∧ o5.guard = none)
    (h6 : o6.op = .store 77 (.tmp 2) (.tmp 7) ∧ o6.dst = none ∧ o6.guard = none) (h7 : o7.op = .assign (.tmp 8) ∧ o7.dst = some 3 ∧ o7.guard = none)
    (hu : c₀.mode = .panicking ({ v := badV, recovered := false } :: older)) (hn : a.tmps.size = 11)
    (hk : Q .normal (recA a true badV w.heap.size) ({ c₀ with mode := .panicking ({ v := badV, recovered := true } :: older) } :: cs) (w.alloc (.cells #[] 77))) : (Code.region 0 #[o0, o1, o2, o3, o4, o5, o6, o7] false).wpS Try.prog Q a (c₀ :: cs) w := by
  refine wpS_region ?_
  show wpOpsS _ _ _ [0, 1, 2, 3, 4, 5, 6, 7] _ _ _
  refine opS_rec (o := o0) (w' := w) (d := some 5) (v := badV) (cs' := { c₀ with mode := .panicking ({ v := badV, recovered := true } :: older) } :: cs) rfl h0.2.1 h0.2.2 (by simp only [execOp, h0.1]; rfl) (by simp [recoverD, hu, badV]) ?_
  refine opS_value (o := o1) (w' := w) (d := some 6) (v := .tuple #[.agg #[], .bool true]) rfl h1.2.1 h1.2.2 (ex_assert (t := 5) h1.1 (pg _ 5 _ (by omega))) ?_
  refine opS_value (o := o2) (w' := w) (d := some 4) (v := .tuple #[.agg #[], .bool true]) rfl h2.2.1 h2.2.2 (ex_move (t := 6) h2.1 (pg _ 6 _ (by rw [pz]; omega))) ?_
  have g4 := pg ((a.put (some 5) badV).put (some 6) (.tuple #[.agg #[], .bool true])) 4 (.tuple #[.agg #[], .bool true]) (by rw [pz, pz]; omega)
  refine opS_value (o := o3) (w' := w) (d := some 7) (v := .agg #[]) rfl h3.2.1 h3.2.2 (ex_extract0 (t := 4) h3.1 g4) ?_
  refine opS_value (o := o4) (w' := w) (d := some 8) (v := .bool true) rfl h4.2.1 h4.2.2 (ex_extract1 (t := 4) h4.1 (pn _ 7 4 _ _ (by decide) g4)) ?_
  refine opS_value (o := o5) (d := some 2) (w' := w.alloc (.cells #[] 77)) (v := .pointer (some ⟨w.heap.size, 0, none⟩)) rfl h5.2.1 h5.2.2 (ex_alloc h5.1) ?_
  refine opS_skip (o := o6) (d := none) (w' := w.alloc (.cells #[] 77)) rfl h6.2.1 h6.2.2 (ex_store (t := 2) (u := 7) h6.1 (pg _ 2 _ (by rw [pz, pz, pz, pz, pz]; omega)) (pn _ 2 7 _ _ (by decide) (pn _ 8 7 _ _ (by decide) (pg _ 7 _ (by rw [pz, pz, pz]; omega))))) ?_
  refine opS_value (o := o7) (d := some 3) (w' := w.alloc (.cells #[] 77)) (v := .bool true) rfl h7.2.1 h7.2.2 (ex_assign (t := 8) h7.1 (by rw [Act.put_none]; exact pn _ 2 8 _ _ (by decide) (pg _ 8 _ (by rw [pz, pz, pz, pz]; omega)))) ?_
  exact hk

theorem rec1 {Q : Exit → Act → List Frame → World → Prop} {c₀ : Frame} {cs : List Frame} {o0 o1 o2 o3 o4 o5 o6 o7 : Oper}
    (h0 : o0.op = .call ⟨.builtin .recover, #[], #[]⟩ ∧ o0.dst = some 5 ∧ o0.guard = none) (h1 : o1.op = .typeAssert (.tmp 5) 20 77 true ∧ o1.dst = some 6 ∧ o1.guard = none) (h2 : o2.op = .move (.tmp 6) ∧ o2.dst = some 4 ∧ o2.guard = none)
    (h3 : o3.op = .extract (.tmp 4) 0 ∧ o3.dst = some 7 ∧ o3.guard = none) (h4 : o4.op = .extract (.tmp 4) 1 ∧ o4.dst = some 8 ∧ o4.guard = none) (h5 : o5.op = .alloc 77 ∧ o5.dst = some 2 ∧ o5.guard = none)
    (h6 : o6.op = .store 77 (.tmp 2) (.tmp 7) ∧ o6.dst = none ∧ o6.guard = none) (h7 : o7.op = .assign (.tmp 8) ∧ o7.dst = some 3 ∧ o7.guard = none)
    (hu : c₀.mode = .returning) (hn : a.tmps.size = 11)
    (hk : Q .normal (recA a false .nilIface w.heap.size) (c₀ :: cs) (w.alloc (.cells #[] 77))) : (Code.region 0 #[o0, o1, o2, o3, o4, o5, o6, o7] false).wpS Try.prog Q a (c₀ :: cs) w := by
  refine wpS_region ?_
  show wpOpsS _ _ _ [0, 1, 2, 3, 4, 5, 6, 7] _ _ _
  refine opS_recN (o := o0) (w' := w) (d := some 5) rfl h0.2.1 h0.2.2 (by simp only [execOp, h0.1]; rfl) (by simp [recoverD, hu]) ?_
  refine opS_value (o := o1) (w' := w) (d := some 6) (v := .tuple #[.agg #[], .bool false]) rfl h1.2.1 h1.2.2 (ex_assertN (t := 5) h1.1 (pg _ 5 _ (by omega))) ?_
  refine opS_value (o := o2) (w' := w) (d := some 4) (v := .tuple #[.agg #[], .bool false]) rfl h2.2.1 h2.2.2 (ex_move (t := 6) h2.1 (pg _ 6 _ (by rw [pz]; omega))) ?_
  have g4 := pg ((a.put (some 5) .nilIface).put (some 6) (.tuple #[.agg #[], .bool false])) 4 (.tuple #[.agg #[], .bool false]) (by rw [pz, pz]; omega)
  refine opS_value (o := o3) (w' := w) (d := some 7) (v := .agg #[]) rfl h3.2.1 h3.2.2 (ex_extract0 (t := 4) h3.1 g4) ?_
  refine opS_value (o := o4) (w' := w) (d := some 8) (v := .bool false) rfl h4.2.1 h4.2.2 (ex_extract1 (t := 4) h4.1 (pn _ 7 4 _ _ (by decide) g4)) ?_
  refine opS_value (o := o5) (d := some 2) (w' := w.alloc (.cells #[] 77)) (v := .pointer (some ⟨w.heap.size, 0, none⟩)) rfl h5.2.1 h5.2.2 (ex_alloc h5.1) ?_
  refine opS_skip (o := o6) (d := none) (w' := w.alloc (.cells #[] 77)) rfl h6.2.1 h6.2.2 (ex_store (t := 2) (u := 7) h6.1 (pg _ 2 _ (by rw [pz, pz, pz, pz, pz]; omega)) (pn _ 2 7 _ _ (by decide) (pn _ 8 7 _ _ (by decide) (pg _ 7 _ (by rw [pz, pz, pz]; omega))))) ?_
  refine opS_value (o := o7) (d := some 3) (w' := w.alloc (.cells #[] 77)) (v := .bool false) rfl h7.2.1 h7.2.2 (ex_assign (t := 8) h7.1 (by rw [Act.put_none]; exact pn _ 2 8 _ _ (by decide) (pg _ 8 _ (by rw [pz, pz, pz, pz]; omega)))) ?_
  exact hk


end Go.CE

/- Contracts: the deferred function of image.Get. -/
namespace Go.CE
open Go.RowKit Go.Proofs

variable {w0 w : World} {pins : Pins} {N : Nat} {env : Env} {gs : List Nat} {L : List Ent} {β : Nat → Nat} {a : Act} {ds : List Deferred}

theorem Ste.putB {b : Bool} {d : Nat} (h : Ste T w0 pins N ds env [] L β a w) (hd : d < N) : Ste T w0 pins N ds ((d, .d (bol b)) :: env) [] L β (a.put (some d) (.bool b)) w := ⟨h.ss.set (x := bol b) hd rfl rfl rfl, by rw [Act.put_defers]; exact h.df⟩
theorem recA_tmps {b : Bool} {rv : Value} {n : Nat} (hS : Ste T w0 pins N ds [(1, .d (.p 1 [])), (0, .d (.p 0 []))] [] L β a w) (hN : 3 < N) :
    Ste T w0 pins N ds [(3, .d (bol b)), (1, .d (.p 1 [])), (0, .d (.p 0 []))] [] L β (recA a b rv n) w := by
  have h1 := hS.putU (d := 5) rfl rv
  have h2 := h1.putU (d := 6) rfl (.tuple #[.agg #[], .bool b])
  have h3 := h2.putU (d := 4) rfl (.tuple #[.agg #[], .bool b])
  have h4 := h3.putU (d := 7) rfl (.agg #[])
  have h5 := h4.putU (d := 8) rfl (.bool b)
  have h6 := h5.putU (d := 2) rfl (.pointer (some ⟨n, 0, none⟩))
  unfold recA
  rw [Act.put_none]
  exact h6.putB hN

theorem c_get1_dies (es : List D) (k : Int) : ConD Try.prog T 31 [.p 0 [], .p 1 []] [.var 35 (.st 35 es), .var 3 (i64 k)] (.panicking [{ v := badV, recovered := false }]) (.panicking [{ v := badV, recovered := true }]) [.var 35 row35.zero, .var 3 (i64 2)] := by
  refine ConD.intro Try.func31 rfl rfl rfl fun G w0 β0 β a w c₀ cs hu hS => ?_
  refine wpS_seq (rec0 ⟨rfl, rfl, rfl⟩ ⟨rfl, rfl, rfl⟩ ⟨rfl, rfl, rfl⟩ ⟨rfl, rfl, rfl⟩ ⟨rfl, rfl, rfl⟩ ⟨rfl, rfl, rfl⟩ ⟨rfl, rfl, rfl⟩ ⟨rfl, rfl, rfl⟩ hu hS.ss.n ?_)
  have hS := recA_tmps (b := true) (rv := badV) (n := w.heap.size) hS (by decide)
  have hS : Ste T w0 _ _ _ _ _ _ β _ (w.alloc (.cells #[] 77)) := ⟨hS.ss.below (below_alloc _ _), hS.df⟩
  refine wpS_of_wp ?_
  refine wp_seq (reg K0 [0, 1, 9] hS rfl rfl trivial fun β a w hS => ?_)
  refine cnd hS rfl (fun h => ?_) (fun h => absurd h (by decide))
  refine reg K0 [] hS rfl rfl trivial fun β a w hS => ?_
  refine ⟨hS.df, _, rfl, _, results_none rfl _ _ _, rfl, ?_⟩
  have hv : (Value.tuple #[]) = (D.tup []).val T β := by simp [D.val, D.cells, D.isAgg, D.valL]
  rw [hv]
  exact SS.front (L1 := [_, _]) (J := []) hS.ss ⟨rfl, rfl⟩ (Nat.le_refl _) ⟨Cl.idx _ _ (state_cl nilV ⟨⟨0, 0, fun _ => ship0, 0, fun _ => shot0⟩, ⟨0, fun _ => ⟨0, 0⟩⟩⟩), trivial, trivial⟩ trivial

theorem c_get1_returns (es : List D) (k : Int) (hi : Idx (· < 2) (.st 35 es)) : ConD Try.prog T 31 [.p 0 [], .p 1 []] [.var 35 (.st 35 es), .var 3 (i64 k)] .returning .returning [.var 35 (.st 35 es), .var 3 (i64 k)] := by
  refine ConD.intro Try.func31 rfl rfl rfl fun G w0 β0 β a w c₀ cs hu hS => ?_
  refine wpS_seq (rec1 ⟨rfl, rfl, rfl⟩ ⟨rfl, rfl, rfl⟩ ⟨rfl, rfl, rfl⟩ ⟨rfl, rfl, rfl⟩ ⟨rfl, rfl, rfl⟩ ⟨rfl, rfl, rfl⟩ ⟨rfl, rfl, rfl⟩ ⟨rfl, rfl, rfl⟩ hu hS.ss.n ?_)
  have hS := recA_tmps (b := false) (rv := .nilIface) (n := w.heap.size) hS (by decide)
  have hS : Ste T w0 _ _ _ _ _ _ β _ (w.alloc (.cells #[] 77)) := ⟨hS.ss.below (below_alloc _ _), hS.df⟩
  refine wpS_of_wp ?_
  refine wp_seq (reg K0 [0, 1, 9] hS rfl rfl trivial fun β a w hS => ?_)
  refine cnd hS rfl (fun h => absurd h (by decide)) (fun h => wp_skip ?_)
  have hS := Ste.sub (e := []) hS trivial
  refine ⟨hS.df, _, hu ▸ rfl, _, results_none rfl _ _ _, rfl, ?_⟩
  have hv : (Value.tuple #[]) = (D.tup []).val T β := by simp [D.val, D.cells, D.isAgg, D.valL]
  rw [hv]
  exact SS.front (L1 := [_, _]) (J := []) hS.ss ⟨rfl, rfl⟩ (Nat.le_refl _) ⟨hi, trivial, trivial⟩ trivial

end Go.CE

/- Contract: slices.Equal of bytes. -/
namespace Go.CE
open Go.RowKit Go.Proofs

def eqB (l m : List Int) : Bool := decide (l.length = m.length) && (List.range l.length).all fun i => l.getD i 0 == m.getD i 0

theorem c_equal (x y : Value) (l m : List Int) : Fun Try.prog T 34 [.sl 1 x l.length (rowD l), .sl 1 y m.length (rowD m)] fun z => z = bol (eqB l m) := by
  refine Con.intro Try.func34 rfl rfl rfl rfl fun G w0 β0 β a w hS => ?_
  have hn : l.length ≤ maxLen := sl_len (hS.ss.tmp 0 _ rfl).2
  refine regS K0 [0, 1] hS rfl rfl trivial fun β a w hS => ?_
  refine wp_seq (regS K0 [0, 1, 10] hS rfl rfl trivial fun β a w hS => ?_)
  refine cnd hS rfl (fun h => ?_) (fun h => wp_skip ?_)
  · refine regS K0 [4] hS rfl rfl trivial fun β a w hS => ?_
    refine wp_ret (fret1 K0 rfl hS rfl trivial ?_)
    have h : ((l.length : Int) != (m.length : Int)) = true := h
    have h : l.length ≠ m.length := by simp only [bne_iff_ne, ne_eq] at h; omega
    simp only [eqB, h, decide_false, Bool.false_and]
    rfl
  · have h : ((l.length : Int) != (m.length : Int)) = false := h
    have h : l.length = m.length := by simp only [bne_eq_false_iff_eq] at h; omega
    refine wp_seq (regS K0 [0, 1, 12, 13] hS rfl rfl trivial fun β a w hS => ?_)
    refine wp_block (lop (fun i : Nat => l.length - i) (fun i => i ≤ l.length ∧ ∀ j, j < i → (l.getD j 0 == m.getD j 0) = true) (fun i => [(0, .d (.sl 1 x l.length (rowD l))), (1, .d (.sl 1 y m.length (rowD m))), (12, .d (i64 l.length)), (13, .d (i64 i))]) (fun _ => []) 0 ⟨Nat.zero_le _, fun j hj => absurd hj (Nat.not_lt_zero _)⟩ (Ste.sub hS ⟨rfl, rfl, rfl, rfl, trivial⟩) ?_)
    rintro i ⟨hi, hp⟩ β a w hS
    refine regS K0 [0, 1, 12, 13, 14] hS rfl rfl trivial fun β a w hS => ?_
    refine wp_seq (cnd hS rfl (fun hlt => wp_skip ?_) (fun hge => wp_exit ?_))
    · have hlt : i < l.length := by simpa using hlt
      refine wp_seq (wp_block ?_)
      refine regS K0 [0, 1, 5, 12, 13] hS rfl rfl trivial fun β a w hS => ?_
      refine wp_seq (regq K0 [0, 1, 12, 13, 24] (by kernel_rfl) hS rfl rfl ⟨⟨by omega, by omega, rfl⟩, ⟨by omega, by omega, rfl⟩, trivial⟩ fun a w hS => ?_)
      refine cnd hS rfl (fun hb => ?_) (fun hb => wp_skip ?_)
      · refine regS K0 [4] hS rfl rfl trivial fun β a w hS => ?_
        refine wp_ret (fret1 K0 rfl hS rfl trivial ?_)
        have hb : (l.getD i 0 != m.getD i 0) = true := hb
        have : ((List.range l.length).all fun i => l.getD i 0 == m.getD i 0) = false := by
          rw [List.all_eq_false]
          exact ⟨i, by simpa using hlt, by simpa using hb⟩
        simp only [eqB, this, Bool.and_false]
        rfl
      · have hb : (l.getD i 0 == m.getD i 0) = true := by
          have hb : (l.getD i 0 != m.getD i 0) = false := hb
          simpa using hb
        refine reg K0 [0, 1, 12, 13] hS rfl rfl trivial fun β a w hS => ?_
        exact ⟨i + 1, β, ⟨by omega, fun j hj => by rcases Nat.lt_succ_iff_lt_or_eq.1 hj with h | rfl; exact hp j h; exact hb⟩, by omega, Ste.sub hS ⟨rfl, rfl, rfl, up1d hlt hn, trivial⟩⟩
    · have hge : i = l.length := by have : ¬ ((i : Int) < l.length) := by simpa using hge
                                    omega
      subst hge
      refine regS K0 [4] hS rfl rfl trivial fun β a w hS => ?_
      refine wp_ret (fret1 K0 rfl hS rfl trivial ?_)
      have : ((List.range l.length).all fun i => l.getD i 0 == m.getD i 0) = true := by
        rw [List.all_eq_true]
        intro j hj
        exact hp j (by simpa using hj)
      unfold eqB
      rw [this, h, decide_eq_true rfl]
      rfl

end Go.CE

/- Contracts: a state out of its bytes: what is read, and how a reader is asked. -/
namespace Go.CE
open Go.RowKit Go.Proofs

/-! ### What is read -/

def rd (b : Nat) (l : List Int) : Option (Int × List Int) := if b ≤ l.length then some (rdN l b, l.drop b) else none
def rs (l : List Int) : Option (Int × List Int) := if 4 ≤ l.length then some (rdS l, l.drop 4) else none
def bindR {α γ : Type} (x : Option (α × List Int)) (k : α → List Int → Option γ) : Option γ := match x with
  | some (a, l) => k a l
  | none => none
theorem rd_yes {γ : Type} {b : Nat} {l : List Int} (h : b ≤ l.length) (k : Int → List Int → Option γ) : bindR (rd b l) k = k (rdN l b) (l.drop b) := by simp [bindR, rd, h]
theorem rd_no {γ : Type} {b : Nat} {l : List Int} (h : l.length < b) (k : Int → List Int → Option γ) : bindR (rd b l) k = none := by simp [bindR, rd, Nat.not_le_of_lt h]
theorem rs_yes {γ : Type} {l : List Int} (h : 4 ≤ l.length) (k : Int → List Int → Option γ) : bindR (rs l) k = k (rdS l) (l.drop 4) := by simp [bindR, rs, h]
theorem rs_no {γ : Type} {l : List Int} (h : l.length < 4) (k : Int → List Int → Option γ) : bindR (rs l) k = none := by simp [bindR, rs, Nat.not_le_of_lt h]

def i64w (n : Int) : Int := IntKind.i64.wrap n
def decShip (l : List Int) : Option (Ship × List Int) := bindR (rd 1 l) fun c l => if (c == 1) = true then
    bindR (rs l) fun x l => bindR (rs l) fun y l => bindR (rs l) fun vx l => bindR (rs l) fun vy l => bindR (rd 1 l) fun cool l => bindR (rd 4 l) fun score l => some (⟨true, x, y, vx, vy, i64w cool, i64w score⟩, l)
  else some (ship0, l)
def decShot (l : List Int) : Option (Shot × List Int) := bindR (rd 1 l) fun o l => bindR (rs l) fun x l => bindR (rs l) fun y l => bindR (rs l) fun vx l => bindR (rs l) fun vy l => bindR (rd 1 l) fun life l => some (⟨i64w o, x, y, vx, vy, i64w life⟩, l)
def decSeat (l : List Int) : Option (Seat × List Int) := bindR (rd 1 l) fun p l => bindR (rd 2 l) fun g l => some (⟨IntKind.i64.wrap (i64w p - 1), i64w g⟩, l)
def upd {α : Type} (f : Nat → α) (i : Nat) (x : α) (j : Nat) : α := if j = i then x else f j
def decN {α : Type} (dec : List Int → Option (α × List Int)) (z : α) : Nat → List Int → Option ((Nat → α) × List Int)
  | 0, l => some (fun _ => z, l)
  | i + 1, l => bindR (decN dec z i l) fun f l => bindR (dec l) fun s l => some (upd f i s, l)
def decode (l : List Int) : Option State := bindR (rd 4 l) fun fr l => bindR (rd 8 l) fun di l => bindR (decN decShip ship0 8 l) fun ships l => bindR (rd 1 l) fun n l => bindR (decN decShot shot0 n.toNat l) fun shots l =>
  bindR (rd 4 l) fun ve l => bindR (decN decSeat ⟨0, 0⟩ 8 l) fun seats _ => some ⟨⟨i64w fr, di, ships, n.toNat, shots⟩, ⟨i64w ve, seats⟩⟩
def zeroS : State := ⟨⟨0, 0, fun _ => ship0, 0, fun _ => shot0⟩, ⟨0, fun _ => ⟨0, 0⟩⟩⟩
/-- A state out of its bytes; and the code. -/
def getB (l : List Int) : State × Int := match decode l with
  | some s => if (mayStateB s && eqB (putB s) l) = true then (s, 0) else (zeroS, 2)
  | none => (zeroS, 2)
theorem getB_none {l : List Int} (h : decode l = none) : getB l = (zeroS, 2) := by simp [getB, h]
theorem decN_lt {α : Type} {dec : List Int → Option (α × List Int)} {z : α} {l : List Int} {i n : Nat} (h : i ≤ n) (hn : decN dec z i l = none) : decN dec z n l = none := by
  induction n with
  | zero =>
    have : i = 0 := by omega
    subst this
    exact hn
  | succ n ih =>
    by_cases e : i = n + 1
    · subst e; exact hn
    · simp only [decN, ih (by omega), bindR]

/-! ### The blocks of a function that reads -/

variable {w0 w : World} {pins : Pins} {N : Nat} {env : Env} {gs : List Nat} {L : List Ent} {β : Nat → Nat} {a : Act} {ds : List Deferred}

/-- A state's tree, its shots' header told as it may be. -/
def stD (t : D) (fr di : Int) (ships : Nat → Ship) (ro : Roster) : D := .st 35 [.st 28 [i64 fr, u64 di, .ar 8 7 fun i => shipD (ships i), t], rosterD ro]
def gL (t : D) (fr di : Int) (ships : Nat → Ship) (ro : Roster) (k : Int) (x : Value) (l : List Int) (J : List Ent) : List Ent := .var 35 (stD t fr di ships ro) :: .var 3 (i64 k) :: .var 80 (.st 80 [.sl 1 x l.length (rowD l)]) :: J

section
variable {t : D} {fr di : Int} {ships : Nat → Ship} {ro : Roster} {k : Int} {x : Value} {l : List Int} {J : List Ent} {m rest : List Oper} {Q : Exit → Act → World → Prop} {o : Oper} {args : List Operand} {ty : Array TypeId} {env2 : Env}

theorem numR {b : Nat} (hb : b ≤ 8) (hS : Ste T w0 pins N ds env gs (gL t fr di ships ro k x l J) β a w) (ts : List Nat) (hg : o.guard = none) (hop : o.op = .call ⟨.value (.func 32), ⟨args⟩, ty⟩) (hx : opds (lkU env) args = some [.p 2 [], i64 b]) (hdst : dstB N o.dst = true) (he : keepE env ts [] = some env2)
    (hbad : l.length < b → ∀ β' w', Ste T w0 pins N ds env2 [] (gL t fr di ships ro k x l J) β' a w' → Q (.panic [{ v := badV, recovered := false }]) a w')
    (hk : b ≤ l.length → ∀ x' β' a' w', Ste T w0 pins N ds (dstE o.dst (u64 (rdN l b)) env2) [] (gL t fr di ships ro k x' (l.drop b) J) β' a' w' → wpList Try.prog m.toArray Q rest a' w') : wpList Try.prog m.toArray Q (o :: rest) a w := by
  have hJ : ∀ (r : Nat → Nat) y z, putE r [2] [Ent.var y z] (gL t fr di ships ro k x l J) = (Ent.var 35 (stD t fr di ships ro) :: .var 3 (i64 k) :: (Ent.var y z).ren r :: J) ++ [] := fun _ _ _ => rfl
  refine callfG e_rnum (c_rnum x l b hb) hS ts [2] hg hop rfl hx hdst (by decide) rfl he rfl ⟨Nat.zero_lt_one, trivial, trivial⟩ ⟨⟨_, rfl, rfl, rfl⟩, ⟨trivial, trivial⟩, rfl, trivial⟩ ?_ ?_
  · rintro v y L1 (⟨_, h, _⟩ | ⟨h, hv, rfl, rfl⟩) β w hS
    · cases h
    · cases hv
      unfold rdL at hS
      rw [hJ, List.append_nil] at hS
      exact hbad h β w hS
  · rintro y L1 (⟨h, _, rfl, x', rfl⟩ | ⟨_, h, _⟩) β a w hS
    · unfold rdL at hS
      rw [hJ, List.append_nil] at hS
      exact hk h x' β a w hS
    · cases h
theorem smallR (hS : Ste T w0 pins N ds env gs (gL t fr di ships ro k x l J) β a w) (ts : List Nat) (hg : o.guard = none) (hop : o.op = .call ⟨.value (.func 33), ⟨args⟩, ty⟩) (hx : opds (lkU env) args = some [.p 2 []]) (hdst : dstB N o.dst = true) (he : keepE env ts [] = some env2)
    (hbad : l.length < 4 → ∀ β' w', Ste T w0 pins N ds env2 [] (gL t fr di ships ro k x l J) β' a w' → Q (.panic [{ v := badV, recovered := false }]) a w')
    (hk : 4 ≤ l.length → ∀ x' β' a' w', Ste T w0 pins N ds (dstE o.dst (i32 (rdS l)) env2) [] (gL t fr di ships ro k x' (l.drop 4) J) β' a' w' → wpList Try.prog m.toArray Q rest a' w') : wpList Try.prog m.toArray Q (o :: rest) a w := by
  have hJ : ∀ (r : Nat → Nat) y z, putE r [2] [Ent.var y z] (gL t fr di ships ro k x l J) = (Ent.var 35 (stD t fr di ships ro) :: .var 3 (i64 k) :: (Ent.var y z).ren r :: J) ++ [] := fun _ _ _ => rfl
  refine callfG e_small (c_small x l) hS ts [2] hg hop rfl hx hdst (by decide) rfl he rfl ⟨Nat.zero_lt_one, trivial⟩ ⟨⟨_, rfl, rfl, rfl⟩, ⟨trivial, trivial⟩, rfl, trivial⟩ ?_ ?_
  · rintro v y L1 (⟨_, h, _⟩ | ⟨h, hv, rfl, rfl⟩) β w hS
    · cases h
    · cases hv
      unfold rdL at hS
      rw [hJ, List.append_nil] at hS
      exact hbad h β w hS
  · rintro y L1 (⟨h, _, rfl, x', rfl⟩ | ⟨_, h, _⟩) β a w hS
    · unfold rdL at hS
      rw [hJ, List.append_nil] at hS
      exact hk h x' β a w hS
    · cases h
end

/-- The three operations of 'panic(wrong{})'. -/
theorem dieE {e2 : Env} {l : List Oper} {o1 o2 o3 : Oper} {Q : Exit → Act → World → Prop} {t u : Nat} (hl : l = [o1, o2, o3]) (hS : Ste T w0 pins N ds env [] L β a w) (hs : subEnv env e2) (n1 : look t e2 = none) (n2 : look u e2 = none) (ht : t < N) (hu : u < N)
    (h1 : o1.op = .build 77 #[] ∧ o1.dst = some t ∧ o1.guard = none) (h2 : o2.op = .makeInterface 77 (.tmp t) ∧ o2.dst = some u ∧ o2.guard = none) (h3 : o3.op = .panic (.tmp u) ∧ o3.guard = none)
    (hk : ∀ a', Ste T w0 pins N ds e2 [] L β a' w → Q (.panic [{ v := badV, recovered := false }]) a' w) {id : Nat} : (Code.region id l.toArray false).wp Try.prog Q a w := by
  refine wp_region_lit ?_
  have hS0 : Ste T w0 pins N ds e2 [] L β a w := Ste.sub hS hs
  have hS1 := hS0.putU (d := t) n1 (.agg #[])
  have hS2 := hS1.putU (d := u) n2 badV
  rw [hl]
  unfold wpList
  rw [if_pos (by simp [Region.wanted, h1.2.2])]
  left
  unfold Oper.wp
  rw [bad_build h1.1, Oper.upon_value, h1.2.1]
  show wpList _ _ _ [o2, o3] (a.put (some t) (.agg #[])) w
  unfold wpList
  rw [if_pos (by simp [Region.wanted, h2.2.2])]
  left
  unfold Oper.wp
  rw [bad_iface h2.1 (by rw [Act.put_some]; exact getD_set_eq' (by rw [hS.ss.n]; exact ht)), Oper.upon_value, h2.2.1]
  show wpList _ _ _ [o3] ((a.put (some t) (.agg #[])).put (some u) badV) w
  unfold wpList
  rw [if_pos (by simp [Region.wanted, h3.2])]
  left
  unfold Oper.wp
  rw [bad_panic h3.1 (by rw [Act.put_some]; exact getD_set_eq' (by rw [Act.put_some, Array.size_setIfInBounds, hS.ss.n]; exact hu))]
  exact hk _ hS2


theorem e_get1 : Enters Try.prog 31 := enters_of Try.func31 rfl (by kernel_rfl)

/-- What is deferred. -/
def gDfr (β : Nat → Nat) : Deferred := dfrOf T β 31 [.p 0 [], .p 1 []]

/-- An answer behind a deferred call. -/
theorem gAns {w00 : World} {β0 β1 : Nat → Nat} {G : Nat → Prop} {R : D → Prop} {d e : D} {v : Value} (hK : ∀ w', Keep w0 (pinsOf β1 2 2 G) w' → Keep w00 (pinsOf β0 0 0 G) w') (hS : SS T w0 (pinsOf β1 2 2 G) N env gs L β a.tmps w) (hv : v = (D.tup [d, e]).val T β)
    (hr : OkT T w (Own G L β) (.tup [d, e])) (hc : Cl d ∧ Cl e) (hR : R (.tup [d, e])) : CPost T w00 β0 0 0 G (fun y L1 => R y ∧ Cl y ∧ L1 = []) (.returned v) w := by
  have hcl : ClL [d, e] := ⟨hc.1, hc.2, trivial⟩
  exact ⟨.tup [d, e], [], β, ⟨hR, hcl, rfl⟩, by rw [hv], MemOk.nil, OkL.cl (A := Own G L β) (A' := Own G [] β) (fun b hb => ⟨hb.1, fun k e hk => by cases hk⟩) _ hcl hr, hK w hS.keep, Nat.le_refl _, fun k hk => absurd hk (Nat.not_lt_zero _), fun k _ hk => absurd hk (Nat.not_lt_zero _)⟩

theorem gPins {β1 : Nat → Nat} {G : Nat → Prop} (hS : SS T w0 (pinsOf β1 2 2 G) N env gs L β a.tmps w) : β 0 = β1 0 ∧ β 1 = β1 1 := ⟨(hS.pin 0 (β1 0) rfl).2, (hS.pin 1 (β1 1) rfl).2⟩

/-- Where reading ends with a panic. -/
theorem gDies {l : List Int} {w00 : World} {β0 β1 : Nat → Nat} {G : Nat → Prop} {v : D} {fr di : Int} {ships : Nat → Ship} {ro : Roster} {k : Int} {J : List Ent} (hd : getB l = (zeroS, 2))
    (hK : ∀ w', Keep w0 (pinsOf β1 2 2 G) w' → Keep w00 (pinsOf β0 0 0 G) w')
    (hS : Ste T w0 (pinsOf β1 2 2 G) Try.f13.ntmps [gDfr β1] env [] (.var 35 (stD v fr di ships ro) :: .var 3 (i64 k) :: J) β a w) (hv : Idx (· < 2) v ∧ ∀ r, v.ren r = v) {env2 : Env} (he : keepE env [2, 3] [] = some env2) (h2 : look 2 env2 = some (.d (.p 0 []))) (h3 : look 3 env2 = some (.d (.p 1 []))) :
    Leaves Try.prog Try.f13 a.tmps (CPost T w00 β0 0 0 G fun y L1 => (∃ x, y = .tup [stateD x (getB l).1, i64 (getB l).2]) ∧ Cl y ∧ L1 = []) a.defers (.panicking [{ v := badV, recovered := false }]) w := by
  have hr : ∀ r, (stD v fr di ships ro).ren r = stD v fr di ships ro := fun r => by
    have : (stD v fr di ships ro).ren r = stD (v.ren r) fr di ships ro := rfl
    rw [this, hv.2 r]
  refine ends e_get1 (c_get1_dies _ k) (by simp) rfl hS [0, 1] (by decide) ⟨⟨_, rfl, rfl, (hr _).symm⟩, ⟨⟨trivial, trivial, fun _ _ => Cl.idx _ _ (ship_cl _), hv.1, trivial⟩, Cl.idx _ _ (roster_cl ro), trivial⟩, rfl, ⟨_, rfl, rfl, rfl⟩, trivial, rfl, trivial⟩ ?_ ⟨Nat.zero_lt_succ _, Nat.lt_succ_self _, trivial⟩ ⟨⟨Nat.zero_lt_succ _, trivial⟩, ⟨Nat.succ_lt_succ (Nat.zero_lt_succ _), trivial⟩, trivial⟩ [2, 3] he fun β' w' hS' => ?_
  · obtain ⟨p0, p1⟩ := gPins hS.ss
    simp only [D.renL, D.ren, List.map_cons, List.map_nil, D.val, D.cells, D.isAgg, rn, nth, p0, p1]
    rfl
  · have hJ : ∀ (r : Nat → Nat) y z u s, putE r [0, 1] [Ent.var y z, Ent.var u s] (.var 35 (stD v fr di ships ro) :: .var 3 (i64 k) :: J) = ((Ent.var y z).ren r :: (Ent.var u s).ren r :: J) ++ [] := fun _ _ _ _ _ => rfl
    rw [hJ, List.append_nil] at hS'
    obtain ⟨r1, r2⟩ := res_run2 (fn := Try.f13) (r := .cell 2 35) (s := .cell 3 3) (d := stateD nilV zeroS) (e := i64 2) tab_ok rfl hS' (by simp only [resD, lkU, h2]; rfl) (by simp only [resD, lkU, h3]; rfl) rfl rfl
    refine ⟨_, r1, gAns hK hS' rfl r2 ⟨state_cl _ _, trivial⟩ ⟨nilV, ?_⟩⟩
    rw [hd]

/-- Where it ends with an answer. -/
theorem gReturns {l : List Int} {w00 : World} {β0 β1 : Nat → Nat} {G : Nat → Prop} {x : Value} {s : State} {J : List Ent} (hd : getB l = (s, 0))
    (hK : ∀ w', Keep w0 (pinsOf β1 2 2 G) w' → Keep w00 (pinsOf β0 0 0 G) w')
    (hS : Ste T w0 (pinsOf β1 2 2 G) Try.f13.ntmps [gDfr β1] env [] (.var 35 (stateD x s) :: .var 3 (i64 0) :: J) β a w) {env2 : Env} (he : keepE env [2, 3] [] = some env2) (h2 : look 2 env2 = some (.d (.p 0 []))) (h3 : look 3 env2 = some (.d (.p 1 []))) :
    Leaves Try.prog Try.f13 a.tmps (CPost T w00 β0 0 0 G fun y L1 => (∃ x, y = .tup [stateD x (getB l).1, i64 (getB l).2]) ∧ Cl y ∧ L1 = []) a.defers .returning w := by
  refine ends e_get1 (c_get1_returns _ 0 (Cl.idx _ _ (state_cl x s))) (by simp) rfl hS [0, 1] (by decide) ⟨⟨_, rfl, rfl, rfl⟩, Cl.idx _ _ (state_cl x s), rfl, ⟨_, rfl, rfl, rfl⟩, trivial, rfl, trivial⟩ ?_ ⟨Nat.zero_lt_succ _, Nat.lt_succ_self _, trivial⟩ ⟨⟨Nat.zero_lt_succ _, trivial⟩, ⟨Nat.succ_lt_succ (Nat.zero_lt_succ _), trivial⟩, trivial⟩ [2, 3] he fun β' w' hS' => ?_
  · obtain ⟨p0, p1⟩ := gPins hS.ss
    simp only [D.renL, D.ren, List.map_cons, List.map_nil, D.val, D.cells, D.isAgg, rn, nth, p0, p1]
    rfl
  · have hJ : ∀ (r : Nat → Nat) y z u v, putE r [0, 1] [Ent.var y z, Ent.var u v] (.var 35 (stateD x s) :: .var 3 (i64 0) :: J) = ((Ent.var y z).ren r :: (Ent.var u v).ren r :: J) ++ [] := fun _ _ _ _ _ => rfl
    rw [hJ, List.append_nil] at hS'
    obtain ⟨r1, r2⟩ := res_run2 (fn := Try.f13) (r := .cell 2 35) (s := .cell 3 3) (d := stateD x s) (e := i64 0) tab_ok rfl hS' (by simp only [resD, lkU, h2]; rfl) (by simp only [resD, lkU, h3]; rfl) rfl rfl
    refine ⟨_, r1, gAns hK hS' rfl r2 ⟨state_cl _ _, trivial⟩ ⟨x, ?_⟩⟩
    rw [hd]

/-- What is left of a frame's end hangs on the places for answers alone. -/
theorem leaves_congr {P : Program} {fn : Func} {t t' : Array Value} {R : Ending → World → Prop} (h : results fn t = results fn t') : ∀ (ds : List Deferred) (u : FrameMode) (w : World), Leaves P fn t R ds u w → Leaves P fn t' R ds u w
  | [], u, w, hl => by
    cases u with
    | run => exact hl
    | returning => obtain ⟨v, h1, h2⟩ := hl; exact ⟨v, h ▸ h1, h2⟩
    | panicking c => exact hl
  | d :: ds, u, w, hl => by
    obtain ⟨h1, fv, cap, f, args, h2, h3, h4⟩ := hl
    refine ⟨h1, fv, cap, f, args, h2, h3, h4.mono fun e u' w' he => ?_⟩
    cases e with
    | returned v => exact leaves_congr h ds _ _ he
    | panicked c => exact leaves_congr h ds _ _ he
    | outgrown => exact he
theorem gRes {t t' : Array Value} (h2 : t.getD 2 undef = t'.getD 2 undef) (h3 : t.getD 3 undef = t'.getD 3 undef) : results Try.f13 t = results Try.f13 t' := by
  have hf : Try.f13.results = #[.cell 2 35, .cell 3 3] := rfl
  simp only [results, hf]
  simp only [List.mapM_toArray, List.mapM_cons, List.mapM_nil, h2, h3]
theorem gPut {R : Ending → World → Prop} {c : List PanicEntry} {a : Act} {w : World} {d : Nat} {v : Value} (h2 : d ≠ 2) (h3 : d ≠ 3) (h : Leaves Try.prog Try.f13 (a.put (some d) v).tmps R (a.put (some d) v).defers (.panicking c) w) : Leaves Try.prog Try.f13 a.tmps R a.defers (.panicking c) w := by
  rw [Act.put_defers] at h
  refine leaves_congr (gRes ?_ ?_) _ _ _ h <;> rw [Act.put_some] <;> exact getD_set_ne' (by assumption)

end Go.CE

/- Contract: image.Get. -/
namespace Go.CE
open Go.RowKit Go.Proofs

theorem decN_z {α : Type} {dec : List Int → Option (α × List Int)} {z : α} {l : List Int} : ∀ {i : Nat} {f : Nat → α} {l' : List Int}, decN dec z i l = some (f, l') → ∀ j, i ≤ j → f j = z
  | 0, f, l', h, j, _ => by simp only [decN, Option.some.injEq, Prod.mk.injEq] at h; rw [← h.1]
  | i + 1, f, l', h, j, hj => by
    simp only [decN, bindR] at h
    split at h
    · rename_i g m hg
      split at h
      · rename_i s q hs
        simp only [Option.some.injEq, Prod.mk.injEq] at h
        rw [← h.1]
        have : j ≠ i := by omega
        simp only [upd, this, if_false]
        exact decN_z hg j (by omega)
      · cases h
    · cases h
theorem upd_z {α : Type} {f : Nat → α} {i : Nat} {z : α} (h : f i = z) : upd f i z = f := by
  funext j
  by_cases e : j = i
  · subst e; simp [upd, h]
  · simp [upd, e]
theorem decN_step {α : Type} {dec : List Int → Option (α × List Int)} {z : α} {l l' l'' : List Int} {i : Nat} {f : Nat → α} {s : α} (h : decN dec z i l = some (f, l')) (hs : dec l' = some (s, l'')) : decN dec z (i + 1) l = some (upd f i s, l'') := by simp only [decN, h, bindR, hs]
theorem decN_bad {α : Type} {dec : List Int → Option (α × List Int)} {z : α} {l l' : List Int} {i n : Nat} {f : Nat → α} (hn : i < n) (h : decN dec z i l = some (f, l')) (hs : dec l' = none) : decN dec z n l = none := decN_lt (i := i + 1) hn (by simp only [decN, h, bindR, hs])

theorem ship_ite {f : Nat → Ship} {i : Nat} {s : Ship} : (fun j => shipD (upd f i s j)) = fun j => if j = i then shipD s else shipD (f j) := by
  funext j
  by_cases e : j = i
  · subst e; simp [upd]
  · simp [upd, e]
theorem gL_ship {t : D} {fr di : Int} {ships : Nat → Ship} {ro : Roster} {k : Int} {x : Value} {l : List Int} {J : List Ent} {i : Nat} {s : Ship} : gL t fr di (upd ships i s) ro k x l J =
    .var 35 (.st 35 [.st 28 [i64 fr, u64 di, .ar 8 7 fun j => if j = i then shipD s else shipD (ships j), t], rosterD ro]) :: .var 3 (i64 k) :: .var 80 (.st 80 [.sl 1 x l.length (rowD l)]) :: J := by
  simp only [gL, stD, ship_ite]
def nilSh : D := .sl 6 (.slice none 0 0) 0 fun _ => shotD shot0

theorem seat_ite {f : Nat → Seat} {i : Nat} {s : Seat} : (fun j => seatD (upd f i s j)) = fun j => if j = i then seatD s else seatD (f j) := by
  funext j
  by_cases e : j = i
  · subst e; simp [upd]
  · simp [upd, e]
theorem gL_seat {t : D} {fr di ve : Int} {ships : Nat → Ship} {f : Nat → Seat} {k : Int} {x : Value} {l : List Int} {J : List Ent} {i : Nat} {s : Seat} : gL t fr di ships ⟨ve, upd f i s⟩ k x l J =
    .var 35 (.st 35 [.st 28 [i64 fr, u64 di, .ar 8 7 fun j => shipD (ships j), t], .st 33 [i64 ve, .ar 8 2 fun j => if j = i then seatD s else seatD (f j)]]) :: .var 3 (i64 k) :: .var 80 (.st 80 [.sl 1 x l.length (rowD l)]) :: J := by
  simp only [gL, stD, rosterD, seat_ite]
/-- The blocks while shots are read. -/
def shL (fr di : Int) (ships : Nat → Ship) (ro : Roster) : Nat → (Nat → Shot) → Value → List Int → Nat → List Ent
  | 0, _, x, l, _ => gL nilSh fr di ships ro 0 x l []
  | i + 1, f, x, l, cap => gL (.os 3 (i + 1) cap) fr di ships ro 0 x l [.row 72 6 (i + 1) (fun j => shotD (f j)) cap]

/-! ### What is left is a part -/
def Sub (l' l : List Int) : Prop := ∀ v ∈ l', v ∈ l
theorem Sub.refl (l : List Int) : Sub l l := fun _ h => h
def SubR {α : Type} (l : List Int) (r : Option (α × List Int)) : Prop := ∀ a l', r = some (a, l') → Sub l' l
theorem SubR.rd {b : Nat} {l l0 : List Int} (h : Sub l l0) : SubR l0 (rd b l) := by
  intro a l' hr v hv
  unfold CE.rd at hr
  split at hr
  · simp only [Option.some.injEq, Prod.mk.injEq] at hr
    rw [← hr.2] at hv
    exact h v (List.mem_of_mem_drop hv)
  · cases hr
theorem SubR.rs {l l0 : List Int} (h : Sub l l0) : SubR l0 (rs l) := by
  intro a l' hr v hv
  unfold CE.rs at hr
  split at hr
  · simp only [Option.some.injEq, Prod.mk.injEq] at hr
    rw [← hr.2] at hv
    exact h v (List.mem_of_mem_drop hv)
  · cases hr
theorem SubR.bind {α γ : Type} {l : List Int} {x : Option (α × List Int)} {k : α → List Int → Option (γ × List Int)} (h : SubR l x) (hk : ∀ a l', Sub l' l → SubR l (k a l')) : SubR l (bindR x k) := by
  intro c l' hr
  cases x with
  | none => cases hr
  | some p => exact hk p.1 p.2 (h p.1 p.2 rfl) c l' hr
theorem SubR.one {α : Type} {l l0 : List Int} {a : α} (h : Sub l l0) : SubR l0 (some (a, l)) := by
  intro c l' hr
  simp only [Option.some.injEq, Prod.mk.injEq] at hr
  rw [← hr.2]
  exact h
theorem decShip_sub {l l0 : List Int} (h : Sub l l0) : SubR l0 (decShip l) := by
  unfold decShip
  refine (SubR.rd h).bind fun c l1 h1 => ?_
  split
  · exact (SubR.rs h1).bind fun _ _ h => (SubR.rs h).bind fun _ _ h => (SubR.rs h).bind fun _ _ h => (SubR.rs h).bind fun _ _ h => (SubR.rd h).bind fun _ _ h => (SubR.rd h).bind fun _ _ h => SubR.one h
  · exact SubR.one h1
theorem decN_sub {α : Type} {dec : List Int → Option (α × List Int)} {z : α} {l : List Int} (hd : ∀ l', Sub l' l → SubR l (dec l')) : ∀ n, SubR l (decN dec z n l)
  | 0 => SubR.one (Sub.refl l)
  | n + 1 => (decN_sub hd n).bind fun _ _ h => (hd _ h).bind fun _ _ h => SubR.one h
/-- Bytes. -/
def Byt (l : List Int) : Prop := ∀ v ∈ l, 0 ≤ v ∧ v ≤ 255
theorem Byt.get {l : List Int} (h : Byt l) (i : Nat) : 0 ≤ l.getD i 0 ∧ l.getD i 0 ≤ 255 := by
  rw [List.getD_eq_getElem?_getD]
  cases hi : l[i]? with
  | none => simp
  | some v => simpa using h v (List.mem_of_getElem? hi)
theorem or0 {y : Int} (h : 0 ≤ y ∧ y < 18446744073709551616) : bitI .or .u64 0 y = y := by
  show IntKind.u64.wrap ((BitVec.ofInt 64 0 ||| BitVec.ofInt 64 y).toNat : Nat) = y
  rw [show BitVec.ofInt 64 0 = 0#64 from rfl, BitVec.zero_or, BitVec.toNat_ofInt, IntKind.wrap_u64]
  omega
theorem u64_in {y : Int} (h : 0 ≤ y ∧ y < 18446744073709551616) : IntKind.u64.wrap y = y := by rw [IntKind.wrap_u64]; omega
theorem rd1_byte {l : List Int} (h : Byt l) : rdN l 1 = l.getD 0 0 := by
  have h0 := h.get 0
  show bitI .or .u64 0 (shlI .u64 (IntKind.u64.wrap (l.getD 0 0)) (IntKind.u64.wrap (IntKind.i64.wrap (8 * ((0 : Nat) : Int))))) = _
  rw [u64_in (by omega)]
  have e : (IntKind.u64.wrap (IntKind.i64.wrap (8 * ((0 : Nat) : Int)))) = 0 := rfl
  rw [e]
  have e2 : shlI .u64 (l.getD 0 0) 0 = IntKind.u64.wrap (l.getD 0 0 * 2 ^ (min (0 : Int).toNat IntKind.u64.bits)) := rfl
  rw [e2]
  have e3 : (2 : Int) ^ (min (0 : Int).toNat IntKind.u64.bits) = 1 := rfl
  rw [e3, Int.mul_one, u64_in (by omega), or0 (by omega)]
theorem u64_dec {n i : Int} (h : 0 < n - i ∧ n ≤ 255 ∧ 0 ≤ i) : some (B.d (.v (.int .u64 (IntKind.u64.wrap (n - i - 1))))) = some (B.d (u64 (n - (i + 1)))) := by
  rw [u64_in (by omega)]
  have : n - i - 1 = n - (i + 1) := by omega
  rw [this]; rfl

end Go.CE

/- Contracts: bytes as the document reads them. -/
namespace Go.CE
open Go.RowKit Go.Proofs

section
variable {P : Program} {T : Tab} {C : Calls'} {w0 w : World} {pins : Pins} {N : Nat} {env : Env} {gs : List Nat} {L : List Ent} {β : Nat → Nat} {a : Act} {ds : List Deferred}
/-- A string's end. -/
theorem strl (K : Kit P T C) (hS : Ste T w0 pins N ds env gs L β a w) {l rest : List Oper} {Q : Exit → Act → World → Prop} {o : Oper} {x lo : Operand} {t sz b dd : Nat} {s z : ByteArray} {k : IntKind} {iv : Int}
    (j : Nat) (hg : o.guard = none) (hop : o.op = .slice t x (some lo) none none) (hd : o.dst = some dd) (hdN : Nat.ble N dd = false) (hdg : elemN dd gs = false) (hx : opd (lkU env) x = some (.v (.string s))) (hlo : opd (lkU env) lo = some (.v (.int k iv))) (ht : T t = some ⟨.leaf, sz, b, .v (.string z)⟩)
    (hj : iv = (j : Int)) (hjn : j ≤ s.size)
    (hk : ∀ a', Ste T w0 pins N ds ((dd, .d (.v (.string (s.extract j s.size)))) :: env) gs L β a' w → wpList P l.toArray Q rest a' w) : wpList P l.toArray Q (o :: rest) a w := by
  obtain ⟨x1, _⟩ := opd_ok hS.ss.lkU hx
  obtain ⟨l1, _⟩ := opd_ok hS.ss.lkU hlo
  have hu : P.underlying t = some .string := (K.tab t _ ht).2.2.2
  have x1 : a.eval x = .string s := x1
  have l1 : a.eval lo = .int k iv := l1
  subst hj
  have hrun : (execOp a.eval o).run P w = .ok (.value (.string (s.extract j s.size))) w := by
    simp only [execOp, hop, Option.map_none, Option.map_some, Sem.run_bind, x1, l1, run_sliceAt_string w t _ _ _ _ hu]
    simp [Instr.slice, run_underlying hu, Instr.sliceBounds, run_sliceBound, hjn]
  unfold wpList
  rw [if_pos (by simp [Region.wanted, hg])]
  left
  unfold Oper.wp
  rw [hrun]
  refine hk _ ⟨?_, by rw [Act.put_defers]; exact hS.df⟩
  rw [hd]
  exact hS.ss.set (x := .v (.string _)) (Nat.lt_of_not_le fun h => by rw [Nat.ble_eq_true_of_le h] at hdN; cases hdN) hdg rfl rfl
end

theorem bytesOf_drop (l : List Int) (j : Nat) : (bytesOf l).extract j (bytesOf l).size = bytesOf (l.drop j) := by
  rw [bytesOf_size, bytesOf_data, bytesOf_data, ByteArray.ext_iff, ByteArray.data_extract]
  simp only [List.extract_toArray, List.extract_eq_take_drop, List.map_drop]
  rw [List.take_of_length_le (by simp)]
theorem bytesOf_get {l : List Int} (h : Byt l) {i : Nat} (hi : i < l.length) : ((((bytesOf l).data.toList.getD i 0).toNat : Nat) : Int) = l.getD i 0 := by
  have hb := h (l[i]) (List.getElem_mem hi)
  rw [bytesOf_data]
  simp [List.getD_eq_getElem?_getD, List.getElem?_eq_getElem hi]
  omega

def bn (l : List Int) : Nat → Int
  | 0 => 0
  | i + 1 => bn l i + l.getD i 0 * 256 ^ i
theorem pow256 (i : Nat) : (0 : Int) < 256 ^ i := Int.pow_pos (by decide)
theorem bn_in {l : List Int} (h : Byt l) : ∀ i, 0 ≤ bn l i ∧ bn l i < 256 ^ i
  | 0 => ⟨Int.le_refl 0, by show (0 : Int) < 256 ^ 0; decide⟩
  | i + 1 => by
    obtain ⟨h1, h2⟩ := bn_in h i
    obtain ⟨h3, h4⟩ := Byt.get h i
    have hp := pow256 i
    have e1 : 0 ≤ l.getD i 0 * 256 ^ i := Int.mul_nonneg h3 (Int.le_of_lt hp)
    have e2 : l.getD i 0 * 256 ^ i ≤ 255 * 256 ^ i := Int.mul_le_mul_of_nonneg_right h4 (Int.le_of_lt hp)
    rw [bn, Int.pow_succ]
    omega
theorem u64_bit {n : Int} (h0 : 0 ≤ n) (h : n < 18446744073709551616) : ((BitVec.ofInt 64 n).toNat : Int) = n := by
  rw [BitVec.toNat_ofInt]
  omega
theorem u64_id {n : Int} (h0 : 0 ≤ n) (h : n < 18446744073709551616) : IntKind.u64.wrap n = n := by rw [IntKind.wrap_u64]; omega
/-- Two numbers without a bit in common. -/
theorem or_add {x y : Int} {i : Nat} (hx : 0 ≤ x) (hx2 : x < 256 ^ i) (hy : 0 ≤ y) (hy2 : y < 256) (hi : i < 8) : bitI .or .u64 x (y * 256 ^ i) = x + y * 256 ^ i := by
  obtain ⟨m, rfl⟩ := Int.eq_ofNat_of_zero_le hx
  obtain ⟨n, rfl⟩ := Int.eq_ofNat_of_zero_le hy
  have hm : m < 2 ^ (8 * i) := by
    have : ((m : Nat) : Int) < ((256 ^ i : Nat) : Int) := by simpa using hx2
    rw [Nat.pow_mul]
    exact Int.ofNat_lt.1 this
  have hle : 2 ^ (8 * i) ≤ 2 ^ 56 := Nat.pow_le_pow_right (by decide) (by omega)
  have hn : n < 256 := by omega
  have e : ((n : Int) * 256 ^ i) = ((2 ^ (8 * i) * n : Nat) : Int) := by rw [Nat.pow_mul, Nat.mul_comm]; simp
  rw [e]
  have hk : 2 ^ (8 * i) * n + m = 2 ^ (8 * i) * n ||| m := Nat.two_pow_add_eq_or_of_lt hm n
  have hb : 2 ^ (8 * i) * n + m < 18446744073709551616 := by
    have : 2 ^ (8 * i) * n ≤ 2 ^ 56 * 255 := Nat.mul_le_mul hle (by omega)
    omega
  show IntKind.u64.wrap (((BitVec.ofInt 64 (m : Int) ||| BitVec.ofInt 64 ((2 ^ (8 * i) * n : Nat) : Int)).toNat : Nat) : Int) = _
  have c1 : (BitVec.ofInt 64 (m : Int)).toNat = m := by have := u64_bit (n := (m : Int)) (by omega) (by omega); omega
  have c2 : (BitVec.ofInt 64 ((2 ^ (8 * i) * n : Nat) : Int)).toNat = 2 ^ (8 * i) * n := by have := u64_bit (n := ((2 ^ (8 * i) * n : Nat) : Int)) (by omega) (by omega); omega
  rw [BitVec.toNat_or, c1, c2, Nat.or_comm, ← hk, u64_id (by omega) (by omega)]
  omega
theorem shl_u64 {y : Int} {i : Nat} (hy : 0 ≤ y) (hy2 : y < 256) (hi : i < 8) : shlI .u64 y (IntKind.u64.wrap (IntKind.i64.wrap (8 * (i : Int)))) = y * 256 ^ i := by
  rw [IntWalk.i64_in _ ⟨by omega, by omega⟩, u64_id (by omega) (by omega)]
  have e : ((8 * (i : Int)).toNat) = 8 * i := by omega
  have h1 : min (8 * i) (IntKind.u64.bits) = 8 * i := Nat.min_eq_left (by show 8 * i ≤ 64; omega)
  have h3 : (2 : Int) ^ (8 * i) = 256 ^ i := by rw [Int.pow_mul]; rfl
  simp only [shlI, e, h1, h3]
  have hle : (256 : Int) ^ i ≤ 256 ^ 7 := by
    have := Nat.pow_le_pow_right (n := 256) (by decide) (show i ≤ 7 by omega)
    have h2 : ((256 ^ i : Nat) : Int) ≤ ((256 ^ 7 : Nat) : Int) := Int.ofNat_le.2 this
    simpa using h2
  have hp := pow256 i
  have e1 : 0 ≤ y * 256 ^ i := Int.mul_nonneg hy (Int.le_of_lt hp)
  have e2 : y * 256 ^ i ≤ 255 * 256 ^ i := Int.mul_le_mul_of_nonneg_right (by omega) (Int.le_of_lt hp)
  exact u64_id e1 (by omega)
theorem rdN_bn {l : List Int} (h : Byt l) : ∀ b, b ≤ 8 → rdN l b = bn l b
  | 0, _ => rfl
  | b + 1, hb => by
    obtain ⟨h1, h2⟩ := bn_in h b
    obtain ⟨h3, h4⟩ := Byt.get h b
    rw [rdN, rdN_bn h b (by omega), u64_id h3 (by omega), shl_u64 h3 (by omega) (by omega), or_add h1 h2 h3 (by omega) (by omega), bn]

/-- The same read from the last byte on. -/
def rdR (l : List Int) (n : Nat) : Nat → Int
  | 0 => 0
  | k + 1 => rdR l n k * 256 + l.getD (n - 1 - k) 0
theorem rdR_in {l : List Int} (h : Byt l) (n : Nat) : ∀ k, 0 ≤ rdR l n k ∧ rdR l n k < 256 ^ k
  | 0 => ⟨Int.le_refl 0, by show (0 : Int) < 256 ^ 0; decide⟩
  | k + 1 => by
    obtain ⟨h1, h2⟩ := rdR_in h n k
    obtain ⟨h3, h4⟩ := Byt.get h (n - 1 - k)
    rw [rdR, Int.pow_succ]
    omega
theorem rdR_bn {l : List Int} {n : Nat} : ∀ k, k ≤ n → rdR l n k * 256 ^ (n - k) + bn l (n - k) = bn l n
  | 0, _ => by simp [rdR]
  | k + 1, hk => by
    have h := rdR_bn (l := l) (n := n) k (by omega)
    have e : n - k = n - (k + 1) + 1 := by omega
    have e2 : n - 1 - k = n - (k + 1) := by omega
    rw [e, bn, Int.pow_succ] at h
    rw [rdR, e2, ← h, Int.add_mul, Int.mul_assoc, Int.mul_comm 256]
    omega

/-- The document's reader: what is left, and whether it is bad. -/
def RS := List Int × Bool
def rnum (n : Nat) (s : RS) : Int × RS := if (s.2 || decide ((s.1.length : Int) < n)) = true then (0, ([], true)) else (bn s.1 n, (s.1.drop n, false))
def rsD (s : RS) : D := .st 86 [strD s.1, bol s.2]
def rsL (s : RS) : List Ent := [.var 86 (rsD s)]

end Go.CE
