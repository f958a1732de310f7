/- ImageBack: the walk. -/
import Derived.Test.YthcdfbkdkeodpaaX3
import Derived.Test.YthcdfbkdkeodpaaX2
namespace Go.CE
open Go.RowKit Go.Proofs

/-- A number's place among so many. -/
theorem modN (a : Int) {n : Nat} (hn : n ≤ 1000) : ∃ k : Nat, k ≤ n ∧ IntKind.i64.wrap ((IntKind.u64.wrap a).tmod (IntKind.u64.wrap (IntKind.i64.wrap ((n : Int) + 1)))) = k := by
  have e : IntKind.u64.wrap (IntKind.i64.wrap ((n : Int) + 1)) = (n : Int) + 1 := by rw [i64_id (by omega), u64_id (by omega) (by omega)]
  have h := u64_nn a
  rw [e, Int.tmod_eq_emod_of_nonneg h]
  have h1 := Int.emod_nonneg (IntKind.u64.wrap a) (show (n : Int) + 1 ≠ 0 by omega)
  have h2 := Int.emod_lt_of_pos (IntKind.u64.wrap a) (show (0 : Int) < (n : Int) + 1 by omega)
  exact ⟨((IntKind.u64.wrap a) % ((n : Int) + 1)).toNat, by omega, by rw [i64_id (by omega)]; omega⟩

set_option maxHeartbeats 1000000 in
theorem c_imageBack (x : Value) (s : State) (hd : 0 ≤ s.game.dice ∧ s.game.dice < 18446744073709551616) (hsn : s.game.n ≤ maxLen) (at_ c : Int) (hc : 0 ≤ c ∧ c ≤ 255) : Fun Try.prog T 4 [stateD x s, i64 at_, .v (.int .u8 c)] fun y => y = bol true := by
  refine Con.intro Try.func4 rfl rfl rfl rfl fun G w0 β0 β a w hS => ?_
  refine regS K0 [1, 2, 3] hS rfl rfl trivial fun β a w hS => ?_
  refine wp_seq (regp K0 hS rfl trivial fun β a w hS => ?_)
  refine call0 e_put (c_put x s) hS [1, 2, 3] rfl rfl rfl rfl rfl ⟨state_cl _ _, trivial⟩ rfl ?_
  intro y hy β a w hS
  cases hm : mayStateB s with
  | false =>
    simp only [hm, Bool.false_eq_true, if_false] at hy
    subst hy
    refine rege K0 [1, 2, 3, 7, 8] hS rfl rfl trivial fun β a w hS => ?_
    refine wp_seq ?_
    refine regS K0 [1, 2, 3, 7, 27] hS rfl rfl trivial fun β a w hS => ?_
    refine cnd hS rfl (fun h => ?_) (fun h => absurd h (by decide))
    refine regS K8 [6] hS rfl rfl trivial fun β a w hS => ?_
    exact wp_ret (fret1 K0 rfl hS rfl trivial rfl)
  | true =>
  simp only [hm, if_true] at hy
  obtain ⟨x1, rfl⟩ := hy
  have hbl := putB_byt s
  have hgp := get_put hm
  have hsame := same_norm hd
  have hmore := get_more hm hc
  have hless := fun k hk => get_less hm (k := k) hk
  have hturn := fun k hk l hl => get_turn hm hd (k := k) hk hc (l := l) hl
  have hlen : (putB s).length ≤ 1000 := by
    have := putB_len s
    have := ons_le s 8
    have := may_n hm
    omega
  generalize hl : putB s = l at hS hbl hgp hmore hless hturn hlen
  refine rege K0 [1, 2, 3, 7, 8] hS rfl rfl trivial fun β a w hS => ?_
  refine wp_seq ?_
  refine regS K0 [1, 2, 3, 7, 27] hS rfl rfl trivial fun β a w hS => ?_
  refine cnd hS rfl (fun h => absurd h (by decide)) (fun h => wp_skip ?_)
  clear h
  -- back
  refine wp_seq (regp K0 hS rfl trivial fun β a w hS => ?_)
  refine call0 e_get (c_get x1 l hbl) hS [1, 2, 3, 7] rfl rfl rfl rfl rfl ⟨fun _ _ => trivial, trivial⟩ rfl ?_
  rintro y ⟨x2, rfl⟩ β a w hS
  rw [hgp] at hS
  refine rege K0 [1, 2, 3, 7, 9, 10] hS rfl rfl trivial fun β a w hS => ?_
  obtain ⟨k, hk, ek⟩ := modN at_ hlen
  refine regS K0 [2, 3, 7, 9, 10, 11] hS rfl rfl ⟨(by
    show IntKind.u64.wrap (IntKind.i64.wrap ((l.length : Int) + 1)) ≠ 0
    rw [i64_id (by omega), u64_id (by omega) (by omega)]
    omega), trivial⟩ fun β a w hS => ?_
  have hS : Ste T w0 (pinsOf β0 0 0 G) Try.f4.ntmps [] [(2, .d (.v (.int .u8 c))), (3, .d (.p 0 [])), (7, .d (.sl 1 x1 l.length (rowD l))), (9, .d (.p 1 [])), (10, .d (i64 0)), (11, .d (i64 k))] [] [.var 35 (stateD x s), .var 35 (stateD x2 (norm s))] β a w := Ste.sub hS ⟨rfl, rfl, rfl, rfl, rfl, (by
    show some (B.d (.v (.int .i64 (IntKind.i64.wrap ((IntKind.u64.wrap at_).tmod (IntKind.u64.wrap (IntKind.i64.wrap ((l.length : Int) + 1)))))))) = _
    rw [ek]; rfl), trivial⟩
  -- a byte behind
  refine wp_seq (regp K0 hS rfl ⟨by decide, trivial⟩ fun β a w hS => ?_)
  refine appo K0 hS [2, 3, 7, 9, 10, 11] l.length (rowD l) (rowD l) rfl rfl rfl rfl rfl rfl rfl rfl rfl rfl rfl
    (by rw [pinsOf_len]; exact Nat.zero_le _) ⟨trivial, trivial, (by show (1 : Nat) ≠ 2; decide), trivial, (by show (0 : Nat) ≠ 2; decide), trivial, trivial⟩ ⟨.inr (Cl.idx _ _ (state_cl _ _)), .inr (Cl.idx _ _ (state_cl _ _)), .inl rfl, trivial⟩ (fun j hj => absurd hj (Nat.not_lt_zero _)) (.inl ⟨_, rfl⟩) (fun j _ => trivial) (fun j hj => absurd hj (Nat.not_lt_zero _)) (fun j hj => by rw [Nat.zero_add]) (by simp only [maxLen]; omega) (by show (0 + l.length) * 1 ≤ _; omega) fun cap1 β a w hS => ?_
  refine rego K0 hS rfl ⟨by decide, trivial⟩ fun β a w hS => ?_
  refine appo K0 hS [2, 3, 7, 9, 10, 11] 1 (fun _ => .v (.int .u8 c)) (rowD (l ++ [c])) rfl rfl rfl rfl rfl rfl rfl rfl rfl rfl rfl
    (by rw [pinsOf_len]; exact Nat.zero_le _) ⟨trivial, trivial, (by show (1 : Nat) ≠ 2; decide), trivial, (by show (0 : Nat) ≠ 2; decide), trivial, trivial⟩ ⟨.inr (Cl.idx _ _ (state_cl _ _)), .inr (Cl.idx _ _ (state_cl _ _)), .inl rfl, .inr fun j hj => (by
      have : j = 0 := by omega
      subst this; trivial), trivial⟩ (fun j _ => trivial) (.inr ⟨3, 1, 1, _, 1, rfl, ⟨_, rfl⟩, Nat.le_refl _, fun j hj => (by
      have : j = 0 := by omega
      subst this; rfl)⟩) (fun j _ => trivial) (fun j hj => rowD_app1 j (by omega)) (fun j hj => by rw [Nat.zero_add]; exact rowD_app2 j hj) (by simp only [maxLen]; omega) (by show (0 + l.length + 1) * 1 ≤ _; omega) fun cap2 β a w hS => ?_
  have el : 0 + l.length + 1 = (l ++ [c]).length := by rw [List.length_append]; simp
  rw [el] at hS
  have hS := hS.freeze (L1 := [_, _]) (J := [_]) (L' := [.var 35 (stateD x s), .var 35 (stateD x2 (norm s))]) (env' := [(48, .d (.sl 1 (.slice (some ⟨β 2, 0, none⟩) (l ++ [c]).length cap2) (l ++ [c]).length (rowD (l ++ [c])))), (11, .d (i64 k)), (10, .d (i64 0)), (9, .d (.p 1 [])), (7, .d (.sl 1 x1 l.length (rowD l))), (3, .d (.p 0 [])), (2, .d (.v (.int .u8 c)))]) rfl (by rw [pinsOf_len]; exact Nat.zero_le _) (fun _ _ => trivial)
    ⟨rfl, Frz.cl _ (state_cl _ _), rfl, Frz.cl _ (state_cl _ _), trivial⟩
    ⟨⟨_, rfl, .inl ⟨_, rfl, rfl, Nat.le_refl _, rfl, rfl⟩⟩, ⟨_, rfl, rfl⟩, ⟨_, rfl, rfl⟩, ⟨_, rfl, (by show (1 : Nat) < 2; decide), rfl⟩, ⟨_, rfl, Frz.cl _ (fun _ _ => trivial)⟩, ⟨_, rfl, (by show (0 : Nat) < 2; decide), rfl⟩, ⟨_, rfl, rfl⟩, trivial⟩
  refine call0 e_get (c_get _ (l ++ [c]) (hbl.append fun v hv => by
    have : v = c := by simpa using hv
    omega)) hS [2, 3, 7, 9, 10, 11] rfl rfl rfl rfl rfl ⟨fun _ _ => trivial, trivial⟩ rfl ?_
  rintro y ⟨x3, rfl⟩ β a w hS
  rw [hmore] at hS
  refine rege K0 [2, 3, 7, 9, 10, 11, 13] hS rfl rfl trivial fun β a w hS => ?_
  refine wp_seq ?_
  refine regS KH [2, 3, 7, 11, 63] hS rfl rfl ⟨fun _ => ⟨_, _, _, _, rfl, rfl, hsn⟩, trivial⟩ fun β a w hS => ?_
  have hS : Ste T w0 (pinsOf β0 0 0 G) Try.f4.ntmps [] [(2, .d (.v (.int .u8 c))), (3, .d (.p 0 [])), (7, .d (.sl 1 x1 l.length (rowD l))), (11, .d (i64 k)), (63, .d (bol false))] [] [.var 35 (stateD x s)] β a w := by
    have hS : Ste T w0 (pinsOf β0 0 0 G) Try.f4.ntmps [] [(2, .d (.v (.int .u8 c))), (3, .d (.p 0 [])), (7, .d (.sl 1 x1 l.length (rowD l))), (11, .d (i64 k)), (63, .d (bol false))] [] ([.var 35 (stateD x s)] ++ _) β a w := Ste.sub hS ⟨rfl, rfl, rfl, rfl, (by
      show some (B.d (bol (((0 : Int) != 0 || !sameB s (norm s)) || ((2 : Int) != 2)))) = _
      rw [hsame]; rfl), trivial⟩
    exact hS.drop (L1 := [_]) rfl (by rw [pinsOf_len]; exact Nat.zero_le _) ⟨trivial, Nat.zero_lt_one, trivial, trivial, trivial, trivial⟩ ⟨Cl.idx _ _ (state_cl x s), trivial⟩
  refine cnd hS rfl (fun h => absurd h (by decide)) (fun h => wp_skip ?_)
  clear h
  refine wp_seq ?_
  refine regS K0 [2, 3, 7, 11, 67] hS rfl rfl trivial fun β a w hS => ?_
  refine cnd hS rfl (fun h => ?_) (fun h => wp_skip ?_)
  · refine regS K8 [6] hS rfl rfl trivial fun β a w hS => ?_
    exact wp_ret (fret1 K0 rfl hS rfl trivial rfl)
  have h : ((k : Int) == (l.length : Int)) = false := h
  have hk : k < l.length := by
    have : ¬ (k : Int) = l.length := by simpa using h
    omega
  -- cut off
  refine wp_seq (regp K0 hS rfl trivial fun β a w hS => ?_)
  refine resh K0 hS k rfl rfl rfl rfl rfl rfl rfl rfl rfl (by omega) fun x4 a hS => ?_
  have hS : Ste T w0 (pinsOf β0 0 0 G) Try.f4.ntmps [] [(72, .d (.sl 1 x4 k (rowD l))), (2, .d (.v (.int .u8 c))), (3, .d (.p 0 [])), (7, .d (.sl 1 x1 l.length (rowD l))), (11, .d (i64 k))] [] [.var 35 (stateD x s)] β a w := Ste.sub hS ⟨rfl, rfl, rfl, rfl, rfl, trivial⟩
  have etk : k = (l.take k).length := by rw [List.length_take]; omega
  have hgk := c_get x4 (l.take k) (fun v hv => hbl v (List.mem_of_mem_take hv))
  rw [← etk] at hgk
  refine call0 e_get (hgk.slx (g := rowD l) fun i hi => by
    unfold rowD
    rw [List.getD_eq_getElem?_getD, List.getD_eq_getElem?_getD, List.getElem?_take_of_lt hi]) hS [2, 3, 7, 11] rfl rfl rfl rfl rfl ⟨fun _ _ => trivial, trivial⟩ rfl ?_
  rintro y ⟨x5, rfl⟩ β a w hS
  rw [hless k hk] at hS
  refine rege K0 [2, 3, 7, 11, 15] hS rfl rfl trivial fun β a w hS => ?_
  have hS : Ste T w0 (pinsOf β0 0 0 G) Try.f4.ntmps [] [(2, .d (.v (.int .u8 c))), (3, .d (.p 0 [])), (7, .d (.sl 1 x1 l.length (rowD l))), (11, .d (i64 k)), (15, .d (i64 2))] [] [.var 35 (stateD x s)] β a w := by
    have hS : Ste T w0 (pinsOf β0 0 0 G) Try.f4.ntmps [] [(2, .d (.v (.int .u8 c))), (3, .d (.p 0 [])), (7, .d (.sl 1 x1 l.length (rowD l))), (11, .d (i64 k)), (15, .d (i64 2))] [] ([.var 35 (stateD x s)] ++ _) β a w := Ste.sub hS ⟨rfl, rfl, rfl, rfl, rfl, trivial⟩
    exact hS.drop (L1 := [_]) rfl (by rw [pinsOf_len]; exact Nat.zero_le _) ⟨trivial, Nat.zero_lt_one, trivial, trivial, trivial, trivial⟩ ⟨Cl.idx _ _ (state_cl x s), trivial⟩
  -- turned
  refine wp_seq (regp K0 hS rfl ⟨by decide, trivial⟩ fun β a w hS => ?_)
  refine appo K0 hS [2, 3, 11, 15] l.length (rowD l) (rowD l) rfl rfl rfl rfl rfl rfl rfl rfl rfl rfl rfl
    (by rw [pinsOf_len]; exact Nat.zero_le _) ⟨trivial, trivial, (by show (0 : Nat) ≠ 1; decide), trivial, trivial⟩ ⟨.inr (Cl.idx _ _ (state_cl _ _)), .inl rfl, trivial⟩ (fun j hj => absurd hj (Nat.not_lt_zero _)) (.inl ⟨_, rfl⟩) (fun j _ => trivial) (fun j hj => absurd hj (Nat.not_lt_zero _)) (fun j hj => by rw [Nat.zero_add]) (by simp only [maxLen]; omega) (by show (0 + l.length) * 1 ≤ _; omega) fun cap3 β a w hS => ?_
  rw [Nat.zero_add] at hS
  refine rege K0 [2, 3, 11, 15, 16] hS rfl rfl trivial fun β a w hS => ?_
  refine regS K0 [2, 3, 15, 16] hS rfl rfl ⟨by omega, ⟨by omega, by omega, Nat.le_refl _, rfl⟩, by omega, ⟨by omega, by omega, Nat.le_refl _, rfl⟩, trivial⟩ fun β a w hS => ?_
  generalize hx : l.set k (bitI .xor .u8 (l.getD k 0) c) = z
  have hzl : z.length = l.length := by rw [← hx, List.length_set]
  have hzb : Byt z := fun v hv => by
    rw [← hx] at hv
    rcases List.mem_or_eq_of_mem_set hv with h | h
    · exact hbl v h
    · rw [h]; exact (xor_byte (Byt.get hbl k) hc).1
  obtain ⟨ht1, ht2⟩ := hturn k hk z hx.symm
  have hrow : (fun j => if j = (k : Int).toNat then D.v (.int .u8 (bitI .xor .u8 (l.getD (k : Int).toNat 0) c)) else rowD l j) = rowD z := by
    rw [Int.toNat_natCast, set_row hk, hx]
  have hS : Ste T w0 (pinsOf β0 0 0 G) Try.f4.ntmps [] [(2, .d (.v (.int .u8 c))), (3, .d (.p 0 [])), (15, .d (i64 2)), (16, .d (.os 1 l.length cap3))] [] [.var 35 (stateD x s), .row 5 1 l.length (rowD z) cap3] β a w := by
    rw [← hrow]
    exact Ste.sub hS ⟨rfl, rfl, rfl, rfl, trivial⟩
  rw [← hzl] at hS
  have hS := hS.freeze (L1 := [_]) (J := []) (L' := [.var 35 (stateD x s)]) (env' := [(2, .d (.v (.int .u8 c))), (3, .d (.p 0 [])), (15, .d (i64 2)), (16, .d (.sl 1 (.slice (some ⟨β 1, 0, none⟩) z.length cap3) z.length (rowD z)))]) rfl (by rw [pinsOf_len]; exact Nat.zero_le _) (fun _ _ => trivial)
    ⟨rfl, Frz.cl _ (state_cl _ _), trivial⟩
    ⟨⟨_, rfl, rfl⟩, ⟨_, rfl, (by show (0 : Nat) < 1; decide), rfl⟩, ⟨_, rfl, rfl⟩, ⟨_, rfl, .inl ⟨_, rfl, rfl, Nat.le_refl _, rfl, rfl⟩⟩, trivial⟩
  refine wp_seq (regp K0 hS rfl trivial fun β a w hS => ?_)
  refine call0 e_get (c_get _ z hzb) hS [2, 3, 15, 16] rfl rfl rfl rfl rfl ⟨fun _ _ => trivial, trivial⟩ rfl ?_
  rintro y ⟨x6, rfl⟩ β a w hS
  have hgc := get_code (l := z)
  generalize hgz : getB z = r at hS ht1 ht2 hgc
  obtain ⟨u, i⟩ := r
  simp only at ht1 ht2 hgc hS
  refine rege K0 [2, 3, 15, 16, 17, 18] hS rfl rfl trivial fun β a w hS => ?_
  refine wp_seq ?_
  refine regS K0 [2, 3, 16, 17, 18, 94] hS rfl rfl trivial fun β a w hS => ?_
  refine cnd hS rfl (fun h => absurd h (by decide)) (fun h => wp_skip ?_)
  refine wp_seq ?_
  refine regS K0 [2, 3, 16, 17, 18, 96] hS rfl rfl trivial fun β a w hS => ?_
  refine cnd hS rfl (fun h => ?_) (fun h => wp_skip ?_)
  · have h : (i != 0) = true := h
    have hi : i ≠ 0 := by simpa using h
    refine regS K8 [6] hS rfl rfl trivial fun β a w hS => ?_
    refine wp_ret (fret1 K0 rfl hS rfl trivial ?_)
    show bol ((true && (i == 2)) && (c != 0)) = bol true
    rw [hgc hi]
    have : (c != 0) = true := by simpa using ht1 hi
    rw [this]
    rfl
  · have h : (i != 0) = false := h
    have hi : i = 0 := by simpa using h
    obtain ⟨g1, g2, g3⟩ := ht2 hi
    refine wp_seq (regp K0 hS rfl trivial fun β a w hS => ?_)
    refine call0 e_put (c_put x6 u) hS [2, 3, 16, 17] rfl rfl rfl rfl rfl ⟨state_cl _ _, trivial⟩ rfl ?_
    intro y hy β a w hS
    simp only [g1, if_true] at hy
    obtain ⟨x7, rfl⟩ := hy
    rw [g2] at hS
    refine rege K0 [2, 3, 16, 17, 19, 20] hS rfl rfl trivial fun β a w hS => ?_
    refine regS KH [6] hS rfl rfl ⟨fun _ => ⟨_, _, _, _, rfl, rfl, hsn⟩, fun _ => ⟨rfl, fun i _ => ⟨_, rfl⟩⟩, fun _ => ⟨rfl, fun i _ => ⟨_, rfl⟩⟩, trivial⟩ fun β a w hS => ?_
    refine wp_ret (fret1 K0 rfl hS rfl trivial ?_)
    show bol (((true && ((0 : Int) == 0)) && ((bytesOf z).toList == (bytesOf z).toList)) && (sameB s u == (c == 0))) = bol true
    rw [g3, beq_self_eq_true (bytesOf z).toList, beq_self_eq_true (c == 0)]
    rfl

theorem c_imageBackL (x : Value) (s : State) (hs : StateIn s) (n c : Int) (hc : InT .u8 c) : Fun Try.prog T 4 [stateD x s, i64 n, .v (.int .u8 c)] fun y => y = bol true :=
  c_imageBack x s (by have := hs.game.dice.u64; omega) hs.game.n n c hc.u8

end Go.CE
