/- Contracts: the document's reader. -/
import Derived.Test.YthcdfbkdkeodpaaX2
import Derived.Test.YthcdfbkdkeodpaaX1
import Derived.OpenShut
import Derived.ShutString
import Derived.ChangeOld
import Derived.Carry
import Derived.ProofKit
namespace Go.CE
open Go.RowKit Go.Proofs

theorem i64_id {n : Int} (h : -9223372036854775808 ≤ n ∧ n ≤ 9223372036854775807) : IntKind.i64.wrap n = n := IntWalk.i64_in _ ⟨by omega, by omega⟩

theorem c_RNum (s : RS) (hby : Byt s.1) (n : Nat) (hn : n ≤ 8) :
    Con Try.prog T 36 [.p 0 [], i64 n] (rsL s) 1 fun y L1 => y = u64 (rnum n s).1 ∧ L1 = rsL (rnum n s).2 := by
  obtain ⟨l, bad⟩ := s
  have hby : Byt l := hby
  refine Con.intro Try.func36 rfl rfl rfl rfl fun G w0 β0 β a w hS => ?_
  refine regS K0 [0, 1] hS rfl rfl trivial fun β a w hS => ?_
  refine wp_seq ?_
  refine regS K0 [0, 1, 19] hS rfl rfl trivial fun β a w hS => ?_
  refine cnd hS rfl (fun h => ?_) (fun h => wp_skip ?_)
  · have h : (bad || decide (((bytesOf l).size : Int) < n)) = true := h
    rw [bytesOf_size] at h
    have e : rnum n (l, bad) = (0, ([], true)) := by unfold rnum; exact if_pos h
    rw [e]
    refine regS K0 [] hS rfl rfl trivial fun β a w hS => ?_
    refine regS K0 [4] hS rfl rfl trivial fun β a w hS => ?_
    exact wp_ret (cret1 K0 rfl hS rfl (rsL ([], true)) [] rfl rfl ⟨⟨trivial, trivial, trivial⟩, trivial⟩ _ rfl rfl ⟨rfl, rfl⟩)
  · have h : (bad || decide (((bytesOf l).size : Int) < n)) = false := h
    rw [bytesOf_size] at h
    have e : rnum n (l, bad) = (bn l n, (l.drop n, false)) := by unfold rnum; exact if_neg (fun q => by rw [show (((l, bad) : RS).2 || decide ((((l, bad) : RS).1.length : Int) < n)) = false from h] at q; cases q)
    have hb : bad = false := by cases bad with
      | false => rfl
      | true => simp at h
    subst hb
    have hl : n ≤ l.length := by
      rw [Bool.false_or, decide_eq_false_iff_not] at h
      omega
    have hsz := bytesOf_size l
    rw [e]
    refine regS K0 [0, 1, 5] hS rfl rfl trivial fun β a w hS => ?_
    refine wp_seq ?_
    refine regS K0 [0, 1, 5, 6] hS rfl rfl trivial fun β a w hS => ?_
    refine wp_block ?_
    refine lop (fun k : Nat => n - k) (fun k => k ≤ n) (fun k => [(0, .d (.p 0 [])), (1, .d (i64 n)), (5, .d (u64 (rdR l n k))), (6, .d (i64 ((n : Int) - 1 - k)))]) (fun _ => rsL (l, false)) 0 (Nat.zero_le _) (Ste.sub hS ⟨rfl, rfl, rfl, ?_, trivial⟩) ?_
    · show some (B.d (.v (.int .i64 (IntKind.i64.wrap ((n : Int) - 1))))) = some (B.d (i64 ((n : Int) - 1 - (0 : Nat))))
      rw [i64_id (by omega)]
      simp [i64]
    intro k hk β a w hS
    refine wp_seq ?_
    refine regS K0 [0, 1, 5, 6, 29] hS rfl rfl trivial fun β a w hS => ?_
    refine cnd hS rfl (fun hlt => wp_skip ?_) (fun hge => wp_exit ?_)
    · have hlt : k < n := by have : ((n : Int) - 1 - k) ≥ 0 := by simpa using hlt
                             omega
      refine wp_seq ?_
      refine wp_block ?_
      refine reg K0 [0, 1, 5, 6] hS rfl rfl ⟨⟨by omega, by show (n : Int) - 1 - k < (bytesOf l).size; omega⟩, by decide, trivial⟩ fun β a w hS => ?_
      refine reg K0 [0, 1, 5, 6] hS rfl rfl trivial fun β a w hS => ?_
      refine ⟨k + 1, β, hlt, Nat.sub_lt_sub_left hlt (Nat.lt_succ_self k), Ste.sub hS ⟨rfl, rfl, ?_, ?_, trivial⟩⟩
      · show some (B.d (.v (.int .u64 (bitI .or .u64 (shlI .u64 (rdR l n k) 8) (IntKind.u64.wrap ((((bytesOf l).data.toList.getD ((n : Int) - 1 - k).toNat 0).toNat : Nat) : Int)))))) = some (B.d (u64 (rdR l n (k + 1))))
        have e1 : ((n : Int) - 1 - k).toNat = n - 1 - k := by omega
        obtain ⟨h1, h2⟩ := rdR_in (l := l) hby n k
        obtain ⟨h3, h4⟩ := Byt.get (l := l) hby (n - 1 - k)
        have hp : (256 : Int) ^ k ≤ 256 ^ 7 := by
          have h2 : ((256 ^ k : Nat) : Int) ≤ ((256 ^ 7 : Nat) : Int) := Int.ofNat_le.2 (Nat.pow_le_pow_right (n := 256) (by decide) (by omega))
          simpa using h2
        have e2 : shlI .u64 (rdR l n k) 8 = rdR l n k * 256 := by
          have : shlI .u64 (rdR l n k) 8 = IntKind.u64.wrap (rdR l n k * 2 ^ 8) := rfl
          rw [this, u64_id (by omega) (by omega)]
          rfl
        have e3 : bitI .or .u64 (rdR l n k * 256) (l.getD (n - 1 - k) 0) = rdR l n k * 256 + l.getD (n - 1 - k) 0 := by
          have hc : ∀ a b : Int, 0 ≤ a → a < 256 ^ 7 → 0 ≤ b → b < 256 → bitI .or .u64 (a * 256) b = a * 256 + b := by
            intro a b ha ha2 hb hb2
            obtain ⟨m, rfl⟩ := Int.eq_ofNat_of_zero_le ha
            obtain ⟨q, rfl⟩ := Int.eq_ofNat_of_zero_le hb
            have hq : q < 2 ^ 8 := by omega
            have hk : 2 ^ 8 * m + q = 2 ^ 8 * m ||| q := Nat.two_pow_add_eq_or_of_lt hq m
            have ec : ((m : Int) * 256) = ((2 ^ 8 * m : Nat) : Int) := by omega
            rw [ec]
            show IntKind.u64.wrap (((BitVec.ofInt 64 ((2 ^ 8 * m : Nat) : Int) ||| BitVec.ofInt 64 (q : Int)).toNat : Nat) : Int) = _
            have c1 : (BitVec.ofInt 64 ((2 ^ 8 * m : Nat) : Int)).toNat = 2 ^ 8 * m := by have := u64_bit (n := ((2 ^ 8 * m : Nat) : Int)) (by omega) (by omega); omega
            have c2 : (BitVec.ofInt 64 (q : Int)).toNat = q := by have := u64_bit (n := (q : Int)) (by omega) (by omega); omega
            rw [BitVec.toNat_or, c1, c2, ← hk, u64_id (by omega) (by omega)]
            omega
          exact hc _ _ h1 (by omega) h3 (by omega)
        rw [e1, bytesOf_get (l := l) hby (by omega), u64_id (by omega) (by omega), e2, e3]
        rfl
      · show some (B.d (.v (.int .i64 (IntKind.i64.wrap ((n : Int) - 1 - k - 1))))) = some (B.d (i64 ((n : Int) - 1 - (k + 1 : Nat))))
        rw [i64_id (by omega)]
        have : (n : Int) - 1 - k - 1 = (n : Int) - 1 - (k + 1 : Nat) := by omega
        rw [this]
        rfl
    · have hge : k = n := by have : ¬ ((n : Int) - 1 - k) ≥ 0 := by simpa using hge
                             have hk : k ≤ n := hk
                             omega
      subst hge
      have hR := rdR_bn (l := l) (n := k) k (Nat.le_refl k)
      rw [Nat.sub_self] at hR
      have hR : rdR l k k = bn l k := by simpa [bn] using hR
      rw [hR] at hS
      refine wp_seq (regp K0 hS rfl trivial fun β a w hS => ?_)
      refine strl K0 hS k rfl rfl rfl rfl rfl (s := bytesOf l) rfl rfl rfl rfl (by omega) fun a hS => ?_
      rw [bytesOf_drop] at hS
      refine rege K0 [5] hS rfl rfl trivial fun β a w hS => ?_
      refine regS K0 [4] hS rfl rfl trivial fun β a w hS => ?_
      exact wp_ret (cret1 K0 rfl hS rfl (rsL (l.drop k, false)) [] rfl rfl ⟨⟨trivial, trivial, trivial⟩, trivial⟩ _ rfl rfl ⟨rfl, rfl⟩)
theorem e_RNum : Enters Try.prog 36 := enters_of Try.func36 rfl (by kernel_rfl)

theorem rs_cl (s : RS) : Cl (rsD s) := ⟨trivial, trivial, trivial⟩
theorem c_RInt (s : RS) (hby : Byt s.1) (n : Nat) (hn : n ≤ 8) :
    Con Try.prog T 35 [.p 0 [], i64 n] (rsL s) 1 fun y L1 => y = i64 (i64w (rnum n s).1) ∧ L1 = rsL (rnum n s).2 := by
  refine Con.intro Try.func35 rfl rfl rfl rfl fun G w0 β0 β a w hS => ?_
  refine regS K0 [0, 1] hS rfl rfl trivial fun β a w hS => ?_
  refine wp_seq (regp K0 hS rfl trivial fun β a w hS => ?_)
  refine callf e_RNum (c_RNum s hby n hn) hS [] [0] rfl rfl rfl rfl rfl (by simp) rfl rfl rfl ⟨Nat.zero_lt_one, trivial, trivial⟩ ⟨⟨_, rfl, rfl, rfl⟩, ⟨trivial, trivial, trivial⟩, rfl, trivial⟩ ?_
  rintro y L1 ⟨rfl, rfl⟩ β a w hS
  refine rege K0 [4] hS rfl rfl trivial fun β a w hS => ?_
  exact wp_ret (cret1 K0 rfl hS rfl (rsL (rnum n s).2) [] rfl rfl ⟨⟨trivial, trivial, trivial⟩, trivial⟩ _ rfl rfl ⟨rfl, rfl⟩)
theorem e_RInt : Enters Try.prog 35 := enters_of Try.func35 rfl (by kernel_rfl)
def sgn (n : Int) : Int := IntKind.i32.wrap (IntKind.u32.wrap n)
theorem c_Rfour (s : RS) (hby : Byt s.1) :
    Con Try.prog T 37 [.p 0 []] (rsL s) 1 fun y L1 => y = i32 (sgn (rnum 4 s).1) ∧ L1 = rsL (rnum 4 s).2 := by
  refine Con.intro Try.func37 rfl rfl rfl rfl fun G w0 β0 β a w hS => ?_
  refine regS K0 [0] hS rfl rfl trivial fun β a w hS => ?_
  refine wp_seq (regp K0 hS rfl trivial fun β a w hS => ?_)
  refine callf e_RNum (c_RNum s hby 4 (by omega)) hS [] [0] rfl rfl rfl rfl rfl (by simp) rfl rfl rfl ⟨Nat.zero_lt_one, trivial, trivial⟩ ⟨⟨_, rfl, rfl, rfl⟩, ⟨trivial, trivial, trivial⟩, rfl, trivial⟩ ?_
  rintro y L1 ⟨rfl, rfl⟩ β a w hS
  refine rege K0 [2] hS rfl rfl trivial fun β a w hS => ?_
  exact wp_ret (cret1 K0 rfl hS rfl (rsL (rnum 4 s).2) [] rfl rfl ⟨⟨trivial, trivial, trivial⟩, trivial⟩ _ rfl rfl ⟨rfl, rfl⟩)
theorem e_Rfour : Enters Try.prog 37 := enters_of Try.func37 rfl (by kernel_rfl)
def rend (s : RS) : Bool := !s.2 && ((bytesOf s.1).toList == (⟨#[]⟩ : ByteArray).toList)
theorem c_REnd (s : RS) :
    Con Try.prog T 38 [.p 0 []] (rsL s) 1 fun y L1 => y = bol (rend s) ∧ L1 = rsL s := by
  refine Con.intro Try.func38 rfl rfl rfl rfl fun G w0 β0 β a w hS => ?_
  refine regS K0 [0] hS rfl rfl trivial fun β a w hS => ?_
  refine regS K0 [2] hS rfl rfl trivial fun β a w hS => ?_
  exact wp_ret (cret1 K0 rfl hS rfl (rsL s) [] rfl rfl ⟨⟨trivial, trivial, trivial⟩, trivial⟩ _ rfl rfl ⟨rfl, rfl⟩)
theorem e_REnd : Enters Try.prog 38 := enters_of Try.func38 rfl (by kernel_rfl)

end Go.CE

/- image.Get: one shot is read, while the load of the shots' header floats among the reads. Printed by wip/gen/chain13.py. -/
namespace Go.CE
open Go.RowKit Go.Proofs

noncomputable def l13 : List Oper := opsAt Try.f13 13
def k5 (v0 v1 v2 v3 v4 : Int) (l : List Int) : Option (Shot × List Int) := bindR (rd 1 l) fun v5 l => some (⟨i64w v0, v1, v2, v3, v4, i64w v5⟩, l)
def k4 (v0 v1 v2 v3 : Int) (l : List Int) : Option (Shot × List Int) := bindR (rs l) fun v4 l => k5 v0 v1 v2 v3 v4 l
def k3 (v0 v1 v2 : Int) (l : List Int) : Option (Shot × List Int) := bindR (rs l) fun v3 l => k4 v0 v1 v2 v3 l
def k2 (v0 v1 : Int) (l : List Int) : Option (Shot × List Int) := bindR (rs l) fun v2 l => k3 v0 v1 v2 l
def k1 (v0 : Int) (l : List Int) : Option (Shot × List Int) := bindR (rs l) fun v1 l => k2 v0 v1 l
theorem decShot_eq (l : List Int) : decShot l = bindR (rd 1 l) fun v0 l => k1 v0 l := rfl
variable {w1 w : World} {β β0 β1 : Nat → Nat} {a : Act} {G : Nat → Prop}

set_option maxHeartbeats 2000000 in
theorem chain13a {x x0 : Value} {l0 l : List Int} {n fr di : Int} {ships : Nat → Ship} {ro : Roster} {id : Nat} {Q : Exit → Act → World → Prop} (hS : Ste T w1 (pinsOf β1 2 2 G) Try.f13.ntmps [gDfr β1] [(0, .d (.sl 1 x0 l0.length (rowD l0))), (2, .d (.p 0 [])), (3, .d (.p 1 [])), (4, .d (.p 2 [])), (6, .d (u64 n))] [] (gL (nilSh) fr di ships ro 0 x l []) β a w)
    (hbad : decShot l = none → ∀ env env2 xx ll β a w, Ste T w1 (pinsOf β1 2 2 G) Try.f13.ntmps [gDfr β1] env [] (gL (nilSh) fr di ships ro 0 xx ll []) β a w → keepE env [2, 3] [] = some env2 → look 2 env2 = some (.d (.p 0 [])) → look 3 env2 = some (.d (.p 1 [])) → Q (.panic [{ v := badV, recovered := false }]) a w)
    (hQ : ∀ c (a : Act) w d v, d ≠ 2 → d ≠ 3 → Q (.panic c) (a.put (some d) v) w → Q (.panic c) a w)
    (hfin : ∀ v0 v1 v2 v3 v4 v5 x' l' β a w, decShot l = some (⟨i64w v0, v1, v2, v3, v4, i64w v5⟩, l') → Ste T w1 (pinsOf β1 2 2 G) Try.f13.ntmps [gDfr β1] [(0, .d (.sl 1 x0 l0.length (rowD l0))), (2, .d (.p 0 [])), (3, .d (.p 1 [])), (4, .d (.p 2 [])), (6, .d (u64 n)), (57, .d (nilSh)), (73, .d (.os 3 1 1))] [] (gL (nilSh) fr di ships ro 0 x' l' ([.row 72 6 1 (listF [shotD ⟨i64w v0, v1, v2, v3, v4, i64w v5⟩]) 1])) β a w → AW Try.prog l13 Q [true, true, true, true, true, true, true, true, true, true, true, true, true, true, true, true, true, true, true, false, false, false, false] a w) : (Code.region id l13.toArray true).wp Try.prog Q a w := by
  have G5 : ∀ v0 v1 v2 v3 v4 x' l' β a w, decShot l = k5 v0 v1 v2 v3 v4 l' → Ste T w1 (pinsOf β1 2 2 G) Try.f13.ntmps [gDfr β1] [(0, .d (.sl 1 x0 l0.length (rowD l0))), (2, .d (.p 0 [])), (3, .d (.p 1 [])), (4, .d (.p 2 [])), (6, .d (u64 n)), (57, .d (nilSh)), (60, .d (i64 (i64w v0))), (62, .d (i32 v1)), (64, .d (i32 v2)), (66, .d (i32 v3)), (68, .d (i32 v4)), (69, .d (.p 2 []))] [] (gL (nilSh) fr di ships ro 0 x' l' []) β a w → AW Try.prog l13 Q [true, true, true, true, true, true, true, true, true, true, true, true, true, true, true, false, false, false, false, false, false, false, false] a w := by
    intro v0 v1 v2 v3 v4 x' l' β a w hs hS
    refine any1 15 (by kernel_rfl) rfl ?_
    refine numR (b := 1) (by omega) hS [0, 2, 3, 4, 6, 57, 60, 62, 64, 66, 68] rfl rfl rfl rfl rfl (fun h β w hS => hbad (by rw [hs, k5, rd_no h]) _ _ _ _ _ _ _ hS rfl rfl rfl) fun h x2 β a w hS => ?_
    refine wpList_nil ?_
    rw [k5, rd_yes h] at hs
    refine anyp K0 [16, 17, 18] (by kernel_rfl) hS rfl ⟨by decide, trivial⟩ (by kernel_rfl) fun β a w hS => ?_
    exact hfin _ _ _ _ _ _ _ _ β a w hs (Ste.sub hS ⟨rfl, rfl, rfl, rfl, rfl, rfl, rfl, trivial⟩)
  have G4 : ∀ v0 v1 v2 v3 x' l' β a w, decShot l = k4 v0 v1 v2 v3 l' → Ste T w1 (pinsOf β1 2 2 G) Try.f13.ntmps [gDfr β1] [(0, .d (.sl 1 x0 l0.length (rowD l0))), (2, .d (.p 0 [])), (3, .d (.p 1 [])), (4, .d (.p 2 [])), (6, .d (u64 n)), (57, .d (nilSh)), (60, .d (i64 (i64w v0))), (62, .d (i32 v1)), (64, .d (i32 v2)), (66, .d (i32 v3)), (67, .d (.p 2 [])), (69, .d (.p 2 []))] [] (gL (nilSh) fr di ships ro 0 x' l' []) β a w → AW Try.prog l13 Q [true, true, true, true, true, true, true, true, true, true, true, true, true, false, true, false, false, false, false, false, false, false, false] a w := by
    intro v0 v1 v2 v3 x' l' β a w hs hS
    refine any1 13 (by kernel_rfl) rfl ?_
    refine smallR hS [0, 2, 3, 4, 6, 57, 60, 62, 64, 66, 69] rfl rfl rfl rfl rfl (fun h β w hS => hbad (by rw [hs, k4, rs_no h]) _ _ _ _ _ _ _ hS rfl rfl rfl) fun h x2 β a w hS => ?_
    refine wpList_nil ?_
    rw [k4, rs_yes h] at hs
    exact G5 _ _ _ _  _ _ _ β a w hs (Ste.sub hS ⟨rfl, rfl, rfl, rfl, rfl, rfl, rfl, rfl, rfl, rfl, rfl, rfl, trivial⟩)
  have G3 : ∀ v0 v1 v2 x' l' β a w, decShot l = k3 v0 v1 v2 l' → Ste T w1 (pinsOf β1 2 2 G) Try.f13.ntmps [gDfr β1] [(0, .d (.sl 1 x0 l0.length (rowD l0))), (2, .d (.p 0 [])), (3, .d (.p 1 [])), (4, .d (.p 2 [])), (6, .d (u64 n)), (57, .d (nilSh)), (60, .d (i64 (i64w v0))), (62, .d (i32 v1)), (64, .d (i32 v2)), (65, .d (.p 2 [])), (67, .d (.p 2 [])), (69, .d (.p 2 []))] [] (gL (nilSh) fr di ships ro 0 x' l' []) β a w → AW Try.prog l13 Q [true, true, true, true, true, true, true, true, true, true, true, false, true, false, true, false, false, false, false, false, false, false, false] a w := by
    intro v0 v1 v2 x' l' β a w hs hS
    refine any1 11 (by kernel_rfl) rfl ?_
    refine smallR hS [0, 2, 3, 4, 6, 57, 60, 62, 64, 67, 69] rfl rfl rfl rfl rfl (fun h β w hS => hbad (by rw [hs, k3, rs_no h]) _ _ _ _ _ _ _ hS rfl rfl rfl) fun h x2 β a w hS => ?_
    refine wpList_nil ?_
    rw [k3, rs_yes h] at hs
    exact G4 _ _ _  _ _ _ β a w hs (Ste.sub hS ⟨rfl, rfl, rfl, rfl, rfl, rfl, rfl, rfl, rfl, rfl, rfl, rfl, trivial⟩)
  have G2 : ∀ v0 v1 x' l' β a w, decShot l = k2 v0 v1 l' → Ste T w1 (pinsOf β1 2 2 G) Try.f13.ntmps [gDfr β1] [(0, .d (.sl 1 x0 l0.length (rowD l0))), (2, .d (.p 0 [])), (3, .d (.p 1 [])), (4, .d (.p 2 [])), (6, .d (u64 n)), (57, .d (nilSh)), (60, .d (i64 (i64w v0))), (62, .d (i32 v1)), (63, .d (.p 2 [])), (65, .d (.p 2 [])), (67, .d (.p 2 [])), (69, .d (.p 2 []))] [] (gL (nilSh) fr di ships ro 0 x' l' []) β a w → AW Try.prog l13 Q [true, true, true, true, true, true, true, true, true, false, true, false, true, false, true, false, false, false, false, false, false, false, false] a w := by
    intro v0 v1 x' l' β a w hs hS
    refine any1 9 (by kernel_rfl) rfl ?_
    refine smallR hS [0, 2, 3, 4, 6, 57, 60, 62, 65, 67, 69] rfl rfl rfl rfl rfl (fun h β w hS => hbad (by rw [hs, k2, rs_no h]) _ _ _ _ _ _ _ hS rfl rfl rfl) fun h x2 β a w hS => ?_
    refine wpList_nil ?_
    rw [k2, rs_yes h] at hs
    exact G3 _ _  _ _ _ β a w hs (Ste.sub hS ⟨rfl, rfl, rfl, rfl, rfl, rfl, rfl, rfl, rfl, rfl, rfl, rfl, trivial⟩)
  have G1 : ∀ v0 x' l' β a w, decShot l = k1 v0 l' → Ste T w1 (pinsOf β1 2 2 G) Try.f13.ntmps [gDfr β1] [(0, .d (.sl 1 x0 l0.length (rowD l0))), (2, .d (.p 0 [])), (3, .d (.p 1 [])), (4, .d (.p 2 [])), (6, .d (u64 n)), (57, .d (nilSh)), (60, .d (i64 (i64w v0))), (61, .d (.p 2 [])), (63, .d (.p 2 [])), (65, .d (.p 2 [])), (67, .d (.p 2 [])), (69, .d (.p 2 []))] [] (gL (nilSh) fr di ships ro 0 x' l' []) β a w → AW Try.prog l13 Q [true, true, true, true, true, true, true, false, true, false, true, false, true, false, true, false, false, false, false, false, false, false, false] a w := by
    intro v0 x' l' β a w hs hS
    refine any1 7 (by kernel_rfl) rfl ?_
    refine smallR hS [0, 2, 3, 4, 6, 57, 60, 63, 65, 67, 69] rfl rfl rfl rfl rfl (fun h β w hS => hbad (by rw [hs, k1, rs_no h]) _ _ _ _ _ _ _ hS rfl rfl rfl) fun h x2 β a w hS => ?_
    refine wpList_nil ?_
    rw [k1, rs_yes h] at hs
    exact G2 _  _ _ _ β a w hs (Ste.sub hS ⟨rfl, rfl, rfl, rfl, rfl, rfl, rfl, rfl, rfl, rfl, rfl, rfl, trivial⟩)
  have G0 : ∀  x' l' β a w, decShot l = bindR (rd 1 l') (fun v0 l => k1 v0 l) → Ste T w1 (pinsOf β1 2 2 G) Try.f13.ntmps [gDfr β1] [(0, .d (.sl 1 x0 l0.length (rowD l0))), (2, .d (.p 0 [])), (3, .d (.p 1 [])), (4, .d (.p 2 [])), (6, .d (u64 n)), (57, .d (nilSh)), (58, .d (.p 2 [])), (61, .d (.p 2 [])), (63, .d (.p 2 [])), (65, .d (.p 2 [])), (67, .d (.p 2 [])), (69, .d (.p 2 []))] [] (gL (nilSh) fr di ships ro 0 x' l' []) β a w → AW Try.prog l13 Q [true, true, true, true, false, false, true, false, true, false, true, false, true, false, true, false, false, false, false, false, false, false, false] a w := by
    intro  x' l' β a w hs hS
    refine any1 4 (by kernel_rfl) rfl ?_
    refine numR (b := 1) (by omega) hS [0, 2, 3, 4, 6, 57, 61, 63, 65, 67, 69] rfl rfl rfl rfl rfl (fun h β w hS => hbad (by rw [hs, rd_no h]) _ _ _ _ _ _ _ hS rfl rfl rfl) fun h x2 β a w hS => ?_
    refine wpList_nil ?_
    rw [rd_yes h] at hs
    refine anyv K0 hS 5 rfl rfl rfl rfl rfl rfl rfl rfl rfl rfl (by kernel_rfl) (fun c a w h => hQ c a w _ _ (by decide) (by decide) h) fun a hS => ?_
    exact G1  _ _ _ β a w hs (Ste.sub hS ⟨rfl, rfl, rfl, rfl, rfl, rfl, rfl, rfl, rfl, rfl, rfl, rfl, trivial⟩)
  have U6 : ∀ v0 v1 v2 v3 v4 v5 x' l' β a w, decShot l = some (⟨i64w v0, v1, v2, v3, v4, i64w v5⟩, l') → Ste T w1 (pinsOf β1 2 2 G) Try.f13.ntmps [gDfr β1] [(0, .d (.sl 1 x0 l0.length (rowD l0))), (2, .d (.p 0 [])), (3, .d (.p 1 [])), (4, .d (.p 2 [])), (6, .d (u64 n)), (56, .d (.p 0 [.fld 35 0, .fld 28 3])), (60, .d (i64 (i64w v0))), (62, .d (i32 v1)), (64, .d (i32 v2)), (66, .d (i32 v3)), (68, .d (i32 v4)), (70, .d (u64 v5))] [] (gL (nilSh) fr di ships ro 0 x' l' []) β a w → AW Try.prog l13 Q [true, true, false, true, true, true, true, true, true, true, true, true, true, true, true, true, false, false, false, false, false, false, false] a w := by
    intro v0 v1 v2 v3 v4 v5 x' l' β a w hs hS
    refine anyv K0 hS 16 rfl rfl rfl rfl rfl rfl rfl rfl rfl rfl (by kernel_rfl) (fun c a w h => hQ c a w _ _ (by decide) (by decide) h) fun a hS => ?_
    refine anyS K0 hS 17 rfl rfl rfl rfl trivial rfl ⟨trivial, trivial, trivial, trivial, trivial, trivial, trivial⟩ rfl rfl (by kernel_rfl) (fun c a w h => hQ c a w _ _ (by decide) (by decide) h) fun a hS => ?_
    refine any2 2 18 (by kernel_rfl) rfl rfl ?_ ?_
    · refine rego K0 hS rfl trivial fun β a w hS => ?_
      refine wpList_nil (any1 18 (by kernel_rfl) rfl ?_)
      refine rego K0 hS rfl ⟨by decide, trivial⟩ fun β a w hS => ?_
      refine wpList_nil ?_
      exact hfin _ _ _ _ _ _ _ _ β a w hs (Ste.sub hS ⟨rfl, rfl, rfl, rfl, rfl, rfl, rfl, trivial⟩)
    · refine rego K0 hS rfl ⟨by decide, trivial⟩ fun β a w hS => ?_
      refine wpList_nil (any1 2 (by kernel_rfl) rfl ?_)
      refine rego K0 hS rfl trivial fun β a w hS => ?_
      refine wpList_nil ?_
      exact hfin _ _ _ _ _ _ _ _ β a w hs (Ste.sub hS ⟨rfl, rfl, rfl, rfl, rfl, rfl, rfl, trivial⟩)
  have U5 : ∀ v0 v1 v2 v3 v4 x' l' β a w, decShot l = k5 v0 v1 v2 v3 v4 l' → Ste T w1 (pinsOf β1 2 2 G) Try.f13.ntmps [gDfr β1] [(0, .d (.sl 1 x0 l0.length (rowD l0))), (2, .d (.p 0 [])), (3, .d (.p 1 [])), (4, .d (.p 2 [])), (6, .d (u64 n)), (56, .d (.p 0 [.fld 35 0, .fld 28 3])), (60, .d (i64 (i64w v0))), (62, .d (i32 v1)), (64, .d (i32 v2)), (66, .d (i32 v3)), (68, .d (i32 v4)), (69, .d (.p 2 []))] [] (gL (nilSh) fr di ships ro 0 x' l' []) β a w → AW Try.prog l13 Q [true, true, false, true, true, true, true, true, true, true, true, true, true, true, true, false, false, false, false, false, false, false, false] a w := by
    intro v0 v1 v2 v3 v4 x' l' β a w hs hS
    refine any2 2 15 (by kernel_rfl) rfl rfl ?_ ?_
    · refine rego K0 hS rfl trivial fun β a w hS => ?_
      refine wpList_nil ?_
      exact G5 _ _ _ _ _  _ _ β a w hs (Ste.sub hS ⟨rfl, rfl, rfl, rfl, rfl, rfl, rfl, rfl, rfl, rfl, rfl, rfl, trivial⟩)
    · refine numR (b := 1) (by omega) hS [0, 2, 3, 4, 6, 56, 60, 62, 64, 66, 68] rfl rfl rfl rfl rfl (fun h β w hS => hbad (by rw [hs, k5, rd_no h]) _ _ _ _ _ _ _ hS rfl rfl rfl) fun h x2 β a w hS => ?_
      refine wpList_nil ?_
      rw [k5, rd_yes h] at hs
      exact U6 _ _ _ _ _  _ _ _ β a w hs (Ste.sub hS ⟨rfl, rfl, rfl, rfl, rfl, rfl, rfl, rfl, rfl, rfl, rfl, rfl, trivial⟩)
  have U4 : ∀ v0 v1 v2 v3 x' l' β a w, decShot l = k4 v0 v1 v2 v3 l' → Ste T w1 (pinsOf β1 2 2 G) Try.f13.ntmps [gDfr β1] [(0, .d (.sl 1 x0 l0.length (rowD l0))), (2, .d (.p 0 [])), (3, .d (.p 1 [])), (4, .d (.p 2 [])), (6, .d (u64 n)), (56, .d (.p 0 [.fld 35 0, .fld 28 3])), (60, .d (i64 (i64w v0))), (62, .d (i32 v1)), (64, .d (i32 v2)), (66, .d (i32 v3)), (67, .d (.p 2 [])), (69, .d (.p 2 []))] [] (gL (nilSh) fr di ships ro 0 x' l' []) β a w → AW Try.prog l13 Q [true, true, false, true, true, true, true, true, true, true, true, true, true, false, true, false, false, false, false, false, false, false, false] a w := by
    intro v0 v1 v2 v3 x' l' β a w hs hS
    refine any2 2 13 (by kernel_rfl) rfl rfl ?_ ?_
    · refine rego K0 hS rfl trivial fun β a w hS => ?_
      refine wpList_nil ?_
      exact G4 _ _ _ _  _ _ β a w hs (Ste.sub hS ⟨rfl, rfl, rfl, rfl, rfl, rfl, rfl, rfl, rfl, rfl, rfl, rfl, trivial⟩)
    · refine smallR hS [0, 2, 3, 4, 6, 56, 60, 62, 64, 66, 69] rfl rfl rfl rfl rfl (fun h β w hS => hbad (by rw [hs, k4, rs_no h]) _ _ _ _ _ _ _ hS rfl rfl rfl) fun h x2 β a w hS => ?_
      refine wpList_nil ?_
      rw [k4, rs_yes h] at hs
      exact U5 _ _ _ _  _ _ _ β a w hs (Ste.sub hS ⟨rfl, rfl, rfl, rfl, rfl, rfl, rfl, rfl, rfl, rfl, rfl, rfl, trivial⟩)
  have U3 : ∀ v0 v1 v2 x' l' β a w, decShot l = k3 v0 v1 v2 l' → Ste T w1 (pinsOf β1 2 2 G) Try.f13.ntmps [gDfr β1] [(0, .d (.sl 1 x0 l0.length (rowD l0))), (2, .d (.p 0 [])), (3, .d (.p 1 [])), (4, .d (.p 2 [])), (6, .d (u64 n)), (56, .d (.p 0 [.fld 35 0, .fld 28 3])), (60, .d (i64 (i64w v0))), (62, .d (i32 v1)), (64, .d (i32 v2)), (65, .d (.p 2 [])), (67, .d (.p 2 [])), (69, .d (.p 2 []))] [] (gL (nilSh) fr di ships ro 0 x' l' []) β a w → AW Try.prog l13 Q [true, true, false, true, true, true, true, true, true, true, true, false, true, false, true, false, false, false, false, false, false, false, false] a w := by
    intro v0 v1 v2 x' l' β a w hs hS
    refine any2 2 11 (by kernel_rfl) rfl rfl ?_ ?_
    · refine rego K0 hS rfl trivial fun β a w hS => ?_
      refine wpList_nil ?_
      exact G3 _ _ _  _ _ β a w hs (Ste.sub hS ⟨rfl, rfl, rfl, rfl, rfl, rfl, rfl, rfl, rfl, rfl, rfl, rfl, trivial⟩)
    · refine smallR hS [0, 2, 3, 4, 6, 56, 60, 62, 64, 67, 69] rfl rfl rfl rfl rfl (fun h β w hS => hbad (by rw [hs, k3, rs_no h]) _ _ _ _ _ _ _ hS rfl rfl rfl) fun h x2 β a w hS => ?_
      refine wpList_nil ?_
      rw [k3, rs_yes h] at hs
      exact U4 _ _ _  _ _ _ β a w hs (Ste.sub hS ⟨rfl, rfl, rfl, rfl, rfl, rfl, rfl, rfl, rfl, rfl, rfl, rfl, trivial⟩)
  have U2 : ∀ v0 v1 x' l' β a w, decShot l = k2 v0 v1 l' → Ste T w1 (pinsOf β1 2 2 G) Try.f13.ntmps [gDfr β1] [(0, .d (.sl 1 x0 l0.length (rowD l0))), (2, .d (.p 0 [])), (3, .d (.p 1 [])), (4, .d (.p 2 [])), (6, .d (u64 n)), (56, .d (.p 0 [.fld 35 0, .fld 28 3])), (60, .d (i64 (i64w v0))), (62, .d (i32 v1)), (63, .d (.p 2 [])), (65, .d (.p 2 [])), (67, .d (.p 2 [])), (69, .d (.p 2 []))] [] (gL (nilSh) fr di ships ro 0 x' l' []) β a w → AW Try.prog l13 Q [true, true, false, true, true, true, true, true, true, false, true, false, true, false, true, false, false, false, false, false, false, false, false] a w := by
    intro v0 v1 x' l' β a w hs hS
    refine any2 2 9 (by kernel_rfl) rfl rfl ?_ ?_
    · refine rego K0 hS rfl trivial fun β a w hS => ?_
      refine wpList_nil ?_
      exact G2 _ _  _ _ β a w hs (Ste.sub hS ⟨rfl, rfl, rfl, rfl, rfl, rfl, rfl, rfl, rfl, rfl, rfl, rfl, trivial⟩)
    · refine smallR hS [0, 2, 3, 4, 6, 56, 60, 62, 65, 67, 69] rfl rfl rfl rfl rfl (fun h β w hS => hbad (by rw [hs, k2, rs_no h]) _ _ _ _ _ _ _ hS rfl rfl rfl) fun h x2 β a w hS => ?_
      refine wpList_nil ?_
      rw [k2, rs_yes h] at hs
      exact U3 _ _  _ _ _ β a w hs (Ste.sub hS ⟨rfl, rfl, rfl, rfl, rfl, rfl, rfl, rfl, rfl, rfl, rfl, rfl, trivial⟩)
  have U1 : ∀ v0 x' l' β a w, decShot l = k1 v0 l' → Ste T w1 (pinsOf β1 2 2 G) Try.f13.ntmps [gDfr β1] [(0, .d (.sl 1 x0 l0.length (rowD l0))), (2, .d (.p 0 [])), (3, .d (.p 1 [])), (4, .d (.p 2 [])), (6, .d (u64 n)), (56, .d (.p 0 [.fld 35 0, .fld 28 3])), (60, .d (i64 (i64w v0))), (61, .d (.p 2 [])), (63, .d (.p 2 [])), (65, .d (.p 2 [])), (67, .d (.p 2 [])), (69, .d (.p 2 []))] [] (gL (nilSh) fr di ships ro 0 x' l' []) β a w → AW Try.prog l13 Q [true, true, false, true, true, true, true, false, true, false, true, false, true, false, true, false, false, false, false, false, false, false, false] a w := by
    intro v0 x' l' β a w hs hS
    refine any2 2 7 (by kernel_rfl) rfl rfl ?_ ?_
    · refine rego K0 hS rfl trivial fun β a w hS => ?_
      refine wpList_nil ?_
      exact G1 _  _ _ β a w hs (Ste.sub hS ⟨rfl, rfl, rfl, rfl, rfl, rfl, rfl, rfl, rfl, rfl, rfl, rfl, trivial⟩)
    · refine smallR hS [0, 2, 3, 4, 6, 56, 60, 63, 65, 67, 69] rfl rfl rfl rfl rfl (fun h β w hS => hbad (by rw [hs, k1, rs_no h]) _ _ _ _ _ _ _ hS rfl rfl rfl) fun h x2 β a w hS => ?_
      refine wpList_nil ?_
      rw [k1, rs_yes h] at hs
      exact U2 _  _ _ _ β a w hs (Ste.sub hS ⟨rfl, rfl, rfl, rfl, rfl, rfl, rfl, rfl, rfl, rfl, rfl, rfl, trivial⟩)
  have U0 : ∀  x' l' β a w, decShot l = bindR (rd 1 l') (fun v0 l => k1 v0 l) → Ste T w1 (pinsOf β1 2 2 G) Try.f13.ntmps [gDfr β1] [(0, .d (.sl 1 x0 l0.length (rowD l0))), (2, .d (.p 0 [])), (3, .d (.p 1 [])), (4, .d (.p 2 [])), (6, .d (u64 n)), (56, .d (.p 0 [.fld 35 0, .fld 28 3])), (58, .d (.p 2 [])), (61, .d (.p 2 [])), (63, .d (.p 2 [])), (65, .d (.p 2 [])), (67, .d (.p 2 [])), (69, .d (.p 2 []))] [] (gL (nilSh) fr di ships ro 0 x' l' []) β a w → AW Try.prog l13 Q [true, true, false, true, false, false, true, false, true, false, true, false, true, false, true, false, false, false, false, false, false, false, false] a w := by
    intro  x' l' β a w hs hS
    refine any2 2 4 (by kernel_rfl) rfl rfl ?_ ?_
    · refine rego K0 hS rfl trivial fun β a w hS => ?_
      refine wpList_nil ?_
      exact G0  _ _ β a w hs (Ste.sub hS ⟨rfl, rfl, rfl, rfl, rfl, rfl, rfl, rfl, rfl, rfl, rfl, rfl, trivial⟩)
    · refine numR (b := 1) (by omega) hS [0, 2, 3, 4, 6, 56, 61, 63, 65, 67, 69] rfl rfl rfl rfl rfl (fun h β w hS => hbad (by rw [hs, rd_no h]) _ _ _ _ _ _ _ hS rfl rfl rfl) fun h x2 β a w hS => ?_
      refine wpList_nil ?_
      rw [rd_yes h] at hs
      refine anyv K0 hS 5 rfl rfl rfl rfl rfl rfl rfl rfl rfl rfl (by kernel_rfl) (fun c a w h => hQ c a w _ _ (by decide) (by decide) h) fun a hS => ?_
      exact U1  _ _ _ β a w hs (Ste.sub hS ⟨rfl, rfl, rfl, rfl, rfl, rfl, rfl, rfl, rfl, rfl, rfl, rfl, trivial⟩)
  refine regAp K0 hS fun w hS => ?_
  refine anym hS 3 rfl rfl rfl rfl rfl rfl rfl (by kernel_rfl) (fun c a w h => hQ c a w _ _ (by decide) (by decide) h) fun a hS => ?_
  refine anym hS 6 rfl rfl rfl rfl rfl rfl rfl (by kernel_rfl) (fun c a w h => hQ c a w _ _ (by decide) (by decide) h) fun a hS => ?_
  refine anym hS 8 rfl rfl rfl rfl rfl rfl rfl (by kernel_rfl) (fun c a w h => hQ c a w _ _ (by decide) (by decide) h) fun a hS => ?_
  refine anym hS 10 rfl rfl rfl rfl rfl rfl rfl (by kernel_rfl) (fun c a w h => hQ c a w _ _ (by decide) (by decide) h) fun a hS => ?_
  refine anym hS 12 rfl rfl rfl rfl rfl rfl rfl (by kernel_rfl) (fun c a w h => hQ c a w _ _ (by decide) (by decide) h) fun a hS => ?_
  refine anym hS 14 rfl rfl rfl rfl rfl rfl rfl (by kernel_rfl) (fun c a w h => hQ c a w _ _ (by decide) (by decide) h) fun a hS => ?_
  refine anyf K0 hS 0 rfl rfl rfl rfl rfl rfl rfl rfl rfl (by kernel_rfl) (fun c a w h => hQ c a w _ _ (by decide) (by decide) h) fun a hS => ?_
  refine anyf K0 hS 1 rfl rfl rfl rfl rfl rfl rfl rfl rfl (by kernel_rfl) (fun c a w h => hQ c a w _ _ (by decide) (by decide) h) fun a hS => ?_
  exact U0 _ _ β a w (decShot_eq l) (Ste.sub hS ⟨rfl, rfl, rfl, rfl, rfl, rfl, rfl, rfl, rfl, rfl, rfl, rfl, trivial⟩)

set_option maxHeartbeats 2000000 in
theorem chain13b {i cap : Nat} {shots : Nat → Shot} {x x0 : Value} {l0 l : List Int} {n fr di : Int} {ships : Nat → Ship} {ro : Roster} {id : Nat} {Q : Exit → Act → World → Prop} (hS : Ste T w1 (pinsOf β1 2 2 G) Try.f13.ntmps [gDfr β1] [(0, .d (.sl 1 x0 l0.length (rowD l0))), (2, .d (.p 0 [])), (3, .d (.p 1 [])), (4, .d (.p 2 [])), (6, .d (u64 n))] [] (gL (.os 3 i cap) fr di ships ro 0 x l ([.row 72 6 i (fun j => shotD (shots j)) cap])) β a w)
    (hbad : decShot l = none → ∀ env env2 xx ll β a w, Ste T w1 (pinsOf β1 2 2 G) Try.f13.ntmps [gDfr β1] env [] (gL (.os 3 i cap) fr di ships ro 0 xx ll ([.row 72 6 i (fun j => shotD (shots j)) cap])) β a w → keepE env [2, 3] [] = some env2 → look 2 env2 = some (.d (.p 0 [])) → look 3 env2 = some (.d (.p 1 [])) → Q (.panic [{ v := badV, recovered := false }]) a w)
    (hQ : ∀ c (a : Act) w d v, d ≠ 2 → d ≠ 3 → Q (.panic c) (a.put (some d) v) w → Q (.panic c) a w)
    (hfin : ∀ v0 v1 v2 v3 v4 v5 x' l' β a w, decShot l = some (⟨i64w v0, v1, v2, v3, v4, i64w v5⟩, l') → Ste T w1 (pinsOf β1 2 2 G) Try.f13.ntmps [gDfr β1] [(0, .d (.sl 1 x0 l0.length (rowD l0))), (2, .d (.p 0 [])), (3, .d (.p 1 [])), (4, .d (.p 2 [])), (6, .d (u64 n)), (57, .d (.os 3 i cap)), (73, .d (.os 4 1 1))] [] (gL (.os 3 i cap) fr di ships ro 0 x' l' ([.row 72 6 i (fun j => shotD (shots j)) cap, .row 72 6 1 (listF [shotD ⟨i64w v0, v1, v2, v3, v4, i64w v5⟩]) 1])) β a w → AW Try.prog l13 Q [true, true, true, true, true, true, true, true, true, true, true, true, true, true, true, true, true, true, true, false, false, false, false] a w) : (Code.region id l13.toArray true).wp Try.prog Q a w := by
  have G5 : ∀ v0 v1 v2 v3 v4 x' l' β a w, decShot l = k5 v0 v1 v2 v3 v4 l' → Ste T w1 (pinsOf β1 2 2 G) Try.f13.ntmps [gDfr β1] [(0, .d (.sl 1 x0 l0.length (rowD l0))), (2, .d (.p 0 [])), (3, .d (.p 1 [])), (4, .d (.p 2 [])), (6, .d (u64 n)), (57, .d (.os 3 i cap)), (60, .d (i64 (i64w v0))), (62, .d (i32 v1)), (64, .d (i32 v2)), (66, .d (i32 v3)), (68, .d (i32 v4)), (69, .d (.p 2 []))] [] (gL (.os 3 i cap) fr di ships ro 0 x' l' ([.row 72 6 i (fun j => shotD (shots j)) cap])) β a w → AW Try.prog l13 Q [true, true, true, true, true, true, true, true, true, true, true, true, true, true, true, false, false, false, false, false, false, false, false] a w := by
    intro v0 v1 v2 v3 v4 x' l' β a w hs hS
    refine any1 15 (by kernel_rfl) rfl ?_
    refine numR (b := 1) (by omega) hS [0, 2, 3, 4, 6, 57, 60, 62, 64, 66, 68] rfl rfl rfl rfl rfl (fun h β w hS => hbad (by rw [hs, k5, rd_no h]) _ _ _ _ _ _ _ hS rfl rfl rfl) fun h x2 β a w hS => ?_
    refine wpList_nil ?_
    rw [k5, rd_yes h] at hs
    refine anyp K0 [16, 17, 18] (by kernel_rfl) hS rfl ⟨by decide, trivial⟩ (by kernel_rfl) fun β a w hS => ?_
    exact hfin _ _ _ _ _ _ _ _ β a w hs (Ste.sub hS ⟨rfl, rfl, rfl, rfl, rfl, rfl, rfl, trivial⟩)
  have G4 : ∀ v0 v1 v2 v3 x' l' β a w, decShot l = k4 v0 v1 v2 v3 l' → Ste T w1 (pinsOf β1 2 2 G) Try.f13.ntmps [gDfr β1] [(0, .d (.sl 1 x0 l0.length (rowD l0))), (2, .d (.p 0 [])), (3, .d (.p 1 [])), (4, .d (.p 2 [])), (6, .d (u64 n)), (57, .d (.os 3 i cap)), (60, .d (i64 (i64w v0))), (62, .d (i32 v1)), (64, .d (i32 v2)), (66, .d (i32 v3)), (67, .d (.p 2 [])), (69, .d (.p 2 []))] [] (gL (.os 3 i cap) fr di ships ro 0 x' l' ([.row 72 6 i (fun j => shotD (shots j)) cap])) β a w → AW Try.prog l13 Q [true, true, true, true, true, true, true, true, true, true, true, true, true, false, true, false, false, false, false, false, false, false, false] a w := by
    intro v0 v1 v2 v3 x' l' β a w hs hS
    refine any1 13 (by kernel_rfl) rfl ?_
    refine smallR hS [0, 2, 3, 4, 6, 57, 60, 62, 64, 66, 69] rfl rfl rfl rfl rfl (fun h β w hS => hbad (by rw [hs, k4, rs_no h]) _ _ _ _ _ _ _ hS rfl rfl rfl) fun h x2 β a w hS => ?_
    refine wpList_nil ?_
    rw [k4, rs_yes h] at hs
    exact G5 _ _ _ _  _ _ _ β a w hs (Ste.sub hS ⟨rfl, rfl, rfl, rfl, rfl, rfl, rfl, rfl, rfl, rfl, rfl, rfl, trivial⟩)
  have G3 : ∀ v0 v1 v2 x' l' β a w, decShot l = k3 v0 v1 v2 l' → Ste T w1 (pinsOf β1 2 2 G) Try.f13.ntmps [gDfr β1] [(0, .d (.sl 1 x0 l0.length (rowD l0))), (2, .d (.p 0 [])), (3, .d (.p 1 [])), (4, .d (.p 2 [])), (6, .d (u64 n)), (57, .d (.os 3 i cap)), (60, .d (i64 (i64w v0))), (62, .d (i32 v1)), (64, .d (i32 v2)), (65, .d (.p 2 [])), (67, .d (.p 2 [])), (69, .d (.p 2 []))] [] (gL (.os 3 i cap) fr di ships ro 0 x' l' ([.row 72 6 i (fun j => shotD (shots j)) cap])) β a w → AW Try.prog l13 Q [true, true, true, true, true, true, true, true, true, true, true, false, true, false, true, false, false, false, false, false, false, false, false] a w := by
    intro v0 v1 v2 x' l' β a w hs hS
    refine any1 11 (by kernel_rfl) rfl ?_
    refine smallR hS [0, 2, 3, 4, 6, 57, 60, 62, 64, 67, 69] rfl rfl rfl rfl rfl (fun h β w hS => hbad (by rw [hs, k3, rs_no h]) _ _ _ _ _ _ _ hS rfl rfl rfl) fun h x2 β a w hS => ?_
    refine wpList_nil ?_
    rw [k3, rs_yes h] at hs
    exact G4 _ _ _  _ _ _ β a w hs (Ste.sub hS ⟨rfl, rfl, rfl, rfl, rfl, rfl, rfl, rfl, rfl, rfl, rfl, rfl, trivial⟩)
  have G2 : ∀ v0 v1 x' l' β a w, decShot l = k2 v0 v1 l' → Ste T w1 (pinsOf β1 2 2 G) Try.f13.ntmps [gDfr β1] [(0, .d (.sl 1 x0 l0.length (rowD l0))), (2, .d (.p 0 [])), (3, .d (.p 1 [])), (4, .d (.p 2 [])), (6, .d (u64 n)), (57, .d (.os 3 i cap)), (60, .d (i64 (i64w v0))), (62, .d (i32 v1)), (63, .d (.p 2 [])), (65, .d (.p 2 [])), (67, .d (.p 2 [])), (69, .d (.p 2 []))] [] (gL (.os 3 i cap) fr di ships ro 0 x' l' ([.row 72 6 i (fun j => shotD (shots j)) cap])) β a w → AW Try.prog l13 Q [true, true, true, true, true, true, true, true, true, false, true, false, true, false, true, false, false, false, false, false, false, false, false] a w := by
    intro v0 v1 x' l' β a w hs hS
    refine any1 9 (by kernel_rfl) rfl ?_
    refine smallR hS [0, 2, 3, 4, 6, 57, 60, 62, 65, 67, 69] rfl rfl rfl rfl rfl (fun h β w hS => hbad (by rw [hs, k2, rs_no h]) _ _ _ _ _ _ _ hS rfl rfl rfl) fun h x2 β a w hS => ?_
    refine wpList_nil ?_
    rw [k2, rs_yes h] at hs
    exact G3 _ _  _ _ _ β a w hs (Ste.sub hS ⟨rfl, rfl, rfl, rfl, rfl, rfl, rfl, rfl, rfl, rfl, rfl, rfl, trivial⟩)
  have G1 : ∀ v0 x' l' β a w, decShot l = k1 v0 l' → Ste T w1 (pinsOf β1 2 2 G) Try.f13.ntmps [gDfr β1] [(0, .d (.sl 1 x0 l0.length (rowD l0))), (2, .d (.p 0 [])), (3, .d (.p 1 [])), (4, .d (.p 2 [])), (6, .d (u64 n)), (57, .d (.os 3 i cap)), (60, .d (i64 (i64w v0))), (61, .d (.p 2 [])), (63, .d (.p 2 [])), (65, .d (.p 2 [])), (67, .d (.p 2 [])), (69, .d (.p 2 []))] [] (gL (.os 3 i cap) fr di ships ro 0 x' l' ([.row 72 6 i (fun j => shotD (shots j)) cap])) β a w → AW Try.prog l13 Q [true, true, true, true, true, true, true, false, true, false, true, false, true, false, true, false, false, false, false, false, false, false, false] a w := by
    intro v0 x' l' β a w hs hS
    refine any1 7 (by kernel_rfl) rfl ?_
    refine smallR hS [0, 2, 3, 4, 6, 57, 60, 63, 65, 67, 69] rfl rfl rfl rfl rfl (fun h β w hS => hbad (by rw [hs, k1, rs_no h]) _ _ _ _ _ _ _ hS rfl rfl rfl) fun h x2 β a w hS => ?_
    refine wpList_nil ?_
    rw [k1, rs_yes h] at hs
    exact G2 _  _ _ _ β a w hs (Ste.sub hS ⟨rfl, rfl, rfl, rfl, rfl, rfl, rfl, rfl, rfl, rfl, rfl, rfl, trivial⟩)
  have G0 : ∀  x' l' β a w, decShot l = bindR (rd 1 l') (fun v0 l => k1 v0 l) → Ste T w1 (pinsOf β1 2 2 G) Try.f13.ntmps [gDfr β1] [(0, .d (.sl 1 x0 l0.length (rowD l0))), (2, .d (.p 0 [])), (3, .d (.p 1 [])), (4, .d (.p 2 [])), (6, .d (u64 n)), (57, .d (.os 3 i cap)), (58, .d (.p 2 [])), (61, .d (.p 2 [])), (63, .d (.p 2 [])), (65, .d (.p 2 [])), (67, .d (.p 2 [])), (69, .d (.p 2 []))] [] (gL (.os 3 i cap) fr di ships ro 0 x' l' ([.row 72 6 i (fun j => shotD (shots j)) cap])) β a w → AW Try.prog l13 Q [true, true, true, true, false, false, true, false, true, false, true, false, true, false, true, false, false, false, false, false, false, false, false] a w := by
    intro  x' l' β a w hs hS
    refine any1 4 (by kernel_rfl) rfl ?_
    refine numR (b := 1) (by omega) hS [0, 2, 3, 4, 6, 57, 61, 63, 65, 67, 69] rfl rfl rfl rfl rfl (fun h β w hS => hbad (by rw [hs, rd_no h]) _ _ _ _ _ _ _ hS rfl rfl rfl) fun h x2 β a w hS => ?_
    refine wpList_nil ?_
    rw [rd_yes h] at hs
    refine anyv K0 hS 5 rfl rfl rfl rfl rfl rfl rfl rfl rfl rfl (by kernel_rfl) (fun c a w h => hQ c a w _ _ (by decide) (by decide) h) fun a hS => ?_
    exact G1  _ _ _ β a w hs (Ste.sub hS ⟨rfl, rfl, rfl, rfl, rfl, rfl, rfl, rfl, rfl, rfl, rfl, rfl, trivial⟩)
  have U6 : ∀ v0 v1 v2 v3 v4 v5 x' l' β a w, decShot l = some (⟨i64w v0, v1, v2, v3, v4, i64w v5⟩, l') → Ste T w1 (pinsOf β1 2 2 G) Try.f13.ntmps [gDfr β1] [(0, .d (.sl 1 x0 l0.length (rowD l0))), (2, .d (.p 0 [])), (3, .d (.p 1 [])), (4, .d (.p 2 [])), (6, .d (u64 n)), (56, .d (.p 0 [.fld 35 0, .fld 28 3])), (60, .d (i64 (i64w v0))), (62, .d (i32 v1)), (64, .d (i32 v2)), (66, .d (i32 v3)), (68, .d (i32 v4)), (70, .d (u64 v5))] [] (gL (.os 3 i cap) fr di ships ro 0 x' l' ([.row 72 6 i (fun j => shotD (shots j)) cap])) β a w → AW Try.prog l13 Q [true, true, false, true, true, true, true, true, true, true, true, true, true, true, true, true, false, false, false, false, false, false, false] a w := by
    intro v0 v1 v2 v3 v4 v5 x' l' β a w hs hS
    refine anyv K0 hS 16 rfl rfl rfl rfl rfl rfl rfl rfl rfl rfl (by kernel_rfl) (fun c a w h => hQ c a w _ _ (by decide) (by decide) h) fun a hS => ?_
    refine anyS K0 hS 17 rfl rfl rfl rfl trivial rfl ⟨trivial, trivial, trivial, trivial, trivial, trivial, trivial⟩ rfl rfl (by kernel_rfl) (fun c a w h => hQ c a w _ _ (by decide) (by decide) h) fun a hS => ?_
    refine any2 2 18 (by kernel_rfl) rfl rfl ?_ ?_
    · refine rego K0 hS rfl trivial fun β a w hS => ?_
      refine wpList_nil (any1 18 (by kernel_rfl) rfl ?_)
      refine rego K0 hS rfl ⟨by decide, trivial⟩ fun β a w hS => ?_
      refine wpList_nil ?_
      exact hfin _ _ _ _ _ _ _ _ β a w hs (Ste.sub hS ⟨rfl, rfl, rfl, rfl, rfl, rfl, rfl, trivial⟩)
    · refine rego K0 hS rfl ⟨by decide, trivial⟩ fun β a w hS => ?_
      refine wpList_nil (any1 2 (by kernel_rfl) rfl ?_)
      refine rego K0 hS rfl trivial fun β a w hS => ?_
      refine wpList_nil ?_
      exact hfin _ _ _ _ _ _ _ _ β a w hs (Ste.sub hS ⟨rfl, rfl, rfl, rfl, rfl, rfl, rfl, trivial⟩)
  have U5 : ∀ v0 v1 v2 v3 v4 x' l' β a w, decShot l = k5 v0 v1 v2 v3 v4 l' → Ste T w1 (pinsOf β1 2 2 G) Try.f13.ntmps [gDfr β1] [(0, .d (.sl 1 x0 l0.length (rowD l0))), (2, .d (.p 0 [])), (3, .d (.p 1 [])), (4, .d (.p 2 [])), (6, .d (u64 n)), (56, .d (.p 0 [.fld 35 0, .fld 28 3])), (60, .d (i64 (i64w v0))), (62, .d (i32 v1)), (64, .d (i32 v2)), (66, .d (i32 v3)), (68, .d (i32 v4)), (69, .d (.p 2 []))] [] (gL (.os 3 i cap) fr di ships ro 0 x' l' ([.row 72 6 i (fun j => shotD (shots j)) cap])) β a w → AW Try.prog l13 Q [true, true, false, true, true, true, true, true, true, true, true, true, true, true, true, false, false, false, false, false, false, false, false] a w := by
    intro v0 v1 v2 v3 v4 x' l' β a w hs hS
    refine any2 2 15 (by kernel_rfl) rfl rfl ?_ ?_
    · refine rego K0 hS rfl trivial fun β a w hS => ?_
      refine wpList_nil ?_
      exact G5 _ _ _ _ _  _ _ β a w hs (Ste.sub hS ⟨rfl, rfl, rfl, rfl, rfl, rfl, rfl, rfl, rfl, rfl, rfl, rfl, trivial⟩)
    · refine numR (b := 1) (by omega) hS [0, 2, 3, 4, 6, 56, 60, 62, 64, 66, 68] rfl rfl rfl rfl rfl (fun h β w hS => hbad (by rw [hs, k5, rd_no h]) _ _ _ _ _ _ _ hS rfl rfl rfl) fun h x2 β a w hS => ?_
      refine wpList_nil ?_
      rw [k5, rd_yes h] at hs
      exact U6 _ _ _ _ _  _ _ _ β a w hs (Ste.sub hS ⟨rfl, rfl, rfl, rfl, rfl, rfl, rfl, rfl, rfl, rfl, rfl, rfl, trivial⟩)
  have U4 : ∀ v0 v1 v2 v3 x' l' β a w, decShot l = k4 v0 v1 v2 v3 l' → Ste T w1 (pinsOf β1 2 2 G) Try.f13.ntmps [gDfr β1] [(0, .d (.sl 1 x0 l0.length (rowD l0))), (2, .d (.p 0 [])), (3, .d (.p 1 [])), (4, .d (.p 2 [])), (6, .d (u64 n)), (56, .d (.p 0 [.fld 35 0, .fld 28 3])), (60, .d (i64 (i64w v0))), (62, .d (i32 v1)), (64, .d (i32 v2)), (66, .d (i32 v3)), (67, .d (.p 2 [])), (69, .d (.p 2 []))] [] (gL (.os 3 i cap) fr di ships ro 0 x' l' ([.row 72 6 i (fun j => shotD (shots j)) cap])) β a w → AW Try.prog l13 Q [true, true, false, true, true, true, true, true, true, true, true, true, true, false, true, false, false, false, false, false, false, false, false] a w := by
    intro v0 v1 v2 v3 x' l' β a w hs hS
    refine any2 2 13 (by kernel_rfl) rfl rfl ?_ ?_
    · refine rego K0 hS rfl trivial fun β a w hS => ?_
      refine wpList_nil ?_
      exact G4 _ _ _ _  _ _ β a w hs (Ste.sub hS ⟨rfl, rfl, rfl, rfl, rfl, rfl, rfl, rfl, rfl, rfl, rfl, rfl, trivial⟩)
    · refine smallR hS [0, 2, 3, 4, 6, 56, 60, 62, 64, 66, 69] rfl rfl rfl rfl rfl (fun h β w hS => hbad (by rw [hs, k4, rs_no h]) _ _ _ _ _ _ _ hS rfl rfl rfl) fun h x2 β a w hS => ?_
      refine wpList_nil ?_
      rw [k4, rs_yes h] at hs
      exact U5 _ _ _ _  _ _ _ β a w hs (Ste.sub hS ⟨rfl, rfl, rfl, rfl, rfl, rfl, rfl, rfl, rfl, rfl, rfl, rfl, trivial⟩)
  have U3 : ∀ v0 v1 v2 x' l' β a w, decShot l = k3 v0 v1 v2 l' → Ste T w1 (pinsOf β1 2 2 G) Try.f13.ntmps [gDfr β1] [(0, .d (.sl 1 x0 l0.length (rowD l0))), (2, .d (.p 0 [])), (3, .d (.p 1 [])), (4, .d (.p 2 [])), (6, .d (u64 n)), (56, .d (.p 0 [.fld 35 0, .fld 28 3])), (60, .d (i64 (i64w v0))), (62, .d (i32 v1)), (64, .d (i32 v2)), (65, .d (.p 2 [])), (67, .d (.p 2 [])), (69, .d (.p 2 []))] [] (gL (.os 3 i cap) fr di ships ro 0 x' l' ([.row 72 6 i (fun j => shotD (shots j)) cap])) β a w → AW Try.prog l13 Q [true, true, false, true, true, true, true, true, true, true, true, false, true, false, true, false, false, false, false, false, false, false, false] a w := by
    intro v0 v1 v2 x' l' β a w hs hS
    refine any2 2 11 (by kernel_rfl) rfl rfl ?_ ?_
    · refine rego K0 hS rfl trivial fun β a w hS => ?_
      refine wpList_nil ?_
      exact G3 _ _ _  _ _ β a w hs (Ste.sub hS ⟨rfl, rfl, rfl, rfl, rfl, rfl, rfl, rfl, rfl, rfl, rfl, rfl, trivial⟩)
    · refine smallR hS [0, 2, 3, 4, 6, 56, 60, 62, 64, 67, 69] rfl rfl rfl rfl rfl (fun h β w hS => hbad (by rw [hs, k3, rs_no h]) _ _ _ _ _ _ _ hS rfl rfl rfl) fun h x2 β a w hS => ?_
      refine wpList_nil ?_
      rw [k3, rs_yes h] at hs
      exact U4 _ _ _  _ _ _ β a w hs (Ste.sub hS ⟨rfl, rfl, rfl, rfl, rfl, rfl, rfl, rfl, rfl, rfl, rfl, rfl, trivial⟩)
  have U2 : ∀ v0 v1 x' l' β a w, decShot l = k2 v0 v1 l' → Ste T w1 (pinsOf β1 2 2 G) Try.f13.ntmps [gDfr β1] [(0, .d (.sl 1 x0 l0.length (rowD l0))), (2, .d (.p 0 [])), (3, .d (.p 1 [])), (4, .d (.p 2 [])), (6, .d (u64 n)), (56, .d (.p 0 [.fld 35 0, .fld 28 3])), (60, .d (i64 (i64w v0))), (62, .d (i32 v1)), (63, .d (.p 2 [])), (65, .d (.p 2 [])), (67, .d (.p 2 [])), (69, .d (.p 2 []))] [] (gL (.os 3 i cap) fr di ships ro 0 x' l' ([.row 72 6 i (fun j => shotD (shots j)) cap])) β a w → AW Try.prog l13 Q [true, true, false, true, true, true, true, true, true, false, true, false, true, false, true, false, false, false, false, false, false, false, false] a w := by
    intro v0 v1 x' l' β a w hs hS
    refine any2 2 9 (by kernel_rfl) rfl rfl ?_ ?_
    · refine rego K0 hS rfl trivial fun β a w hS => ?_
      refine wpList_nil ?_
      exact G2 _ _  _ _ β a w hs (Ste.sub hS ⟨rfl, rfl, rfl, rfl, rfl, rfl, rfl, rfl, rfl, rfl, rfl, rfl, trivial⟩)
    · refine smallR hS [0, 2, 3, 4, 6, 56, 60, 62, 65, 67, 69] rfl rfl rfl rfl rfl (fun h β w hS => hbad (by rw [hs, k2, rs_no h]) _ _ _ _ _ _ _ hS rfl rfl rfl) fun h x2 β a w hS => ?_
      refine wpList_nil ?_
      rw [k2, rs_yes h] at hs
      exact U3 _ _  _ _ _ β a w hs (Ste.sub hS ⟨rfl, rfl, rfl, rfl, rfl, rfl, rfl, rfl, rfl, rfl, rfl, rfl, trivial⟩)
  have U1 : ∀ v0 x' l' β a w, decShot l = k1 v0 l' → Ste T w1 (pinsOf β1 2 2 G) Try.f13.ntmps [gDfr β1] [(0, .d (.sl 1 x0 l0.length (rowD l0))), (2, .d (.p 0 [])), (3, .d (.p 1 [])), (4, .d (.p 2 [])), (6, .d (u64 n)), (56, .d (.p 0 [.fld 35 0, .fld 28 3])), (60, .d (i64 (i64w v0))), (61, .d (.p 2 [])), (63, .d (.p 2 [])), (65, .d (.p 2 [])), (67, .d (.p 2 [])), (69, .d (.p 2 []))] [] (gL (.os 3 i cap) fr di ships ro 0 x' l' ([.row 72 6 i (fun j => shotD (shots j)) cap])) β a w → AW Try.prog l13 Q [true, true, false, true, true, true, true, false, true, false, true, false, true, false, true, false, false, false, false, false, false, false, false] a w := by
    intro v0 x' l' β a w hs hS
    refine any2 2 7 (by kernel_rfl) rfl rfl ?_ ?_
    · refine rego K0 hS rfl trivial fun β a w hS => ?_
      refine wpList_nil ?_
      exact G1 _  _ _ β a w hs (Ste.sub hS ⟨rfl, rfl, rfl, rfl, rfl, rfl, rfl, rfl, rfl, rfl, rfl, rfl, trivial⟩)
    · refine smallR hS [0, 2, 3, 4, 6, 56, 60, 63, 65, 67, 69] rfl rfl rfl rfl rfl (fun h β w hS => hbad (by rw [hs, k1, rs_no h]) _ _ _ _ _ _ _ hS rfl rfl rfl) fun h x2 β a w hS => ?_
      refine wpList_nil ?_
      rw [k1, rs_yes h] at hs
      exact U2 _  _ _ _ β a w hs (Ste.sub hS ⟨rfl, rfl, rfl, rfl, rfl, rfl, rfl, rfl, rfl, rfl, rfl, rfl, trivial⟩)
  have U0 : ∀  x' l' β a w, decShot l = bindR (rd 1 l') (fun v0 l => k1 v0 l) → Ste T w1 (pinsOf β1 2 2 G) Try.f13.ntmps [gDfr β1] [(0, .d (.sl 1 x0 l0.length (rowD l0))), (2, .d (.p 0 [])), (3, .d (.p 1 [])), (4, .d (.p 2 [])), (6, .d (u64 n)), (56, .d (.p 0 [.fld 35 0, .fld 28 3])), (58, .d (.p 2 [])), (61, .d (.p 2 [])), (63, .d (.p 2 [])), (65, .d (.p 2 [])), (67, .d (.p 2 [])), (69, .d (.p 2 []))] [] (gL (.os 3 i cap) fr di ships ro 0 x' l' ([.row 72 6 i (fun j => shotD (shots j)) cap])) β a w → AW Try.prog l13 Q [true, true, false, true, false, false, true, false, true, false, true, false, true, false, true, false, false, false, false, false, false, false, false] a w := by
    intro  x' l' β a w hs hS
    refine any2 2 4 (by kernel_rfl) rfl rfl ?_ ?_
    · refine rego K0 hS rfl trivial fun β a w hS => ?_
      refine wpList_nil ?_
      exact G0  _ _ β a w hs (Ste.sub hS ⟨rfl, rfl, rfl, rfl, rfl, rfl, rfl, rfl, rfl, rfl, rfl, rfl, trivial⟩)
    · refine numR (b := 1) (by omega) hS [0, 2, 3, 4, 6, 56, 61, 63, 65, 67, 69] rfl rfl rfl rfl rfl (fun h β w hS => hbad (by rw [hs, rd_no h]) _ _ _ _ _ _ _ hS rfl rfl rfl) fun h x2 β a w hS => ?_
      refine wpList_nil ?_
      rw [rd_yes h] at hs
      refine anyv K0 hS 5 rfl rfl rfl rfl rfl rfl rfl rfl rfl rfl (by kernel_rfl) (fun c a w h => hQ c a w _ _ (by decide) (by decide) h) fun a hS => ?_
      exact U1  _ _ _ β a w hs (Ste.sub hS ⟨rfl, rfl, rfl, rfl, rfl, rfl, rfl, rfl, rfl, rfl, rfl, rfl, trivial⟩)
  refine regAp K0 hS fun w hS => ?_
  refine anym hS 3 rfl rfl rfl rfl rfl rfl rfl (by kernel_rfl) (fun c a w h => hQ c a w _ _ (by decide) (by decide) h) fun a hS => ?_
  refine anym hS 6 rfl rfl rfl rfl rfl rfl rfl (by kernel_rfl) (fun c a w h => hQ c a w _ _ (by decide) (by decide) h) fun a hS => ?_
  refine anym hS 8 rfl rfl rfl rfl rfl rfl rfl (by kernel_rfl) (fun c a w h => hQ c a w _ _ (by decide) (by decide) h) fun a hS => ?_
  refine anym hS 10 rfl rfl rfl rfl rfl rfl rfl (by kernel_rfl) (fun c a w h => hQ c a w _ _ (by decide) (by decide) h) fun a hS => ?_
  refine anym hS 12 rfl rfl rfl rfl rfl rfl rfl (by kernel_rfl) (fun c a w h => hQ c a w _ _ (by decide) (by decide) h) fun a hS => ?_
  refine anym hS 14 rfl rfl rfl rfl rfl rfl rfl (by kernel_rfl) (fun c a w h => hQ c a w _ _ (by decide) (by decide) h) fun a hS => ?_
  refine anyf K0 hS 0 rfl rfl rfl rfl rfl rfl rfl rfl rfl (by kernel_rfl) (fun c a w h => hQ c a w _ _ (by decide) (by decide) h) fun a hS => ?_
  refine anyf K0 hS 1 rfl rfl rfl rfl rfl rfl rfl rfl rfl (by kernel_rfl) (fun c a w h => hQ c a w _ _ (by decide) (by decide) h) fun a hS => ?_
  exact U0 _ _ β a w (decShot_eq l) (Ste.sub hS ⟨rfl, rfl, rfl, rfl, rfl, rfl, rfl, rfl, rfl, rfl, rfl, rfl, trivial⟩)

end Go.CE

/- Contract: image.Get. -/
namespace Go.CE
open Go.RowKit Go.Proofs

theorem e_equal : Enters Try.prog 34 := enters_of Try.func34 rfl (by kernel_rfl)

set_option maxHeartbeats 1000000 in
theorem c_get (x : Value) (l : List Int) (hby : Byt l) : Fun Try.prog T 13 [.sl 1 x l.length (rowD l)] fun y => ∃ x, y = .tup [stateD x (getB l).1, i64 (getB l).2] := by
  refine Con.introD Try.func13 rfl rfl rfl rfl fun G w0 β0 β a w hS => ?_
  refine regS K0 [0, 2, 3] hS rfl rfl trivial fun β a w hS => ?_
  refine wp_seq (regp K0 hS rfl trivial fun β1 a w1 hS => ?_)
  refine dfr hS rfl rfl rfl rfl fun a hS => ?_
  refine wpList_nil ?_
  have hS := Ste.sub (e := [(0, .d (.sl 1 x l.length (rowD l))), (2, .d (.p 0 [])), (3, .d (.p 1 []))]) hS ⟨rfl, rfl, rfl, trivial⟩
  have hK : ∀ w', Keep w1 (pinsOf β1 2 2 G) w' → Keep w0 (pinsOf β0 0 0 G) w' := fun w' hk => Keep.rebase hS hk (Nat.le_refl 2)
  have hS := hS.rebase 2 (Nat.le_refl 2) (by rw [pinsOf_len]; omega)
  refine regS K0 [0, 2, 3, 4] hS rfl rfl trivial fun β a w hS => ?_
  have hS : Ste T w1 (pinsOf β1 2 2 G) Try.f13.ntmps [gDfr β1] [(0, .d (.sl 1 x l.length (rowD l))), (2, .d (.p 0 [])), (3, .d (.p 1 [])), (4, .d (.p 2 []))] [] (gL nilSh 0 0 (fun _ => ship0) ⟨0, fun _ => ⟨0, 0⟩⟩ 0 x l []) β a w := Ste.sub hS ⟨rfl, rfl, rfl, rfl, trivial⟩
  have nz : Idx (· < 2) nilSh ∧ ∀ r, nilSh.ren r = nilSh := ⟨trivial, fun _ => rfl⟩
  have hd := decode.eq_1 l
  -- frame, dice
  refine wp_seq (regp K0 hS rfl trivial fun β a w hS => ?_)
  refine numR (b := 4) (by omega) hS [0, 2, 3, 4] rfl rfl rfl rfl rfl (fun h β w hS => gDies (getB_none (by rw [decode, rd_no h])) hK hS nz rfl rfl rfl) fun h x1 β a w hS => ?_
  rw [rd_yes h] at hd
  refine rego K0 hS rfl trivial fun β a w hS => ?_
  refine numR (b := 8) (by omega) hS [0, 2, 3, 4, 16] rfl rfl rfl rfl rfl (fun h' β w hS => gDies (getB_none (by rw [decode, rd_yes h, rd_no h'])) hK hS nz rfl rfl rfl) fun h' x2 β a w hS => ?_
  rw [rd_yes h'] at hd
  generalize hl2 : (l.drop 4).drop 8 = l2 at hd hS
  refine rege K0 [0, 2, 3, 4] hS rfl rfl trivial fun β a w hS => ?_
  have hS : Ste T w1 (pinsOf β1 2 2 G) Try.f13.ntmps [gDfr β1] [(0, .d (.sl 1 x l.length (rowD l))), (2, .d (.p 0 [])), (3, .d (.p 1 [])), (4, .d (.p 2 []))] [] (gL nilSh (i64w (rdN l 4)) (rdN (l.drop 4) 8) (fun _ => ship0) ⟨0, fun _ => ⟨0, 0⟩⟩ 0 x2 l2 []) β a w := Ste.sub hS ⟨rfl, rfl, rfl, rfl, trivial⟩
  generalize i64w (rdN l 4) = fr at hd hS
  generalize rdN (l.drop 4) 8 = di at hd hS
  -- ships
  refine wp_seq ?_
  refine regS K0 [0, 2, 3, 4, 23] hS rfl rfl trivial fun β a w hS => ?_
  refine wp_block ?_
  refine lop (fun s : Nat × (Nat → Ship) × List Int × Value => 8 - s.1) (fun s => s.1 ≤ 8 ∧ decN decShip ship0 s.1 l2 = some (s.2.1, s.2.2.1)) (fun s => [(0, .d (.sl 1 x l.length (rowD l))), (2, .d (.p 0 [])), (3, .d (.p 1 [])), (4, .d (.p 2 [])), (23, .d (i64 s.1))])
    (fun s => gL nilSh fr di s.2.1 ⟨0, fun _ => ⟨0, 0⟩⟩ 0 s.2.2.2 s.2.2.1 []) (0, fun _ => ship0, l2, x2) ⟨Nat.zero_le _, rfl⟩ (Ste.sub hS ⟨rfl, rfl, rfl, rfl, rfl, trivial⟩) ?_
  rintro ⟨i, f, l3, x3⟩ ⟨hi, hdec⟩ β a w hS
  simp only at hi hdec hS
  refine regS K0 [0, 2, 3, 4, 23, 24] hS rfl rfl trivial fun β a w hS => ?_
  refine wp_seq ?_
  refine cnd hS rfl (fun hlt => wp_skip ?_) (fun hge => wp_exit ?_)
  · have hlt : i < 8 := by have : (i : Int) < 8 := by simpa using hlt
                           omega
    have hbad : decShip l3 = none → getB l = (zeroS, 2) := fun hn => getB_none (by rw [hd, decN_bad hlt hdec hn]; rfl)
    have hs := decShip.eq_1 l3
    refine wp_seq ?_
    refine wp_block ?_
    refine regS K0 [0, 2, 3, 4, 5, 23] hS rfl rfl trivial fun β a w hS => ?_
    refine wp_seq (regp K0 hS rfl trivial fun β a w hS => ?_)
    refine numR (b := 1) (by omega) hS [0, 2, 3, 4, 5, 23] rfl rfl rfl rfl rfl (fun h β w hS => gDies (hbad (by rw [hs, rd_no h])) hK hS nz rfl rfl rfl) fun h x4 β a w hS => ?_
    rw [rd_yes h] at hs
    refine rege K0 [0, 2, 3, 4, 5, 23, 28] hS rfl rfl trivial fun β a w hS => ?_
    refine cnd hS rfl (fun hc => ?_) (fun hc => wp_skip ?_)
    · have hc : (rdN l3 1 == 1) = true := hc
      rw [if_pos hc] at hs
      generalize l3.drop 1 = l4 at hs hS
      refine regp K0 hS rfl trivial fun β a w hS => ?_
      refine smallR hS [0, 2, 3, 4, 23, 29] rfl rfl rfl rfl rfl (fun h β w hS => gDies (hbad (by rw [hs, rs_no h])) hK hS nz rfl rfl rfl) fun h x5 β a w hS => ?_
      rw [rs_yes h] at hs
      generalize rdS l4 = v1 at hs hS
      generalize l4.drop 4 = l5 at hs hS
      refine rego K0 hS rfl trivial fun β a w hS => ?_
      refine smallR hS [0, 2, 3, 4, 23, 29, 31] rfl rfl rfl rfl rfl (fun h β w hS => gDies (hbad (by rw [hs, rs_no h])) hK hS nz rfl rfl rfl) fun h x6 β a w hS => ?_
      rw [rs_yes h] at hs
      generalize rdS l5 = v2 at hs hS
      generalize l5.drop 4 = l6 at hs hS
      refine rego K0 hS rfl trivial fun β a w hS => ?_
      refine smallR hS [0, 2, 3, 4, 23, 29, 31, 33] rfl rfl rfl rfl rfl (fun h β w hS => gDies (hbad (by rw [hs, rs_no h])) hK hS nz rfl rfl rfl) fun h x7 β a w hS => ?_
      rw [rs_yes h] at hs
      generalize rdS l6 = v3 at hs hS
      generalize l6.drop 4 = l7 at hs hS
      refine rego K0 hS rfl trivial fun β a w hS => ?_
      refine smallR hS [0, 2, 3, 4, 23, 29, 31, 33, 35] rfl rfl rfl rfl rfl (fun h β w hS => gDies (hbad (by rw [hs, rs_no h])) hK hS nz rfl rfl rfl) fun h x8 β a w hS => ?_
      rw [rs_yes h] at hs
      generalize rdS l7 = v4 at hs hS
      generalize l7.drop 4 = l8 at hs hS
      refine rego K0 hS rfl trivial fun β a w hS => ?_
      refine numR (b := 1) (by omega) hS [0, 2, 3, 4, 23, 29, 31, 33, 35, 37] rfl rfl rfl rfl rfl (fun h β w hS => gDies (hbad (by rw [hs, rd_no h])) hK hS nz rfl rfl rfl) fun h x9 β a w hS => ?_
      rw [rd_yes h] at hs
      generalize rdN l8 1 = v5 at hs hS
      generalize l8.drop 1 = l9 at hs hS
      refine rego K0 hS rfl trivial fun β a w hS => ?_
      refine numR (b := 4) (by omega) hS [0, 2, 3, 4, 23, 29, 31, 33, 35, 37, 40] rfl rfl rfl rfl rfl (fun h β w hS => gDies (hbad (by rw [hs, rd_no h])) hK hS nz rfl rfl rfl) fun h x10 β a w hS => ?_
      rw [rd_yes h] at hs
      generalize rdN l9 4 = v6 at hs hS
      generalize l9.drop 4 = l10 at hs hS
      refine rege K0 [0, 2, 3, 4, 23] hS rfl rfl ⟨⟨by omega, by omega⟩, trivial⟩ fun β a w hS => ?_
      refine reg K0 [0, 2, 3, 4, 23] hS rfl rfl trivial fun β a w hS => ?_
      refine ⟨(i + 1, upd f i ⟨true, v1, v2, v3, v4, i64w v5, i64w v6⟩, l10, x10), β, ⟨hlt, decN_step hdec hs⟩, Nat.sub_lt_sub_left hlt (Nat.lt_succ_self i), ?_⟩
      show Ste T w1 _ _ _ _ _ (gL nilSh fr di (upd f i _) ⟨0, fun _ => ⟨0, 0⟩⟩ 0 x10 l10 []) β a w
      rw [gL_ship]
      exact Ste.sub hS ⟨rfl, rfl, rfl, rfl, up8 hlt, trivial⟩
    · have hc : (rdN l3 1 == 1) = false := hc
      rw [if_neg (by rw [hc]; simp)] at hs
      refine reg K0 [0, 2, 3, 4, 23] hS rfl rfl trivial fun β a w hS => ?_
      have h2 := decN_step hdec hs
      rw [upd_z (decN_z hdec i (Nat.le_refl i))] at h2
      exact ⟨(i + 1, f, l3.drop 1, x4), β, ⟨hlt, h2⟩, Nat.sub_lt_sub_left hlt (Nat.lt_succ_self i), Ste.sub hS ⟨rfl, rfl, rfl, rfl, up8 hlt, trivial⟩⟩
  · have hge : i = 8 := by have : ¬ ((i : Int) < 8) := by simpa using hge
                           omega
    subst hge
    rw [hdec] at hd
    have hd : decode l = bindR (rd 1 l3) _ := hd
    -- shots
    have hs3 : Sub l3 l := fun v hv => by
      have h1 : Sub l3 l2 := decN_sub (fun l' h => decShip_sub h) 8 _ _ hdec
      have := h1 v hv
      rw [← hl2] at this
      exact List.mem_of_mem_drop (List.mem_of_mem_drop this)
    refine wp_seq ?_
    refine wp_seq (regp K0 hS rfl trivial fun β a w hS => ?_)
    refine numR (b := 1) (by omega) hS [0, 2, 3, 4] rfl rfl rfl rfl rfl (fun h β w hS => gDies (getB_none (by rw [hd, rd_no h])) hK hS nz rfl rfl rfl) fun h x4 β a w hS => ?_
    rw [rd_yes h] at hd
    have hn1 := rd1_byte (l := l3) fun v hv => hby v (hs3 v hv)
    have hn2 := Byt.get (l := l3) (fun v hv => hby v (hs3 v hv)) 0
    rw [← hn1] at hn2
    clear hn1
    refine rege K0 [0, 2, 3, 4, 6] hS rfl rfl trivial fun β a w hS => ?_
    generalize hn0 : rdN l3 1 = n0 at hd hS hn2
    generalize hl4 : l3.drop 1 = l4 at hd hS
    refine wp_block ?_
    refine lop (fun s : Nat × (Nat → Shot) × List Int × Value × Nat => n0.toNat - s.1) (fun s => s.1 ≤ n0.toNat ∧ decN decShot shot0 s.1 l4 = some (s.2.1, s.2.2.1)) (fun s => [(0, .d (.sl 1 x l.length (rowD l))), (2, .d (.p 0 [])), (3, .d (.p 1 [])), (4, .d (.p 2 [])), (6, .d (u64 (n0 - s.1)))])
      (fun s => shL fr di f ⟨0, fun _ => ⟨0, 0⟩⟩ s.1 s.2.1 s.2.2.2.1 s.2.2.1 s.2.2.2.2) (0, fun _ => shot0, l4, x4, 0) ⟨Nat.zero_le _, rfl⟩ (Ste.sub hS ⟨rfl, rfl, rfl, rfl, by rw [show n0 - ((0 : Nat) : Int) = n0 by omega]; rfl, trivial⟩) ?_
    rintro ⟨i, g, l5, x5, cap⟩ ⟨hi, hdec⟩ β a w hS
    simp only at hi hdec hS
    refine wp_seq ?_
    refine regS K0 [0, 2, 3, 4, 6, 52] hS rfl rfl trivial fun β a w hS => ?_
    refine cnd hS rfl (fun hlt => wp_skip ?_) (fun hge => wp_exit ?_)
    · have hlt : i < n0.toNat := by have : n0 - (i : Int) > 0 := by simpa using hlt
                                    omega
      have hbad : decShot l5 = none → getB l = (zeroS, 2) := fun hn => getB_none (by rw [hd, decN_bad hlt hdec hn]; rfl)
      refine wp_seq ?_
      refine wp_block ?_
      cases i with
      | zero =>
        have hS : Ste T w1 (pinsOf β1 2 2 G) Try.f13.ntmps [gDfr β1] [(0, .d (.sl 1 x l.length (rowD l))), (2, .d (.p 0 [])), (3, .d (.p 1 [])), (4, .d (.p 2 [])), (6, .d (u64 (n0 - (0 : Nat))))] [] (gL nilSh fr di f ⟨0, fun _ => ⟨0, 0⟩⟩ 0 x5 l5 []) β a w := Ste.sub hS ⟨rfl, rfl, rfl, rfl, rfl, trivial⟩
        show (Code.region _ l13.toArray true).wp _ _ _ _
        refine chain13a hS (fun hn env env2 xx ll β a w hS he h2 h3 => gDies (hbad hn) hK hS nz he h2 h3) (fun c a w d v h2 h3 h => gPut h2 h3 h) fun v0 v1 v2 v3 v4 v5 x6 l6 β a w hs hS => ?_
        refine any1 19 (by kernel_rfl) rfl ?_
        refine appn K0 hS [0, 2, 3, 4, 6] 1 (fun j => shotD (upd g 0 ⟨i64w v0, v1, v2, v3, v4, i64w v5⟩ j)) rfl rfl rfl rfl rfl rfl rfl rfl rfl rfl (.inr ⟨3, 1, 1, _, 1, rfl, ⟨_, rfl⟩, Nat.le_refl _, fun j hj => ?_⟩) Nat.zero_lt_one (by decide) (by decide) fun cap' β a w hS => ?_
        · have : j = 0 := by omega
          subst this
          rfl
        refine wpList_nil ?_
        refine anye K0 [0, 2, 3, 4, 6] [20, 21, 22] (by kernel_rfl) hS rfl (by kernel_rfl) rfl trivial fun β a w hS => ?_
        refine reg K0 [0, 2, 3, 4, 6] hS rfl rfl trivial fun β a w hS => ?_
        have hS := hS.reidx (L' := shL fr di f ⟨0, fun _ => ⟨0, 0⟩⟩ 1 (upd g 0 ⟨i64w v0, v1, v2, v3, v4, i64w v5⟩) x6 l6 cap') (env' := [(0, .d (.sl 1 x l.length (rowD l))), (2, .d (.p 0 [])), (3, .d (.p 1 [])), (4, .d (.p 2 [])), (6, .d (.v (.int .u64 (IntKind.u64.wrap (n0 - (0 : Nat) - 1)))))]) [0, 1, 2, 4] (by decide)
          ⟨⟨_, rfl, rfl, rfl⟩, ⟨⟨trivial, trivial, fun _ _ => Cl.idx _ _ (ship_cl _), Nat.lt_succ_self _, trivial⟩, Cl.idx _ _ (roster_cl _), trivial⟩, rfl, ⟨_, rfl, rfl, rfl⟩, trivial, rfl, ⟨_, rfl, rfl, rfl⟩, ⟨trivial, trivial⟩, rfl, ⟨_, rfl, rfl, rfl, rfl, rfl, fun _ _ => rfl⟩, fun _ _ => Cl.idx _ _ (shot_cl _), rfl, trivial⟩
          ⟨rfl, trivial, rfl, Nat.zero_lt_succ _, rfl, Nat.succ_lt_succ (Nat.zero_lt_succ _), rfl, Nat.succ_lt_succ (Nat.succ_lt_succ (Nat.zero_lt_succ _)), rfl, trivial, trivial⟩ (fun k hk => by rw [pinsOf_len] at hk; match k, hk with | 0, _ => rfl | 1, _ => rfl) (fun j k hj hk => by
            rw [pinsOf_len] at hj ⊢
            match j, hj, hk with
            | 2, _, hk => cases hk; exact Nat.le_refl _
            | 3, _, hk => cases hk; decide)
        exact ⟨(1, upd g 0 ⟨i64w v0, v1, v2, v3, v4, i64w v5⟩, l6, x6, cap'), _, ⟨hlt, decN_step hdec hs⟩, Nat.sub_lt_sub_left hlt (Nat.lt_succ_self 0), Ste.sub hS ⟨rfl, rfl, rfl, rfl, u64_dec (i := (0 : Nat)) (by omega), trivial⟩⟩
      | succ i =>
        have hS : Ste T w1 (pinsOf β1 2 2 G) Try.f13.ntmps [gDfr β1] [(0, .d (.sl 1 x l.length (rowD l))), (2, .d (.p 0 [])), (3, .d (.p 1 [])), (4, .d (.p 2 [])), (6, .d (u64 (n0 - (i + 1 : Nat))))] [] (gL (.os 3 (i + 1) cap) fr di f ⟨0, fun _ => ⟨0, 0⟩⟩ 0 x5 l5 [.row 72 6 (i + 1) (fun j => shotD (g j)) cap]) β a w := Ste.sub hS ⟨rfl, rfl, rfl, rfl, rfl, trivial⟩
        show (Code.region _ l13.toArray true).wp _ _ _ _
        refine chain13b hS (fun hn env env2 xx ll β a w hS he h2 h3 => ?_) (fun c a w d v h2 h3 h => gPut h2 h3 h) fun v0 v1 v2 v3 v4 v5 x6 l6 β a w hs hS => ?_
        · have hS := hS.forget (k := 0) (d' := stD (.v (.slice (some ⟨β 3, 0, none⟩) (i + 1) cap)) fr di f ⟨0, fun _ => ⟨0, 0⟩⟩) rfl rfl rfl (fun h => ⟨h.1, ⟨h.2.1.1, h.2.1.2.1, h.2.1.2.2.1, h.2.1.2.2.2.1, rfl, trivial⟩, h.2.2⟩)
          exact gDies (hbad hn) hK hS ⟨trivial, fun _ => rfl⟩ he h2 h3
        · refine any1 19 (by kernel_rfl) rfl ?_
          have hS := hS.forget (k := 0) (d' := stD (.v (.slice (some ⟨β 3, 0, none⟩) (i + 1) cap)) fr di f ⟨0, fun _ => ⟨0, 0⟩⟩) rfl rfl rfl (fun h => ⟨h.1, ⟨h.2.1.1, h.2.1.2.1, h.2.1.2.2.1, h.2.1.2.2.2.1, rfl, trivial⟩, h.2.2⟩)
          have hi2 : i + 1 < 256 := by omega
          refine appo K0 hS [0, 2, 3, 4, 6] 1 (listF [shotD ⟨i64w v0, v1, v2, v3, v4, i64w v5⟩]) (fun j => shotD (upd g (i + 1) ⟨i64w v0, v1, v2, v3, v4, i64w v5⟩ j)) rfl rfl rfl rfl rfl rfl rfl rfl rfl rfl rfl
            (by rw [pinsOf_len]; decide) ?_ ?_ (fun j _ => shot_cl _) (.inr ⟨4, 1, 1, _, 1, rfl, ⟨_, rfl⟩, Nat.le_refl _, fun j hj => rfl⟩) (fun j hj => ?_) (fun j hj => ?_) (fun j hj => ?_) (by simp only [maxLen]; omega) ?_ fun cap' β a w hS => ?_
          · exact ⟨trivial, (by show (2 : Nat) ≠ 3; decide), (by show (1 : Nat) ≠ 3; decide), (by show (0 : Nat) ≠ 3; decide), trivial, trivial⟩
          · exact ⟨.inr ⟨⟨trivial, trivial, fun _ _ => Cl.idx _ _ (ship_cl _), trivial, trivial⟩, Cl.idx _ _ (roster_cl _), trivial⟩, .inr trivial, .inr ⟨trivial, trivial⟩, .inl rfl, .inr fun j hj => (by
              have : j = 0 := by omega
              subst this
              exact Cl.idx _ _ (shot_cl _)), trivial⟩
          · have : j = 0 := by omega
            subst this
            exact shot_cl _
          · have : j ≠ i + 1 := by omega
            simp only [upd, this, if_false]
          · have : j = 0 := by omega
            subst this
            simp only [upd, Nat.add_zero, if_true]
            rfl
          · exact Nat.le_trans (Nat.mul_le_mul_right _ (show i + 1 + 1 ≤ 256 by omega)) (by decide)
          refine wpList_nil ?_
          refine anye K0 [0, 2, 3, 4, 6] [20, 21, 22] (by kernel_rfl) hS rfl (by kernel_rfl) rfl trivial fun β a w hS => ?_
          refine reg K0 [0, 2, 3, 4, 6] hS rfl rfl trivial fun β a w hS => ?_
          have hS := hS.drop (L1 := [_, _, _, _]) (J := [_]) rfl (by rw [pinsOf_len]; show (2 : Nat) ≤ 4; decide) ⟨trivial, (by show (2 : Nat) < 4; decide), (by show (1 : Nat) < 4; decide), (by show (0 : Nat) < 4; decide), trivial, trivial⟩ ⟨⟨⟨trivial, trivial, fun _ _ => Cl.idx _ _ (ship_cl _), Nat.lt_succ_self 3, trivial⟩, Cl.idx _ _ (roster_cl _), trivial⟩, trivial, ⟨trivial, trivial⟩, fun _ _ => Cl.idx _ _ (shot_cl _), trivial⟩
          exact ⟨(i + 2, upd g (i + 1) ⟨i64w v0, v1, v2, v3, v4, i64w v5⟩, l6, x6, cap'), _, ⟨hlt, decN_step hdec hs⟩, Nat.sub_lt_sub_left hlt (Nat.lt_succ_self _), Ste.sub hS ⟨rfl, rfl, rfl, rfl, u64_dec (i := (i + 1 : Nat)) (by omega), trivial⟩⟩
    · have hge : i = n0.toNat := by have : ¬ (n0 - (i : Int) > 0) := by simpa using hge
                                    omega
      rw [← hge, hdec] at hd
      have hd : decode l = bindR (rd 4 l5) _ := hd
      obtain ⟨xh, hS⟩ : ∃ xh, Ste T w1 (pinsOf β1 2 2 G) Try.f13.ntmps [gDfr β1] [(0, .d (.sl 1 x l.length (rowD l))), (2, .d (.p 0 [])), (3, .d (.p 1 [])), (4, .d (.p 2 []))] [] (gL (.sl 6 xh i fun j => shotD (g j)) fr di f ⟨0, fun _ => ⟨0, 0⟩⟩ 0 x5 l5 []) β a w := by
        cases i with
        | zero =>
          simp only [decN, Option.some.injEq, Prod.mk.injEq] at hdec
          obtain ⟨rfl, rfl⟩ := hdec
          exact ⟨_, Ste.sub hS ⟨rfl, rfl, rfl, rfl, trivial⟩⟩
        | succ i =>
          exact ⟨_, hS.freeze (L1 := [_, _, _]) (J := []) rfl (by rw [pinsOf_len]; show (2 : Nat) ≤ 3; decide) (fun _ _ => shot_cl _)
            ⟨rfl, ⟨rfl, ⟨rfl, rfl, rfl, ⟨rfl, rfl, fun _ _ => Frz.cl _ (ship_cl _)⟩, .inl ⟨_, rfl, rfl, Nat.le_refl _, rfl, rfl⟩, trivial⟩, Frz.cl _ (roster_cl _), trivial⟩, rfl, rfl, rfl, ⟨rfl, rfl, trivial⟩, trivial⟩
            ⟨⟨_, rfl, rfl⟩, ⟨_, rfl, (by show (0 : Nat) < 3; decide), rfl⟩, ⟨_, rfl, (by show (1 : Nat) < 3; decide), rfl⟩, ⟨_, rfl, (by show (2 : Nat) < 3; decide), rfl⟩, trivial⟩⟩
      clear hge hdec hi
      have nz : Idx (· < 2) (.sl 6 xh i fun j => shotD (g j)) ∧ ∀ r, (D.sl 6 xh i fun j => shotD (g j)).ren r = .sl 6 xh i fun j => shotD (g j) := ⟨trivial, fun _ => rfl⟩
      refine wp_seq (regp K0 hS rfl trivial fun β a w hS => ?_)
      refine numR (b := 4) (by omega) hS [0, 2, 3, 4] rfl rfl rfl rfl rfl (fun h β w hS => gDies (getB_none (by rw [hd, rd_no h])) hK hS nz rfl rfl rfl) fun h x6 β a w hS => ?_
      rw [rd_yes h] at hd
      refine rege K0 [0, 2, 3, 4] hS rfl rfl trivial fun β a w hS => ?_
      have hS : Ste T w1 (pinsOf β1 2 2 G) Try.f13.ntmps [gDfr β1] [(0, .d (.sl 1 x l.length (rowD l))), (2, .d (.p 0 [])), (3, .d (.p 1 [])), (4, .d (.p 2 []))] [] (gL (.sl 6 xh i fun j => shotD (g j)) fr di f ⟨i64w (rdN l5 4), fun _ => ⟨0, 0⟩⟩ 0 x6 (l5.drop 4) []) β a w := Ste.sub hS ⟨rfl, rfl, rfl, rfl, trivial⟩
      generalize i64w (rdN l5 4) = ve at hd hS
      generalize l5.drop 4 = l6 at hd hS
      -- seats
      refine wp_seq ?_
      refine regS K0 [0, 2, 3, 4, 82] hS rfl rfl trivial fun β a w hS => ?_
      refine wp_block ?_
      refine lop (fun s : Nat × (Nat → Seat) × List Int × Value => 8 - s.1) (fun s => s.1 ≤ 8 ∧ decN decSeat ⟨0, 0⟩ s.1 l6 = some (s.2.1, s.2.2.1)) (fun s => [(0, .d (.sl 1 x l.length (rowD l))), (2, .d (.p 0 [])), (3, .d (.p 1 [])), (4, .d (.p 2 [])), (82, .d (i64 s.1))])
        (fun s => gL (.sl 6 xh i fun j => shotD (g j)) fr di f ⟨ve, s.2.1⟩ 0 s.2.2.2 s.2.2.1 []) (0, fun _ => ⟨0, 0⟩, l6, x6) ⟨Nat.zero_le _, rfl⟩ (Ste.sub hS ⟨rfl, rfl, rfl, rfl, rfl, trivial⟩) ?_
      rintro ⟨k, q, l7, x7⟩ ⟨hi, hdec⟩ β a w hS
      simp only at hi hdec hS
      refine regS K0 [0, 2, 3, 4, 82, 83] hS rfl rfl trivial fun β a w hS => ?_
      refine wp_seq ?_
      refine cnd hS rfl (fun hlt => wp_skip ?_) (fun hge => wp_exit ?_)
      · have hlt : k < 8 := by have : (k : Int) < 8 := by simpa using hlt
                               omega
        have hbad : decSeat l7 = none → getB l = (zeroS, 2) := fun hn => getB_none (by rw [hd, decN_bad hlt hdec hn]; rfl)
        have hs := decSeat.eq_1 l7
        refine wp_seq ?_
        refine wp_block ?_
        refine regS K0 [0, 2, 3, 4, 7, 82] hS rfl rfl trivial fun β a w hS => ?_
        refine regp K0 hS rfl trivial fun β a w hS => ?_
        refine numR (b := 1) (by omega) hS [0, 2, 3, 4, 82, 85] rfl rfl rfl rfl rfl (fun h β w hS => gDies (hbad (by rw [hs, rd_no h])) hK hS nz rfl rfl rfl) fun h x8 β a w hS => ?_
        rw [rd_yes h] at hs
        refine rego K0 hS rfl trivial fun β a w hS => ?_
        refine numR (b := 2) (by omega) hS [0, 2, 3, 4, 82, 85, 89] rfl rfl rfl rfl rfl (fun h β w hS => gDies (hbad (by rw [hs, rd_no h])) hK hS nz rfl rfl rfl) fun h x9 β a w hS => ?_
        rw [rd_yes h] at hs
        refine rege K0 [0, 2, 3, 4, 82] hS rfl rfl ⟨⟨by omega, by omega⟩, trivial⟩ fun β a w hS => ?_
        refine reg K0 [0, 2, 3, 4, 82] hS rfl rfl trivial fun β a w hS => ?_
        refine ⟨(k + 1, upd q k _, _, x9), β, ⟨hlt, decN_step hdec hs⟩, Nat.sub_lt_sub_left hlt (Nat.lt_succ_self k), ?_⟩
        show Ste T w1 _ _ _ _ _ (gL _ fr di f ⟨ve, upd q k _⟩ 0 x9 _ []) β a w
        rw [gL_seat]
        exact Ste.sub hS ⟨rfl, rfl, rfl, rfl, up8 hlt, trivial⟩
      · have hge : k = 8 := by have : ¬ ((k : Int) < 8) := by simpa using hge
                               omega
        subst hge
        rw [hdec] at hd
        have hd : decode l = some ⟨⟨fr, di, f, i, g⟩, ⟨ve, q⟩⟩ := hd
        generalize hst : (⟨⟨fr, di, f, i, g⟩, ⟨ve, q⟩⟩ : State) = st at hd
        have hS : Ste T w1 (pinsOf β1 2 2 G) Try.f13.ntmps [gDfr β1] [(0, .d (.sl 1 x l.length (rowD l))), (2, .d (.p 0 [])), (3, .d (.p 1 []))] [] (.var 35 (stateD xh st) :: .var 3 (i64 0) :: [.var 80 (.st 80 [.sl 1 x7 l7.length (rowD l7)])]) β a w := by
          rw [← hst]; exact Ste.sub hS ⟨rfl, rfl, rfl, trivial⟩
        have hz : ∀ {s : State}, decode l = some s → (mayStateB s && eqB (putB s) l) = false → getB l = (zeroS, 2) := fun h1 h2 => by simp only [getB, h1, h2]; rfl
        have nz : ∀ (x : Value) (s : State), Idx (· < 2) (.sl 6 x s.game.n fun j => shotD (s.game.shots j)) ∧ ∀ r, (D.sl 6 x s.game.n fun j => shotD (s.game.shots j)).ren r = .sl 6 x s.game.n fun j => shotD (s.game.shots j) := fun _ _ => ⟨trivial, fun _ => rfl⟩
        clear hst
        refine wp_seq ?_
        refine wp_seq (regp K0 hS rfl trivial fun β a w hS => ?_)
        refine call0 e_put (c_put xh st) hS [0, 2, 3] rfl rfl rfl rfl rfl ⟨state_cl xh st, trivial⟩ rfl ?_
        intro y hy β a w hS
        cases hm : mayStateB st with
        | false =>
          simp only [hm, Bool.false_eq_true, if_false] at hy
          subst hy
          refine rege K0 [0, 2, 3, 8, 9] hS rfl rfl trivial fun β a w hS => ?_
          refine wp_seq (regp K0 hS rfl trivial fun β a w hS => ?_)
          refine skips (tc := 105) (b := true) rfl _ [] hS (by simp) rfl fun a hS => ?_
          refine pick1 hS rfl rfl (b := true) rfl ?_
          refine rege K0 [2, 3, 110] hS rfl rfl trivial fun β a w hS => ?_
          refine cnd hS rfl (fun h => ?_) (fun h => absurd h (by decide))
          refine dieE (e2 := [(2, .d (.p 0 [])), (3, .d (.p 1 []))]) rfl hS (t := 111) (u := 112) ⟨rfl, rfl, trivial⟩ rfl rfl (by decide) (by decide) ⟨rfl, rfl, rfl⟩ ⟨rfl, rfl, rfl⟩ ⟨rfl, rfl⟩ fun a hS => ?_
          exact gDies (hz hd (by rw [hm]; rfl)) hK hS (nz xh st) rfl rfl rfl
        | true =>
          simp only [hm, if_true] at hy
          obtain ⟨x', rfl⟩ := hy
          refine rege K0 [0, 2, 3, 8, 9] hS rfl rfl trivial fun β a w hS => ?_
          refine wp_seq (regp K0 hS rfl trivial fun β a w hS => ?_)
          have hS := hS.knw (tc := 105) (b := false) [0, 2, 3, 105, 106, 107] rfl rfl
          refine want1 hS rfl rfl (tc := 105) rfl ?_
          refine call0 e_equal (c_equal x' x (putB st) l) hS [2, 3, 105] rfl rfl rfl rfl rfl ⟨fun _ _ => trivial, fun _ _ => trivial, trivial⟩ rfl ?_
          rintro y rfl β a w hS
          refine want1 hS rfl rfl (tc := 105) rfl ?_
          refine rego K0 hS rfl trivial fun β a w hS => ?_
          refine pick1 hS rfl rfl (b := false) rfl ?_
          refine rege K0 [2, 3, 110] hS rfl rfl trivial fun β a w hS => ?_
          refine cnd hS rfl (fun h => ?_) (fun h => wp_skip ?_)
          · have h : eqB (putB st) l = false := by simpa using h
            refine dieE (e2 := [(2, .d (.p 0 [])), (3, .d (.p 1 []))]) rfl hS (t := 111) (u := 112) ⟨rfl, rfl, trivial⟩ rfl rfl (by decide) (by decide) ⟨rfl, rfl, rfl⟩ ⟨rfl, rfl, rfl⟩ ⟨rfl, rfl⟩ fun a hS => ?_
            exact gDies (hz hd (by rw [hm, h]; rfl)) hK hS (nz xh st) rfl rfl rfl
          · have h : eqB (putB st) l = true := by simpa using h
            refine regS K0 [2, 3] hS rfl rfl trivial fun β a w hS => ?_
            refine wp_ret (gReturns (x := xh) (s := st) (by simp only [getB, hd, hm, h]; rfl) hK (Ste.sub (e := [(2, .d (.p 0 [])), (3, .d (.p 1 []))]) hS ⟨rfl, rfl, trivial⟩) rfl rfl rfl)

end Go.CE

/- Contracts: calls whose answer their arguments tell; what layer 7 tells of a few. -/
namespace Go.CE
open Go.RowKit Go.Proofs

variable {w0 w : World} {pins : Pins} {N : Nat} {env : Env} {gs : List Nat} {L : List Ent} {β : Nat → Nat} {a : Act} {ds : List Deferred}

/-- A slice's argument, its elements told in other words. -/
theorem Ok.slx {T : Tab} {w : World} {A : Dom} {sz n : Nat} {x : Value} {g g' : Nat → D} (h : ∀ i, i < n → g i = g' i) (ho : Ok T w A (.sl sz x n g)) : Ok T w A (.sl sz x n g') := by
  obtain ⟨⟨a, cap, h1, h2, h3, h4⟩, h5⟩ := ho
  refine ⟨⟨a, cap, h1, h2, h3, ?_⟩, fun i hi => by rw [← h i hi]; exact h5 i hi⟩
  rcases h4 with h4 | ⟨b, o, cur, e, fr, k1, k2, k3, k4⟩
  · exact .inl h4
  · exact .inr ⟨b, o, cur, e, fr, k1, k2, k3, fun i hi j v hv => k4 i hi j v (by rw [h i hi]; exact hv)⟩
theorem Fun.slx {P : Program} {T : Tab} {f sz n : Nat} {x : Value} {g g' : Nat → D} {xs : List D} {R : D → Prop} (h : ∀ i, i < n → g i = g' i) (hf : Fun P T f (.sl sz x n g' :: xs) R) : Fun P T f (.sl sz x n g :: xs) R := by
  intro G β w hM ho hg1 hg2
  exact hf G β w hM (fun d hd => by
    rcases List.mem_cons.1 hd with rfl | hd
    · exact Ok.slx h (ho _ (by simp))
    · exact ho d (by simp [hd])) hg1 hg2

def listOf (n : Nat) (g : Nat → D) : List Int := (List.range n).map fun i => intD (g i)
theorem listOf_len (n : Nat) (g : Nat → D) : (listOf n g).length = n := by simp [listOf]
theorem listOf_row (l : List Int) : listOf l.length (rowD l) = l := by
  refine List.ext_getElem (by simp [listOf]) fun i h1 h2 => ?_
  simp [listOf, rowD, intD, List.getD_eq_getElem?_getD, List.getElem?_eq_getElem h2]
theorem rowD_listOf {n i : Nat} {g : Nat → D} (h : i < n) (hg : ∃ m, g i = .v (.int .u8 m)) : g i = rowD (listOf n g) i := by
  obtain ⟨m, hm⟩ := hg
  simp [rowD, listOf, List.getD_eq_getElem?_getD, h, hm, intD]

theorem e_of : Enters Try.prog 18 := enters_of Try.func18 rfl (by kernel_rfl)
theorem e_get : Enters Try.prog 13 := enters_of Try.func13 rfl (by kernel_rfl)

def C7 : Calls' := fun f ds => match ds with
  | [.v (.string s)] => if Nat.beq f 17 then some (u64 (fnv s s.size), .c (s.size ≤ maxLen)) else none
  | [.sl 1 _ n g] => if Nat.beq f 16 then some (u64 (sumB (listOf n g)), .c (∀ i, i < n → ∃ m, g i = .v (.int .u8 m))) else none
  | [d] => if Nat.beq f 18 then some (u64 (if mayStateB (unState d) = true then sumB (putB (unState d)) else 0), .c (∃ x s, d = stateD x s)) else none
  | _ => none
theorem C7_ok : COk Try.prog T C7 := by
  intro f ds d q h hq
  unfold C7 at h
  split at h
  · split at h
    · rename_i hf
      have hf := Nat.eq_of_beq_eq_true hf
      subst hf
      simp only [Option.some.injEq, Prod.mk.injEq] at h
      obtain ⟨rfl, rfl⟩ := h
      exact ⟨e_rseed, (c_rseed _ hq).pure ⟨trivial, trivial⟩, fun _ _ => rfl⟩
    · cases h
  · split at h
    · rename_i x n g hf
      have hf := Nat.eq_of_beq_eq_true hf
      subst hf
      simp only [Option.some.injEq, Prod.mk.injEq] at h
      obtain ⟨rfl, rfl⟩ := h
      have h1 := c_sum x (listOf n g)
      rw [listOf_len] at h1
      have hq : ∀ i, i < n → ∃ m, g i = .v (.int .u8 m) := hq
      exact ⟨e_sum, (h1.slx fun i hi => rowD_listOf hi (hq i hi)).pure ⟨fun i hi => by obtain ⟨m, hm⟩ := hq i hi; show Cl (g i); rw [hm]; trivial, trivial⟩, fun _ _ => rfl⟩
    · cases h
  · split at h
    · rename_i hf
      have hf := Nat.eq_of_beq_eq_true hf
      subst hf
      simp only [Option.some.injEq, Prod.mk.injEq] at h
      obtain ⟨rfl, rfl⟩ := h
      obtain ⟨x, s, rfl⟩ := hq
      exact ⟨e_of, (c_of x s).pure ⟨state_cl x s, trivial⟩, fun _ _ => rfl⟩
    · cases h
  · cases h
theorem K7 : Kit Try.prog T C7 := ⟨tab_ok, zero_ok, C7_ok, mixed⟩

theorem Byt.append {l m : List Int} (h : Byt l) (h2 : Byt m) : Byt (l ++ m) := fun v hv => by
  rcases List.mem_append.1 hv with hv | hv
  · exact h v hv
  · exact h2 v hv
theorem by8_byt (n : Int) : 0 ≤ by8 n ∧ by8 n ≤ 255 := by rw [by8, IntKind.wrap_u8]; omega
theorem Byt.le (n : Int) (b : Nat) : Byt (le n b) := fun v hv => by
  simp only [CE.le, List.mem_map] at hv
  obtain ⟨i, _, rfl⟩ := hv
  exact by8_byt _
theorem Byt.flat {α : Type} {f : α → List Int} (h : ∀ x, Byt (f x)) (g : Nat → α) (n : Nat) : Byt (flat f g n) := fun v hv => by
  simp only [CE.flat, List.mem_flatMap] at hv
  obtain ⟨i, _, hv⟩ := hv
  exact h _ v hv
theorem Byt.quad (q : Nat → Int) (n : Nat) : Byt (quadB q n) := fun v hv => by
  simp only [quadB, List.mem_flatMap] at hv
  obtain ⟨i, _, hv⟩ := hv
  exact Byt.le _ _ v hv
theorem shipB_byt (s : Ship) : Byt (shipB s) := by
  unfold shipB
  split
  · exact (((Byt.le _ _).append (Byt.quad _ _)).append (Byt.le _ _)).append (Byt.le _ _)
  · exact Byt.le _ _
theorem shotB_byt (s : Shot) : Byt (shotB s) := ((Byt.le _ _).append (Byt.quad _ _)).append (Byt.le _ _)
theorem seatBy_byt (s : Seat) : Byt (seatBy s) := (Byt.le _ _).append (Byt.le _ _)
theorem putB_byt (s : State) : Byt (putB s) := (((((((Byt.le _ _).append (Byt.le _ _)).append (Byt.flat shipB_byt _ _)).append (Byt.le _ _)).append (Byt.flat shotB_byt _ _)).append (Byt.le _ _)).append (Byt.flat seatBy_byt _ _))

def strA : ByteArray := ⟨#[97]⟩
def stA : State := startS strA
def stB : State := ⟨{ stA.game with ships := upd stA.game.ships 0 { ship0 with on := true } }, stA.roster⟩

theorem putA_may : mayStateB stA = true := by kernel_rfl
theorem putA_len : (putB stA).length = 49 := by kernel_rfl
theorem putB_may : mayStateB stB = false := by kernel_rfl
theorem getA_code : (getB (putB stA)).2 = 0 := by kernel_rfl
theorem getA_dice : (getB (putB stA)).1.game.dice = fnv strA 1 := by kernel_rfl
theorem getA_peer : ((getB (putB stA)).1.roster.seats 3).peer = -1 := by kernel_rfl
theorem get0 : (getB []).2 = 2 := by kernel_rfl

theorem stB_tree : stateD nilV stB = .st 35 [.st 28 [i64 stA.game.frame, u64 stA.game.dice, .ar 8 7 fun j => if j = 0 then shipD { ship0 with on := true } else shipD (stA.game.ships j), .sl 6 nilV stA.game.n fun i => shotD (stA.game.shots i)], rosterD stA.roster] := by
  simp only [stateD, gameD, stB, ship_ite]

theorem c_told7 : Fun Try.prog T 9 [] fun y => y = bol true := by
  refine Con.intro Try.func9 rfl rfl rfl rfl fun G w0 β0 β a w hS => ?_
  refine regS K0 [] hS rfl rfl trivial fun β a w hS => ?_
  refine wp_seq (regp K0 hS rfl trivial fun β a w hS => ?_)
  refine call0 e_rstart (c_start strA (by decide)) hS [] rfl rfl rfl rfl rfl ⟨trivial, trivial⟩ rfl ?_
  rintro y rfl β a w hS
  refine rege K0 [1] hS rfl rfl trivial fun β a w hS => ?_
  refine wp_seq (regp K0 hS rfl trivial fun β a w hS => ?_)
  refine call0 e_put (c_put nilV stA) hS [1] rfl rfl rfl rfl rfl ⟨state_cl _ _, trivial⟩ rfl ?_
  intro y hy β a w hS
  simp only [putA_may, if_true] at hy
  obtain ⟨x1, rfl⟩ := hy
  refine rege K0 [1, 2, 3] hS rfl rfl trivial fun β a w hS => ?_
  refine wp_seq (regp K0 hS rfl trivial fun β a w hS => ?_)
  refine call0 e_get (c_get x1 (putB stA) (putB_byt stA)) hS [1, 2, 3] rfl rfl rfl rfl rfl ⟨fun _ _ => trivial, trivial⟩ rfl ?_
  rintro y ⟨x2, rfl⟩ β a w hS
  have e1 : getB (putB stA) = ((getB (putB stA)).1, 0) := by rw [← getA_code]
  rw [e1] at hS
  have e2 := getA_dice
  have e3 := getA_peer
  have e4 := putA_len
  generalize (getB (putB stA)).1 = t at hS e2 e3
  generalize putB stA = lA at hS e4
  refine rege K0 [1, 2, 3, 4, 5] hS rfl rfl trivial fun β a w hS => ?_
  refine wp_seq (regp K0 hS rfl trivial fun β a w hS => ?_)
  refine call0 e_get ((c_get (.slice none 0 0) [] (fun _ h => by cases h)).slx (g := fun _ => default) fun i hi => absurd hi (Nat.not_lt_zero _)) hS [1, 2, 3, 4, 5] rfl rfl rfl rfl rfl ⟨fun _ h => absurd h (Nat.not_lt_zero _), trivial⟩ rfl ?_
  rintro y ⟨x3, rfl⟩ β a w hS
  rw [get0] at hS
  refine rege K0 [1, 2, 3, 4, 5, 7] hS rfl rfl trivial fun β a w hS => ?_
  refine regS K0 [1, 2, 3, 4, 5, 7] hS rfl rfl ⟨by decide, trivial⟩ fun β a w hS => ?_
  have hS : Ste T w0 (pinsOf β0 0 0 G) Try.f9.ntmps [] [(1, .d (.p 0 [])), (2, .d (.sl 1 x1 lA.length (rowD lA))), (3, .d (i64 0)), (4, .d (.p 1 [])), (5, .d (i64 0)), (7, .d (i64 2))] [] [.var 35 (stateD nilV stB), .var 35 (stateD x2 t), .var 35 (stateD x3 (getB []).1)] β a w := by
    rw [stB_tree]; exact Ste.sub hS ⟨rfl, rfl, rfl, rfl, rfl, rfl, trivial⟩
  refine wp_seq (regp K0 hS rfl trivial fun β a w hS => ?_)
  refine call0 e_put (c_put nilV stB) hS [1, 2, 3, 4, 5, 7] rfl rfl rfl rfl rfl ⟨state_cl _ _, trivial⟩ rfl ?_
  intro y hy β a w hS
  simp only [putB_may, Bool.false_eq_true, if_false] at hy
  subst hy
  refine rege K0 [1, 2, 3, 4, 5, 7, 9] hS rfl rfl trivial fun β a w hS => ?_
  refine regqS K7 [0] (by kernel_rfl) hS rfl rfl ⟨fun _ i hi => absurd hi (Nat.not_lt_zero _), fun _ => ⟨_, _, rfl⟩, fun _ => ⟨by decide, by decide⟩, fun _ => by decide, trivial⟩ fun a w hS => ?_
  refine wp_ret (fret1 K0 rfl hS rfl trivial ?_)
  have e5 : ((lA.length : Int) == 49) = true := by rw [e4]; rfl
  have e6 : (t.game.dice == fnv strA strA.size) = true := by rw [e2]; exact beq_self_eq_true _
  have e7 : ((t.roster.seats 3).peer == -1) = true := by rw [e3]; rfl
  have e8 : ((if mayStateB stB = true then sumB (putB stB) else 0) == 0) = true := by rw [putB_may]; rfl
  have e9 : (sumB (listOf 0 fun _ => default) == 14695981039346656037) = true := by kernel_rfl
  show bol ((((((((((0 : Int) == 0) && ((lA.length : Int) == 49)) && ((0 : Int) == 0)) && (t.game.dice == fnv strA strA.size)) && ((t.roster.seats 3).peer == -1)) && ((2 : Int) == 2)) && ((1 : Int) == 1)) && ((if mayStateB stB = true then sumB (putB stB) else 0) == 0)) && (sumB (listOf 0 fun _ => default) == 14695981039346656037)) = bol true
  rw [e5, e6, e7, e8, e9]
  rfl

end Go.CE

/- Plain: a state out of its bytes as the document reads it. -/
namespace Go.CE
open Go.RowKit Go.Proofs

theorem Byt.drop {l : List Int} (h : Byt l) (n : Nat) : Byt (l.drop n) := fun v hv => h v (List.mem_of_mem_drop hv)
theorem rnum_byt {n : Nat} {s : RS} (h : Byt s.1) : Byt (rnum n s).2.1 := by
  unfold rnum
  split
  · intro v hv; cases hv
  · exact h.drop n

/-- A reader's step, and the same without a mark. -/
structure Sim {α : Type} (p : RS → α × RS) (q : List Int → Option (α × List Int)) : Prop where
  ok : ∀ l, Byt l → ∀ a l', q l = some (a, l') → p (l, false) = (a, (l', false))
  no : ∀ l, Byt l → q l = none → (p (l, false)).2.2 = true
  bad : ∀ l, (p (l, true)).2.2 = true
  byt : ∀ s : RS, Byt s.1 → Byt (p s).2.1
def bS {α γ : Type} (p : RS → α × RS) (k : α → RS → γ × RS) : RS → γ × RS := fun s => k (p s).1 (p s).2
def pS {α : Type} (a : α) : RS → α × RS := fun s => (a, s)

variable {α γ : Type}

theorem Sim.pure (a : α) : Sim (pS a) (fun l => some (a, l)) :=
  { ok := fun l _ b l' h => by
      simp only [Option.some.injEq, Prod.mk.injEq] at h
      obtain ⟨rfl, rfl⟩ := h
      rfl
    no := fun l _ h => by cases h
    bad := fun _ => rfl
    byt := fun _ h => h }
theorem Sim.bind {p : RS → α × RS} {q : List Int → Option (α × List Int)} {k : α → RS → γ × RS} {j : α → List Int → Option (γ × List Int)} (h : Sim p q) (hk : ∀ a, Sim (k a) (j a)) : Sim (bS p k) (fun l => bindR (q l) j) := by
  refine ⟨fun l hl b l' hb => ?_, fun l hl hb => ?_, fun l => ?_, fun s hs => (hk _).byt _ (h.byt s hs)⟩
  · cases hq : q l with
    | none => rw [hq] at hb; cases hb
    | some r =>
      obtain ⟨a, l1⟩ := r
      rw [hq] at hb
      have e := h.ok l hl a l1 hq
      have hl1 : Byt l1 := by have := h.byt (l, false) hl; rw [e] at this; exact this
      simp only [bS, e]
      exact (hk a).ok l1 hl1 b l' hb
  · cases hq : q l with
    | none =>
      have e := h.no l hl hq
      show (k (p (l, false)).1 (p (l, false)).2).2.2 = true
      obtain ⟨m, hm⟩ : ∃ m, (p (l, false)).2 = (m, true) := ⟨(p (l, false)).2.1, Prod.ext rfl e⟩
      rw [hm]
      exact (hk _).bad m
    | some r =>
      obtain ⟨a, l1⟩ := r
      rw [hq] at hb
      have e := h.ok l hl a l1 hq
      have hl1 : Byt l1 := by have := h.byt (l, false) hl; rw [e] at this; exact this
      simp only [bS, e]
      exact (hk a).no l1 hl1 hb
  · have e := h.bad l
    show (k (p (l, true)).1 (p (l, true)).2).2.2 = true
    obtain ⟨m, hm⟩ : ∃ m, (p (l, true)).2 = (m, true) := ⟨(p (l, true)).2.1, Prod.ext rfl e⟩
    rw [hm]
    exact (hk _).bad m
theorem Sim.num (n : Nat) (hn : n ≤ 8) : Sim (rnum n) (rd n) := by
  refine ⟨fun l hl a l' h => ?_, fun l hl h => ?_, fun l => ?_, fun s hs => rnum_byt hs⟩
  · unfold rd at h
    split at h
    · rename_i hle
      simp only [Option.some.injEq, Prod.mk.injEq] at h
      obtain ⟨rfl, rfl⟩ := h
      unfold rnum
      rw [if_neg (by simp only [Bool.false_or, decide_eq_true_eq]; omega), rdN_bn hl n hn]
      rfl
    · cases h
  · unfold rd at h
    split at h
    · cases h
    · rename_i hle
      unfold rnum
      rw [if_pos (by simp only [Bool.false_or, decide_eq_true_eq]; omega)]
  · unfold rnum
    rw [if_pos (by simp)]
theorem Sim.map {p : RS → α × RS} {q : List Int → Option (α × List Int)} (h : Sim p q) (g : α → γ) : Sim (fun s => (g (p s).1, (p s).2)) (fun l => bindR (q l) fun a l => some (g a, l)) := h.bind fun a => Sim.pure (g a)

def ri (n : Nat) (l : List Int) : Option (Int × List Int) := bindR (rd n l) fun a l => some (i64w a, l)
def rint (n : Nat) : RS → Int × RS := fun s => (i64w (rnum n s).1, (rnum n s).2)
def rfour : RS → Int × RS := fun s => (sgn (rnum 4 s).1, (rnum 4 s).2)
theorem Sim.int (n : Nat) (hn : n ≤ 8) : Sim (rint n) (ri n) := (Sim.num n hn).map i64w
theorem Sim.four : Sim rfour rs := by
  have h := (Sim.num 4 (by omega)).map sgn
  have e : (fun l => bindR (rd 4 l) fun a l => some (sgn a, l)) = rs := by
    funext l
    unfold rd rs bindR
    by_cases hl : 4 ≤ l.length
    · simp only [hl, if_true]; rfl
    · simp only [hl, if_false]
  rw [e] at h
  exact h
/-- Is a ship there? -/
def rflag : RS → Int × RS := fun s => ((rint 1 s).1, ((rint 1 s).2.1, (rint 1 s).2.2 || decide ((rint 1 s).1 > 1)))
def qflag (l : List Int) : Option (Int × List Int) := bindR (rd 1 l) fun c l => if (decide (i64w c > 1)) = true then none else some (i64w c, l)
theorem Sim.flag : Sim rflag qflag := by
  have h := Sim.int 1 (by omega)
  refine ⟨fun l hl a l' ha => ?_, fun l hl ha => ?_, fun l => ?_, fun s hs => h.byt s hs⟩
  · unfold qflag at ha
    cases hq : rd 1 l with
    | none => rw [hq] at ha; cases ha
    | some r =>
      obtain ⟨c, l1⟩ := r
      have e := h.ok l hl (i64w c) l1 (by rw [ri, hq]; rfl)
      rw [hq] at ha
      simp only [bindR] at ha
      split at ha
      · cases ha
      · rename_i hc
        simp only [Option.some.injEq, Prod.mk.injEq] at ha
        obtain ⟨rfl, rfl⟩ := ha
        simp only [rflag, e, Bool.false_or]
        rw [show decide (i64w c > 1) = false by simpa using hc]
        rfl
  · unfold qflag at ha
    cases hq : rd 1 l with
    | none =>
      have e := h.no l hl (by rw [ri, hq]; rfl)
      simp only [rflag, e, Bool.true_or]
    | some r =>
      obtain ⟨c, l1⟩ := r
      have e := h.ok l hl (i64w c) l1 (by rw [ri, hq]; rfl)
      rw [hq] at ha
      simp only [bindR] at ha
      split at ha
      · rename_i hc
        simp only [rflag, e, Bool.false_or]
        exact hc
      · cases ha
  · have e := h.bad l
    simp only [rflag, e, Bool.true_or]

def rship : RS → Ship × RS := bS rflag fun c => if (c != 1) = true then pS ship0 else bS rfour fun x => bS rfour fun y => bS rfour fun vx => bS rfour fun vy => bS (rint 1) fun cool => bS (rint 4) fun score => pS ⟨true, x, y, vx, vy, cool, score⟩
def rshot : RS → Shot × RS := bS (rint 1) fun o => bS rfour fun x => bS rfour fun y => bS rfour fun vx => bS rfour fun vy => bS (rint 1) fun life => pS ⟨o, x, y, vx, vy, life⟩
def rseat : RS → Seat × RS := bS (rint 1) fun p => bS (rint 2) fun g => pS ⟨IntKind.i64.wrap (p - 1), g⟩
def qShip (l : List Int) : Option (Ship × List Int) := bindR (qflag l) fun c => if (c != 1) = true then fun l => some (ship0, l) else fun l => bindR (rs l) fun x l => bindR (rs l) fun y l => bindR (rs l) fun vx l => bindR (rs l) fun vy l => bindR (ri 1 l) fun cool l => bindR (ri 4 l) fun score l => some (⟨true, x, y, vx, vy, cool, score⟩, l)
def qShot (l : List Int) : Option (Shot × List Int) := bindR (ri 1 l) fun o l => bindR (rs l) fun x l => bindR (rs l) fun y l => bindR (rs l) fun vx l => bindR (rs l) fun vy l => bindR (ri 1 l) fun life l => some (⟨o, x, y, vx, vy, life⟩, l)
def qSeat (l : List Int) : Option (Seat × List Int) := bindR (ri 1 l) fun p l => bindR (ri 2 l) fun g l => some (⟨IntKind.i64.wrap (p - 1), g⟩, l)
theorem Sim.ship : Sim rship qShip := by
  refine Sim.flag.bind fun c => ?_
  split
  · exact Sim.pure ship0
  · exact Sim.four.bind fun x => Sim.four.bind fun y => Sim.four.bind fun vx => Sim.four.bind fun vy => (Sim.int 1 (by omega)).bind fun cool => (Sim.int 4 (by omega)).bind fun score => Sim.pure _
theorem Sim.shot : Sim rshot qShot := (Sim.int 1 (by omega)).bind fun _ => Sim.four.bind fun x => Sim.four.bind fun y => Sim.four.bind fun vx => Sim.four.bind fun vy => (Sim.int 1 (by omega)).bind fun _ => Sim.pure _
theorem Sim.seat : Sim rseat qSeat := (Sim.int 1 (by omega)).bind fun _ => (Sim.int 2 (by omega)).bind fun _ => Sim.pure _

/-- What is behind a step. -/
def contR (s : RS) (k : List Int → Option γ) : Option γ := if s.2 = true then none else k s.1
theorem Sim.cont {p : RS → α × RS} {q : List Int → Option (α × List Int)} (h : Sim p q) {s : RS} (hs : Byt s.1) (k : α → List Int → Option γ) : contR s (fun l => bindR (q l) k) = contR (p s).2 (k (p s).1) := by
  obtain ⟨l, b⟩ := s
  have hs : Byt l := hs
  cases b with
  | true => simp only [contR, h.bad l, if_true]
  | false =>
    cases hq : q l with
    | none => simp only [contR, h.no l hs hq, if_true, hq, bindR, Bool.false_eq_true, if_false]
    | some r =>
      obtain ⟨a, l'⟩ := r
      simp only [contR, h.ok l hs a l' hq, hq, bindR, Bool.false_eq_true, if_false]
theorem bindR_assoc {δ : Type} (x : Option (α × List Int)) (k : α → List Int → Option (γ × List Int)) (j : γ → List Int → Option δ) : bindR (bindR x k) j = bindR x fun a l => bindR (k a l) j := by cases x <;> rfl
/-- A loop's state. -/
def Loop (dec : List Int → Option (α × List Int)) (z : α) (s0 : RS) (i : Nat) (f : Nat → α) (s : RS) : Prop := Byt s.1 ∧ ∀ (k : (Nat → α) → List Int → Option (State × List Int)), contR s0 (fun l => bindR (decN dec z i l) k) = contR s (k f)
theorem Loop.zero {dec : List Int → Option (α × List Int)} {z : α} {s0 : RS} (h : Byt s0.1) : Loop dec z s0 0 (fun _ => z) s0 := ⟨h, fun _ => rfl⟩
theorem Loop.step {p : RS → α × RS} {dec : List Int → Option (α × List Int)} {z : α} {s0 s : RS} {i : Nat} {f : Nat → α} (hp : Sim p dec) (h : Loop dec z s0 i f s) : Loop dec z s0 (i + 1) (upd f i (p s).1) (p s).2 := by
  refine ⟨hp.byt s h.1, fun k => ?_⟩
  simp only [decN, bindR_assoc]
  rw [h.2 fun f l => bindR (dec l) fun a l => bindR (some (upd f i a, l)) k, hp.cont h.1]
  rfl
theorem Loop.bad {dec : List Int → Option (α × List Int)} {z : α} {s0 s : RS} {i n : Nat} {f : Nat → α} (h : Loop dec z s0 i f s) (hi : i ≤ n) (hb : s.2 = true) (k : (Nat → α) → List Int → Option (State × List Int)) : contR s0 (fun l => bindR (decN dec z n l) k) = none := by
  have e := h.2 fun _ l => some (zeroS, l)
  unfold contR at e ⊢
  rw [if_pos hb] at e
  split
  · rfl
  · rename_i h0
    rw [if_neg h0] at e
    cases hd : decN dec z i s0.1 with
    | none => show bindR (decN dec z n s0.1) k = none; rw [decN_lt hi hd]; rfl
    | some r => simp only [hd] at e; cases e

/-- The document's state, and what is left. -/
def qseats (fr di : Int) (ships : Nat → Ship) (n : Nat) (shots : Nat → Shot) (ve : Int) (l : List Int) : Option (State × List Int) := bindR (decN qSeat ⟨0, 0⟩ 8 l) fun seats l => some (⟨⟨fr, di, ships, n, shots⟩, ⟨ve, seats⟩⟩, l)
def qvers (fr di : Int) (ships : Nat → Ship) (n : Nat) (shots : Nat → Shot) (l : List Int) : Option (State × List Int) := bindR (ri 4 l) fun ve l => qseats fr di ships n shots ve l
def qshots (fr di : Int) (ships : Nat → Ship) (n : Int) (l : List Int) : Option (State × List Int) := bindR (decN qShot shot0 n.toNat l) fun shots l => qvers fr di ships n.toNat shots l
def qdec (l : List Int) : Option (State × List Int) := bindR (ri 4 l) fun fr l => bindR (rd 8 l) fun di l => bindR (decN qShip ship0 8 l) fun ships l => bindR (ri 1 l) fun n l => qshots fr di ships n l
/-- The document's answer. -/
def rgetB (l : List Int) : State × Int := match qdec l with
  | some (s, []) => if mayStateB s = true then (s, 0) else (zeroS, 2)
  | _ => (zeroS, 2)

end Go.CE

/- How long an image is: for every state the law's function answers true. -/
namespace Go.CE
open Go.RowKit Go.Proofs

theorem e_told7 : Enters Try.prog 9 := enters_of Try.func9 rfl (by kernel_rfl)
def C8 : Calls' := fun f ds => match ds with
  | [] => if Nat.beq f 9 then some (bol true, .t) else none
  | ds => C7 f ds
theorem C8_ok : COk Try.prog T C8 := by
  intro f ds d q h hq
  unfold C8 at h
  split at h
  · split at h
    · rename_i hf
      have hf := Nat.eq_of_beq_eq_true hf
      subst hf
      simp only [Option.some.injEq, Prod.mk.injEq] at h
      obtain ⟨rfl, rfl⟩ := h
      exact ⟨e_told7, c_told7.pure trivial, fun _ _ => rfl⟩
    · cases h
  · exact C7_ok _ _ _ _ h hq
theorem K8 : Kit Try.prog T C8 := ⟨tab_ok, zero_ok, C8_ok, mixed⟩

/-- How many of the first ships are there. -/
def ons (s : State) : Nat → Nat
  | 0 => 0
  | i + 1 => if (s.game.ships i).on = true then ons s i + 1 else ons s i
theorem ons_le (s : State) : ∀ i, ons s i ≤ i
  | 0 => Nat.le_refl 0
  | i + 1 => by have := ons_le s i; simp only [ons]; split <;> omega
theorem ships_len (s : State) : ∀ i, (flat shipB s.game.ships i).length = i + 21 * ons s i
  | 0 => rfl
  | i + 1 => by
    rw [flat_succ, List.length_append, ships_len s i]
    simp only [ons, shipB]
    split <;> simp only [List.length_append, le_len, quadB_len] <;> omega
theorem flat_eq {α : Type} {f : α → List Int} {c : Nat} (h : ∀ a, (f a).length = c) (g : Nat → α) : ∀ n, (flat f g n).length = c * n
  | 0 => by simp [flat]
  | n + 1 => by rw [flat_succ, List.length_append, flat_eq h g n, h, Nat.mul_succ]
theorem putB_len (s : State) : (putB s).length = 49 + 18 * s.game.n + 21 * ons s 8 := by
  have h1 := ships_len s 8
  have h2 := flat_eq (f := shotB) (c := 18) (fun a => by simp only [shotB, List.length_append, le_len, quadB_len]) s.game.shots s.game.n
  have h3 := flat_eq (f := seatBy) (c := 3) (fun a => by simp only [seatBy, List.length_append, le_len]) s.roster.seats 8
  simp only [putB, put3, put2, put1, List.length_append, le_len, h1, h2, h3]
  omega
theorem wr64 {n : Int} (h : -9223372036854775808 ≤ n ∧ n ≤ 9223372036854775807) : IntKind.i64.wrap n = n := IntWalk.i64_in _ ⟨by omega, by omega⟩

theorem c_imageLong (x : Value) (s : State) : Fun Try.prog T 5 [stateD x s] fun y => y = bol true := by
  refine Con.intro Try.func5 rfl rfl rfl rfl fun G w0 β0 β a w hS => ?_
  refine regS K0 [1] hS rfl rfl trivial fun β a w hS => ?_
  refine wp_seq (regp K0 hS rfl trivial fun β a w hS => ?_)
  refine call0 e_put (c_put x s) hS [1] rfl rfl rfl rfl rfl ⟨state_cl _ _, trivial⟩ rfl ?_
  intro y hy β a w hS
  cases hm : mayStateB s with
  | false =>
    simp only [hm, Bool.false_eq_true, if_false] at hy
    subst hy
    refine rege K0 [1, 3, 4] hS rfl rfl trivial fun β a w hS => ?_
    refine wp_seq ?_
    refine regS K0 [1, 3, 13] hS rfl rfl trivial fun β a w hS => ?_
    refine cnd hS rfl (fun h => ?_) (fun h => absurd h (by decide))
    refine regS K8 [2] hS rfl rfl trivial fun β a w hS => ?_
    exact wp_ret (fret1 K0 rfl hS rfl trivial rfl)
  | true =>
    have hn := may_n hm
    simp only [hm, if_true] at hy
    obtain ⟨x', rfl⟩ := hy
    have hlen := putB_len s
    have ho := ons_le s 8
    generalize putB s = l at hS hlen
    refine rege K0 [1, 3, 4] hS rfl rfl trivial fun β a w hS => ?_
    refine wp_seq ?_
    refine regS K0 [1, 3, 13] hS rfl rfl trivial fun β a w hS => ?_
    refine cnd hS rfl (fun h => absurd h (by decide)) (fun h => wp_skip ?_)
    refine regS K0 [1, 3, 5] hS rfl rfl trivial fun β a w hS => ?_
    refine wp_seq ?_
    refine regS K0 [1, 3, 5, 6] hS rfl rfl trivial fun β a w hS => ?_
    refine wp_block ?_
    refine lop (fun i : Nat => 8 - i) (fun i => i ≤ 8) (fun i => [(1, .d (.p 0 [])), (3, .d (.sl 1 x' l.length (rowD l))), (5, .d (i64 ((49 + 18 * s.game.n + 21 * ons s i : Nat) : Int))), (6, .d (i64 i))]) (fun _ => [.var 35 (stateD x s)]) 0 (Nat.zero_le _) (Ste.sub hS ⟨rfl, rfl, ?_, rfl, trivial⟩) ?_
    · show some (B.d (.v (.int .i64 (IntKind.i64.wrap (49 + IntKind.i64.wrap (18 * (s.game.n : Int))))))) = some (B.d (i64 ((49 + 18 * s.game.n + 21 * ons s 0 : Nat) : Int)))
      rw [wr64 (n := 18 * (s.game.n : Int)) (by omega), wr64 (by omega)]
      simp only [ons]
      have : (49 + 18 * (s.game.n : Int)) = ((49 + 18 * s.game.n + 21 * 0 : Nat) : Int) := by omega
      rw [this]; rfl
    intro i hi β a w hS
    have hoi := ons_le s i
    refine wp_seq ?_
    refine regS K0 [1, 3, 5, 6, 27] hS rfl rfl trivial fun β a w hS => ?_
    refine cnd hS rfl (fun hlt => wp_skip ?_) (fun hge => wp_exit ?_)
    · have hlt : i < 8 := by have : (i : Int) < 8 := by simpa using hlt
                             omega
      refine wp_seq ?_
      refine wp_block ?_
      refine regS K0 [1, 3, 5, 6, 35] hS rfl rfl ⟨⟨by omega, by omega⟩, trivial⟩ fun β a w hS => ?_
      refine cnd hS rfl (fun h => ?_) (fun h => wp_skip ?_)
      · have h : (s.game.ships i).on = true := h
        refine reg K0 [1, 3, 5, 6] hS rfl rfl trivial fun β a w hS => ?_
        refine reg K0 [1, 3, 5, 6] hS rfl rfl trivial fun β a w hS => ?_
        refine ⟨i + 1, β, hlt, Nat.sub_lt_sub_left hlt (Nat.lt_succ_self i), Ste.sub hS ⟨rfl, rfl, ?_, up8 hlt, trivial⟩⟩
        show some (B.d (.v (.int .i64 (IntKind.i64.wrap (((49 + 18 * s.game.n + 21 * ons s i : Nat) : Int) + 21))))) = _
        rw [wr64 (by omega)]
        simp only [ons, h, if_true]
        have : (((49 + 18 * s.game.n + 21 * ons s i : Nat) : Int) + 21) = ((49 + 18 * s.game.n + 21 * (ons s i + 1) : Nat) : Int) := by omega
        rw [this]; rfl
      · have h : (s.game.ships i).on = false := h
        refine reg K0 [1, 3, 5, 6] hS rfl rfl trivial fun β a w hS => ?_
        refine ⟨i + 1, β, hlt, Nat.sub_lt_sub_left hlt (Nat.lt_succ_self i), Ste.sub hS ⟨rfl, rfl, ?_, up8 hlt, trivial⟩⟩
        simp only [ons, h, Bool.false_eq_true, if_false]
        rfl
    · have hge : i = 8 := by have : ¬ ((i : Int) < 8) := by simpa using hge
                             omega
      subst hge
      refine regS K8 [2] hS rfl rfl trivial fun β a w hS => ?_
      refine wp_ret (fret1 K0 rfl hS rfl trivial ?_)
      have e1 : ((l.length : Int) == ((49 + 18 * s.game.n + 21 * ons s 8 : Nat) : Int)) = true := by rw [hlen]; exact beq_self_eq_true _
      have e2 : decide (((49 + 18 * s.game.n + 21 * ons s 8 : Nat) : Int) ≤ 793) = true := by rw [decide_eq_true_eq]; omega
      show bol ((true && ((l.length : Int) == ((49 + 18 * s.game.n + 21 * ons s 8 : Nat) : Int))) && decide (((49 + 18 * s.game.n + 21 * ons s 8 : Nat) : Int) ≤ 793)) = bol true
      rw [e1, e2]
      rfl

end Go.CE

/- ImageSeats: the walk. -/
namespace Go.CE
open Go.RowKit Go.Proofs

theorem e_few : Enters Try.prog 8 := enters_of Try.func8 rfl (by kernel_rfl)
theorem e_rmayState : Enters Try.prog 11 := enters_of Try.func11 rfl (by kernel_rfl)

def CB : Calls' := fun f ds => match ds with
  | [d] => if Nat.beq f 8 then some (bol (decide (((unGame d).n : Int) ≤ 60)), .c (∃ x g, d = gameD x g)) else
      if Nat.beq f 11 then some (bol (mayStateB (unState d)), .c (∃ x s, d = stateD x s)) else C8 f [d]
  | ds => C8 f ds
theorem CB_ok : COk Try.prog T CB := by
  intro f ds d q h hq
  unfold CB at h
  split at h
  · split at h
    · rename_i hf
      have hf := Nat.eq_of_beq_eq_true hf
      subst hf
      simp only [Option.some.injEq, Prod.mk.injEq] at h
      obtain ⟨rfl, rfl⟩ := h
      obtain ⟨x, g, rfl⟩ := hq
      exact ⟨e_few, (c_few x g).pure ⟨game_cl x g, trivial⟩, fun _ _ => rfl⟩
    · split at h
      · rename_i hf
        have hf := Nat.eq_of_beq_eq_true hf
        subst hf
        simp only [Option.some.injEq, Prod.mk.injEq] at h
        obtain ⟨rfl, rfl⟩ := h
        obtain ⟨x, s, rfl⟩ := hq
        exact ⟨e_rmayState, (c_rmayState x s).pure ⟨state_cl x s, trivial⟩, fun _ _ => rfl⟩
      · exact C8_ok _ _ _ _ h hq
  · exact C8_ok _ _ _ _ h hq
theorem KB : Kit Try.prog T CB := ⟨tab_ok, zero_ok, CB_ok, mixed⟩

/-- A number's place among the slots. -/
theorem mod8 (n : Int) : ∃ k : Nat, k < 8 ∧ IntKind.i64.wrap ((IntKind.u64.wrap n).tmod 8) = k := by
  refine ⟨((IntKind.u64.wrap n) % 8).toNat, by omega, ?_⟩
  have h := u64_nn n
  rw [Int.tmod_eq_emod_of_nonneg h, IntWalk.i64_in _ ⟨by omega, by omega⟩]
  omega

/-- A state, the ship of a slot put in another one's place. -/
def withShip (s : State) (k : Nat) (p : Ship) : State := ⟨{ s.game with ships := upd s.game.ships k p }, s.roster⟩
theorem with_tree (x : Value) (s : State) (k : Nat) (p : Ship) : stateD x (withShip s k p) = .st 35 [.st 28 [i64 s.game.frame, u64 s.game.dice, .ar 8 7 fun j => if j = k then shipD p else shipD (s.game.ships j), .sl 6 x s.game.n fun i => shotD (s.game.shots i)], rosterD s.roster] := by
  simp only [stateD, gameD, withShip, ship_ite]
theorem with_no {s : State} {k : Nat} {p : Ship} (hk : k < 8) (hm : mayStateB s = true) (hp : p.on = !(s.game.ships k).on) : mayStateB (withShip s k p) = false := by
  unfold mayStateB at hm ⊢
  rw [Bool.and_eq_true] at hm
  have h1 := all_of hm.2 hk
  rw [all_no hk, Bool.and_false]
  simp only [fits, beq_iff_eq] at h1
  have e : fits (withShip s k p) k = (p.on == decide ((s.roster.seats k).peer ≥ 0)) := by
    show ((if k = k then p else _ : Ship).on == _) = _
    rw [if_pos rfl]
    rfl
  rw [e, hp, h1]
  cases decide ((s.roster.seats k).peer ≥ 0) <;> rfl

theorem c_imageSeats (x : Value) (s : State) (slot : Int) : Fun Try.prog T 6 [stateD x s, i64 slot] fun y => y = bol true := by
  refine Con.intro Try.func6 rfl rfl rfl rfl fun G w0 β0 β a w hS => ?_
  refine regS K0 [1, 2] hS rfl rfl trivial fun β a w hS => ?_
  refine wp_seq ?_
  refine regS KB [1, 2, 19] hS rfl rfl ⟨fun _ => ⟨_, _, rfl⟩, ⟨_, _, rfl⟩, trivial⟩ fun β a w hS => ?_
  refine cnd hS rfl (fun h => ?_) (fun h => wp_skip ?_)
  · refine regS K8 [4] hS rfl rfl trivial fun β a w hS => ?_
    exact wp_ret (fret1 K0 rfl hS rfl trivial rfl)
  have h : (!decide ((s.game.n : Int) ≤ 60) || !mayStateB s) = false := h
  have hm : mayStateB s = true := by
    cases hm : mayStateB s with
    | true => rfl
    | false => rw [hm, Bool.not_false, Bool.or_true] at h; cases h
  clear h
  refine regS K0 [2, 5] hS rfl rfl ⟨by decide, trivial⟩ fun β a w hS => ?_
  obtain ⟨k, hk, e⟩ := mod8 slot
  have hS : Ste T w0 (pinsOf β0 0 0 G) Try.f6.ntmps [] [(2, .d (.p 0 [])), (5, .d (i64 k))] [] [.var 35 (stateD x s)] β a w := Ste.sub hS ⟨rfl, by show some (B.d (.v (.int .i64 (IntKind.i64.wrap ((IntKind.u64.wrap slot).tmod 8))))) = _; rw [e]; rfl, trivial⟩
  refine regS K0 [2, 5, 6] hS rfl rfl trivial fun β a w hS => ?_
  refine join (fun β a w => ∃ p : Ship, p.on = (!(s.game.ships k).on) ∧ Ste T w0 (pinsOf β0 0 0 G) Try.f6.ntmps [] [(2, .d (.p 0 [])), (6, .d (.p 1 []))] [] [.var 35 (stateD x s), .var 35 (stateD x (withShip s k p))] β a w) ?_ ?_
  · refine regS K0 [2, 5, 6, 31] hS rfl rfl ⟨⟨by omega, by omega⟩, trivial⟩ fun β a w hS => ?_
    refine cnd hS rfl (fun h => ?_) (fun h => ?_)
    · have h : (s.game.ships k).on = true := h
      refine reg K0 [2, 6] hS rfl rfl ⟨⟨by omega, by omega⟩, trivial⟩ fun β a w hS => ?_
      refine ⟨β, ship0, by rw [h]; rfl, ?_⟩
      rw [with_tree]
      exact Ste.sub hS ⟨rfl, rfl, trivial⟩
    · have h : (s.game.ships k).on = false := h
      refine reg K0 [2, 6] hS rfl rfl ⟨⟨by omega, by omega⟩, trivial⟩ fun β a w hS => ?_
      refine ⟨β, { s.game.ships k with on := true }, by rw [h]; rfl, ?_⟩
      rw [with_tree]
      exact Ste.sub hS ⟨rfl, rfl, trivial⟩
  rintro β a w ⟨p, hp, hS⟩
  have hno := with_no hk hm hp
  refine wp_seq (regp K0 hS rfl trivial fun β a w hS => ?_)
  refine call0 e_put (c_put x s) hS [2, 6] rfl rfl rfl rfl rfl ⟨state_cl _ _, trivial⟩ rfl ?_
  intro y hy β a w hS
  simp only [hm, if_true] at hy
  obtain ⟨x1, rfl⟩ := hy
  have hofs : (if mayStateB s = true then sumB (putB s) else 0) = sumB (putB s) := by rw [if_pos hm]
  have hoft : (if mayStateB (withShip s k p) = true then sumB (putB (withShip s k p)) else 0) = 0 := by rw [hno]; rfl
  generalize hl : putB s = l at hS hofs
  refine rege K0 [2, 6, 7, 8] hS rfl rfl trivial fun β a w hS => ?_
  refine wp_seq (regp K0 hS rfl trivial fun β a w hS => ?_)
  refine call0 e_put (c_put x (withShip s k p)) hS [2, 6, 7, 8] rfl rfl rfl rfl rfl ⟨state_cl _ _, trivial⟩ rfl ?_
  intro y hy β a w hS
  simp only [hno, Bool.false_eq_true, if_false] at hy
  subst hy
  refine rege K0 [2, 6, 7, 8, 10] hS rfl rfl trivial fun β a w hS => ?_
  refine regS K8 [4] hS rfl rfl ⟨fun _ i hi => ⟨_, rfl⟩, fun _ => ⟨_, _, rfl⟩, fun _ => ⟨_, _, rfl⟩, trivial⟩ fun β a w hS => ?_
  refine wp_ret (fret1 K0 rfl hS rfl trivial ?_)
  show bol ((((true && ((0 : Int) == 0)) && ((1 : Int) == 1)) && ((if mayStateB (withShip s k p) = true then sumB (putB (withShip s k p)) else 0) == 0)) && ((if mayStateB s = true then sumB (putB s) else 0) == sumB (listOf l.length (rowD l)))) = bol true
  rw [hl, hofs, hoft, listOf_row, beq_self_eq_true (sumB l)]
  rfl

end Go.CE

/- Contract: a state out of its bytes as the document reads it: the blocks, and how the reader is asked. -/
namespace Go.CE
open Go.RowKit Go.Proofs

theorem ba_loop (bs : ByteArray) : ∀ (n i : Nat) (r : List UInt8), bs.size - i = n → ByteArray.toList.loop bs i r = r.reverse ++ bs.data.toList.drop i := by
  intro n
  induction n with
  | zero =>
    intro i r h
    unfold ByteArray.toList.loop
    rw [if_neg (by omega)]
    rw [List.drop_eq_nil_of_le (by simp; show bs.size ≤ i; omega)]
    simp
  | succ n ih =>
    intro i r h
    unfold ByteArray.toList.loop
    rw [if_pos (by omega), ih (i + 1) _ (by omega)]
    have hi : i < bs.data.toList.length := by simp; show i < bs.size; omega
    rw [List.drop_eq_getElem_cons hi]
    simp
    show bs.data[i]! = _
    have : i < bs.data.size := by simpa using hi
    exact getElem!_pos bs.data i this
theorem ba_list (bs : ByteArray) : bs.toList = bs.data.toList := by
  unfold ByteArray.toList
  rw [ba_loop bs _ 0 [] rfl]
  simp
theorem rend_eq (s : RS) : rend s = true ↔ s = ([], false) := by
  obtain ⟨l, b⟩ := s
  unfold rend
  rw [ba_list, ba_list, bytesOf_data]
  simp only [Bool.and_eq_true, Bool.not_eq_true', beq_iff_eq, List.map_eq_nil_iff]
  constructor
  · rintro ⟨rfl, rfl⟩; rfl
  · intro h; cases h; exact ⟨rfl, rfl⟩

variable {w0 w : World} {pins : Pins} {N : Nat} {env : Env} {gs : List Nat} {L : List Ent} {β : Nat → Nat} {a : Act} {ds : List Deferred}

/-- The blocks: the answer's, the reader's, the state's. -/
def qL (t : D) (fr di : Int) (ships : Nat → Ship) (ro : Roster) (s : RS) (J : List Ent) : List Ent := .var 35 (stateD nilV zeroS) :: .var 86 (rsD s) :: .var 35 (stD t fr di ships ro) :: J

section
variable {t : D} {fr di : Int} {ships : Nat → Ship} {ro : Roster} {s : RS} {J : List Ent} {m rest : List Oper} {Q : Exit → Act → World → Prop} {o : Oper} {args : List Operand} {ty : Array TypeId} {env2 : Env}

theorem numQ {b : Nat} (hb : b ≤ 8) (hby : Byt s.1) (hS : Ste T w0 pins N ds env gs (qL t fr di ships ro s J) β a w) (ts : List Nat) (hg : o.guard = none) (hop : o.op = .call ⟨.value (.func 36), ⟨args⟩, ty⟩) (hx : opds (lkU env) args = some [.p 1 [], i64 b]) (hdst : dstB N o.dst = true) (he : keepE env ts [] = some env2)
    (hk : ∀ β' a' w', Ste T w0 pins N ds (dstE o.dst (u64 (rnum b s).1) env2) [] (qL t fr di ships ro (rnum b s).2 J) β' a' w' → wpList Try.prog m.toArray Q rest a' w') : wpList Try.prog m.toArray Q (o :: rest) a w := by
  have hJ : ∀ (r : Nat → Nat) y z, putE r [1] [Ent.var y z] (qL t fr di ships ro s J) = (Ent.var 35 (stateD nilV zeroS) :: (Ent.var y z).ren r :: Ent.var 35 (stD t fr di ships ro) :: J) ++ [] := fun _ _ _ => rfl
  refine callf e_RNum (c_RNum s hby b hb) hS ts [1] hg hop rfl hx hdst (by decide) rfl he rfl ⟨Nat.zero_lt_one, trivial, trivial⟩ ⟨⟨_, rfl, rfl, rfl⟩, ⟨trivial, trivial, trivial⟩, rfl, trivial⟩ ?_
  rintro y L1 ⟨rfl, rfl⟩ β a w hS
  unfold rsL at hS
  rw [hJ, List.append_nil] at hS
  exact hk β a w hS
theorem intQ {b : Nat} (hb : b ≤ 8) (hby : Byt s.1) (hS : Ste T w0 pins N ds env gs (qL t fr di ships ro s J) β a w) (ts : List Nat) (hg : o.guard = none) (hop : o.op = .call ⟨.value (.func 35), ⟨args⟩, ty⟩) (hx : opds (lkU env) args = some [.p 1 [], i64 b]) (hdst : dstB N o.dst = true) (he : keepE env ts [] = some env2)
    (hk : ∀ β' a' w', Ste T w0 pins N ds (dstE o.dst (i64 (rint b s).1) env2) [] (qL t fr di ships ro (rint b s).2 J) β' a' w' → wpList Try.prog m.toArray Q rest a' w') : wpList Try.prog m.toArray Q (o :: rest) a w := by
  have hJ : ∀ (r : Nat → Nat) y z, putE r [1] [Ent.var y z] (qL t fr di ships ro s J) = (Ent.var 35 (stateD nilV zeroS) :: (Ent.var y z).ren r :: Ent.var 35 (stD t fr di ships ro) :: J) ++ [] := fun _ _ _ => rfl
  refine callf e_RInt (c_RInt s hby b hb) hS ts [1] hg hop rfl hx hdst (by decide) rfl he rfl ⟨Nat.zero_lt_one, trivial, trivial⟩ ⟨⟨_, rfl, rfl, rfl⟩, ⟨trivial, trivial, trivial⟩, rfl, trivial⟩ ?_
  rintro y L1 ⟨rfl, rfl⟩ β a w hS
  unfold rsL at hS
  rw [hJ, List.append_nil] at hS
  exact hk β a w hS
theorem fourQ (hby : Byt s.1) (hS : Ste T w0 pins N ds env gs (qL t fr di ships ro s J) β a w) (ts : List Nat) (hg : o.guard = none) (hop : o.op = .call ⟨.value (.func 37), ⟨args⟩, ty⟩) (hx : opds (lkU env) args = some [.p 1 []]) (hdst : dstB N o.dst = true) (he : keepE env ts [] = some env2)
    (hk : ∀ β' a' w', Ste T w0 pins N ds (dstE o.dst (i32 (rfour s).1) env2) [] (qL t fr di ships ro (rfour s).2 J) β' a' w' → wpList Try.prog m.toArray Q rest a' w') : wpList Try.prog m.toArray Q (o :: rest) a w := by
  have hJ : ∀ (r : Nat → Nat) y z, putE r [1] [Ent.var y z] (qL t fr di ships ro s J) = (Ent.var 35 (stateD nilV zeroS) :: (Ent.var y z).ren r :: Ent.var 35 (stD t fr di ships ro) :: J) ++ [] := fun _ _ _ => rfl
  refine callf e_Rfour (c_Rfour s hby) hS ts [1] hg hop rfl hx hdst (by decide) rfl he rfl ⟨Nat.zero_lt_one, trivial⟩ ⟨⟨_, rfl, rfl, rfl⟩, ⟨trivial, trivial, trivial⟩, rfl, trivial⟩ ?_
  rintro y L1 ⟨rfl, rfl⟩ β a w hS
  unfold rsL at hS
  rw [hJ, List.append_nil] at hS
  exact hk β a w hS
end

theorem qL_ship {t : D} {fr di : Int} {ships : Nat → Ship} {ro : Roster} {r : RS} {J : List Ent} {i : Nat} {s : Ship} : qL t fr di (upd ships i s) ro r J =
    .var 35 (stateD nilV zeroS) :: .var 86 (rsD r) :: .var 35 (.st 35 [.st 28 [i64 fr, u64 di, .ar 8 7 fun j => if j = i then shipD s else shipD (ships j), t], rosterD ro]) :: J := by
  simp only [qL, stD, ship_ite]
theorem qL_seat {t : D} {fr di ve : Int} {ships : Nat → Ship} {f : Nat → Seat} {r : RS} {J : List Ent} {i : Nat} {s : Seat} : qL t fr di ships ⟨ve, upd f i s⟩ r J =
    .var 35 (stateD nilV zeroS) :: .var 86 (rsD r) :: .var 35 (.st 35 [.st 28 [i64 fr, u64 di, .ar 8 7 fun j => shipD (ships j), t], .st 33 [i64 ve, .ar 8 2 fun j => if j = i then seatD s else seatD (f j)]]) :: J := by
  simp only [qL, stD, rosterD, seat_ite]
theorem upd_upd {α : Type} {f : Nat → α} {i : Nat} {x y : α} : upd (upd f i x) i y = upd f i y := by
  funext j
  by_cases e : j = i <;> simp [upd, e]
theorem upd_at {α : Type} {f : Nat → α} {i : Nat} {x : α} : upd f i x i = x := by simp [upd]
/-- The blocks while shots are read. -/
def qsh (fr di : Int) (ships : Nat → Ship) (ro : Roster) : Nat → (Nat → Shot) → RS → Nat → List Ent
  | 0, _, s, _ => qL nilSh fr di ships ro s []
  | i + 1, f, s, cap => qL (.os 3 (i + 1) cap) fr di ships ro s [.row 72 6 (i + 1) (fun j => shotD (f j)) cap]

theorem i64w_id {n : Int} (h : -9223372036854775808 ≤ n ∧ n ≤ 9223372036854775807) : i64w n = n := i64_id h
theorem rint1_in {s : RS} (h : Byt s.1) : 0 ≤ (rint 1 s).1 ∧ (rint 1 s).1 ≤ 255 := by
  show 0 ≤ i64w (rnum 1 s).1 ∧ i64w (rnum 1 s).1 ≤ 255
  unfold rnum
  split
  · exact ⟨by decide, by decide⟩
  · obtain ⟨h1, h2⟩ := bn_in h 1
    simp only
    rw [i64w_id (by omega)]
    omega

end Go.CE

/- Contract: a state out of its bytes as the document reads it. -/
namespace Go.CE
open Go.RowKit Go.Proofs

theorem Byt2 {α : Type} {p : RS → α × RS} {q : List Int → Option (α × List Int)} (h : Sim p q) {s : RS} (hs : Byt s.1) {r : α × RS} (e : p s = r) : Byt r.2.1 := by rw [← e]; exact h.byt s hs

set_option maxHeartbeats 1000000 in
theorem c_refGet (l : List Int) (hby : Byt l) : Fun Try.prog T 14 [strD l] fun y => ∃ x, y = .tup [stateD x (rgetB l).1, i64 (rgetB l).2] := by
  refine Con.intro Try.func14 rfl rfl rfl rfl fun G w0 β0 β a w hS => ?_
  refine regS K0 [0, 2] hS rfl rfl trivial fun β a w hS => ?_
  refine regS K0 [2, 4] hS rfl rfl trivial fun β a w hS => ?_
  refine regS K0 [2, 4, 5] hS rfl rfl trivial fun β a w hS => ?_
  have hS : Ste T w0 (pinsOf β0 0 0 G) Try.f14.ntmps [] [(2, .d (.p 0 [])), (4, .d (.p 1 [])), (5, .d (.p 2 []))] [] (qL nilSh 0 0 (fun _ => ship0) ⟨0, fun _ => ⟨0, 0⟩⟩ (l, false) []) β a w := Ste.sub hS ⟨rfl, rfl, rfl, trivial⟩
  have hb0 : Byt ((l, false) : RS).1 := hby
  have hd : qdec l = contR (l, false) qdec := rfl
  have hd : qdec l = contR (l, false) (fun l => bindR (ri 4 l) fun fr l => bindR (rd 8 l) fun di l => bindR (decN qShip ship0 8 l) fun ships l => bindR (ri 1 l) fun n l => qshots fr di ships n l) := hd
  -- frame, dice
  refine wp_seq (regp K0 hS rfl trivial fun β a w hS => ?_)
  refine intQ (b := 4) (by omega) hb0 hS [2, 4, 5] rfl rfl rfl rfl rfl fun β a w hS => ?_
  rw [(Sim.int 4 (by omega)).cont hb0] at hd
  generalize hr1 : rint 4 (l, false) = r1 at hS hd
  have hb1 := Byt2 (Sim.int 4 (by omega)) hb0 hr1
  obtain ⟨fr, s1⟩ := r1
  refine rege K0 [2, 4, 5] hS rfl rfl trivial fun β a w hS => ?_
  have hS : Ste T w0 (pinsOf β0 0 0 G) Try.f14.ntmps [] [(2, .d (.p 0 [])), (4, .d (.p 1 [])), (5, .d (.p 2 []))] [] (qL nilSh fr 0 (fun _ => ship0) ⟨0, fun _ => ⟨0, 0⟩⟩ s1 []) β a w := Ste.sub hS ⟨rfl, rfl, rfl, trivial⟩
  refine wp_seq (regp K0 hS rfl trivial fun β a w hS => ?_)
  refine numQ (b := 8) (by omega) hb1 hS [2, 4, 5] rfl rfl rfl rfl rfl fun β a w hS => ?_
  rw [(Sim.num 8 (by omega)).cont hb1] at hd
  generalize hr2 : rnum 8 s1 = r2 at hS hd
  have hb2 := Byt2 (Sim.num 8 (by omega)) hb1 hr2
  obtain ⟨di, s2⟩ := r2
  refine rege K0 [2, 4, 5] hS rfl rfl trivial fun β a w hS => ?_
  have hS : Ste T w0 (pinsOf β0 0 0 G) Try.f14.ntmps [] [(2, .d (.p 0 [])), (4, .d (.p 1 [])), (5, .d (.p 2 []))] [] (qL nilSh fr di (fun _ => ship0) ⟨0, fun _ => ⟨0, 0⟩⟩ s2 []) β a w := Ste.sub hS ⟨rfl, rfl, rfl, trivial⟩
  clear hr1 hr2
  -- ships
  refine wp_seq ?_
  refine regS K0 [2, 4, 5, 6] hS rfl rfl trivial fun β a w hS => ?_
  refine wp_block ?_
  refine lop (fun q : Nat × (Nat → Ship) × RS => 8 - q.1) (fun q => q.1 ≤ 8 ∧ Loop qShip ship0 s2 q.1 q.2.1 q.2.2 ∧ ∀ j, q.1 ≤ j → q.2.1 j = ship0) (fun q => [(2, .d (.p 0 [])), (4, .d (.p 1 [])), (5, .d (.p 2 [])), (6, .d (i64 q.1))]) (fun q => qL nilSh fr di q.2.1 ⟨0, fun _ => ⟨0, 0⟩⟩ q.2.2 []) (0, fun _ => ship0, s2) ⟨Nat.zero_le _, Loop.zero hb2, fun _ _ => rfl⟩ (Ste.sub hS ⟨rfl, rfl, rfl, rfl, trivial⟩) ?_
  rintro ⟨i, f, s⟩ ⟨hi, hl, hz⟩ β a w hS
  simp only at hi hl hz hS
  refine wp_seq ?_
  refine regS K0 [2, 4, 5, 6, 25] hS rfl rfl trivial fun β a w hS => ?_
  refine cnd hS rfl (fun hlt => wp_skip ?_) (fun hge => wp_exit ?_)
  · have hlt : i < 8 := by have : (i : Int) < 8 := by simpa using hlt
                           omega
    have hbs := hl.1
    have hl2 := hl.step Sim.ship
    refine wp_seq ?_
    refine wp_block ?_
    refine wp_seq (regp K0 hS rfl trivial fun β a w hS => ?_)
    refine intQ (b := 1) (by omega) hbs hS [2, 4, 5, 6] rfl rfl rfl rfl rfl fun β a w hS => ?_
    refine rege K0 [2, 4, 5, 6, 7] hS rfl rfl trivial fun β a w hS => ?_
    refine regS K0 [2, 4, 5, 6, 7] hS rfl rfl trivial fun β a w hS => ?_
    have hS : Ste T w0 (pinsOf β0 0 0 G) Try.f14.ntmps [] [(2, .d (.p 0 [])), (4, .d (.p 1 [])), (5, .d (.p 2 [])), (6, .d (i64 i)), (7, .d (i64 (rflag s).1))] [] (qL nilSh fr di f ⟨0, fun _ => ⟨0, 0⟩⟩ (rflag s).2 []) β a w := Ste.sub hS ⟨rfl, rfl, rfl, rfl, rfl, trivial⟩
    generalize hr3 : rflag s = r3 at hS
    have hb3 := Byt2 Sim.flag hbs hr3
    obtain ⟨c, s3⟩ := r3
    refine wp_seq ?_
    refine regS K0 [2, 4, 5, 6, 42] hS rfl rfl trivial fun β a w hS => ?_
    refine cnd hS rfl (fun h => wp_exit ?_) (fun h => wp_skip ?_)
    · have h : (c != 1) = true := h
      have e : rship s = (ship0, s3) := by simp only [rship, bS, hr3, h, if_true, pS]
      rw [e] at hl2
      refine reg K0 [2, 4, 5, 6] hS rfl rfl trivial fun β a w hS => ?_
      have e2 : upd f i ship0 = f := upd_z (hz i (Nat.le_refl i))
      rw [e2] at hl2
      exact ⟨(i + 1, f, s3), β, ⟨hlt, hl2, fun j hj => hz j (by have hj : i + 1 ≤ j := hj
                                                                omega)⟩, Nat.sub_lt_sub_left hlt (Nat.lt_succ_self i), Ste.sub hS ⟨rfl, rfl, rfl, up8 hlt, trivial⟩⟩
    · have h : (c != 1) = false := h
      refine wp_seq (regp K0 hS rfl trivial fun β a w hS => ?_)
      refine fourQ hb3 hS [2, 4, 5, 6] rfl rfl rfl rfl rfl fun β a w hS => ?_
      generalize hr4 : rfour s3 = r4 at hS
      have hb4 := Byt2 Sim.four hb3 hr4
      obtain ⟨x4, s4⟩ := r4
      refine rege K0 [2, 4, 5, 6, 8] hS rfl rfl trivial fun β a w hS => ?_
      have hS : Ste T w0 (pinsOf β0 0 0 G) Try.f14.ntmps [] [(2, .d (.p 0 [])), (4, .d (.p 1 [])), (5, .d (.p 2 [])), (6, .d (i64 i)), (8, .d (.p 3 []))] [] (qL nilSh fr di f ⟨0, fun _ => ⟨0, 0⟩⟩ s4 [.var 24 (shipD ⟨true, x4, 0, 0, 0, 0, 0⟩)]) β a w := Ste.sub hS ⟨rfl, rfl, rfl, rfl, rfl, trivial⟩
      refine wp_seq (regp K0 hS rfl trivial fun β a w hS => ?_)
      refine fourQ hb4 hS [2, 4, 5, 6, 8] rfl rfl rfl rfl rfl fun β a w hS => ?_
      generalize hr5 : rfour s4 = r5 at hS
      have hb5 := Byt2 Sim.four hb4 hr5
      obtain ⟨x5, s5⟩ := r5
      refine rege K0 [2, 4, 5, 6, 8] hS rfl rfl trivial fun β a w hS => ?_
      have hS : Ste T w0 (pinsOf β0 0 0 G) Try.f14.ntmps [] [(2, .d (.p 0 [])), (4, .d (.p 1 [])), (5, .d (.p 2 [])), (6, .d (i64 i)), (8, .d (.p 3 []))] [] (qL nilSh fr di f ⟨0, fun _ => ⟨0, 0⟩⟩ s5 [.var 24 (shipD ⟨true, x4, x5, 0, 0, 0, 0⟩)]) β a w := Ste.sub hS ⟨rfl, rfl, rfl, rfl, rfl, trivial⟩
      refine wp_seq (regp K0 hS rfl trivial fun β a w hS => ?_)
      refine fourQ hb5 hS [2, 4, 5, 6, 8] rfl rfl rfl rfl rfl fun β a w hS => ?_
      generalize hr6 : rfour s5 = r6 at hS
      have hb6 := Byt2 Sim.four hb5 hr6
      obtain ⟨x6, s6⟩ := r6
      refine rege K0 [2, 4, 5, 6, 8] hS rfl rfl trivial fun β a w hS => ?_
      have hS : Ste T w0 (pinsOf β0 0 0 G) Try.f14.ntmps [] [(2, .d (.p 0 [])), (4, .d (.p 1 [])), (5, .d (.p 2 [])), (6, .d (i64 i)), (8, .d (.p 3 []))] [] (qL nilSh fr di f ⟨0, fun _ => ⟨0, 0⟩⟩ s6 [.var 24 (shipD ⟨true, x4, x5, x6, 0, 0, 0⟩)]) β a w := Ste.sub hS ⟨rfl, rfl, rfl, rfl, rfl, trivial⟩
      refine wp_seq (regp K0 hS rfl trivial fun β a w hS => ?_)
      refine fourQ hb6 hS [2, 4, 5, 6, 8] rfl rfl rfl rfl rfl fun β a w hS => ?_
      generalize hr7 : rfour s6 = r7 at hS
      have hb7 := Byt2 Sim.four hb6 hr7
      obtain ⟨x7, s7⟩ := r7
      refine rege K0 [2, 4, 5, 6, 8] hS rfl rfl trivial fun β a w hS => ?_
      have hS : Ste T w0 (pinsOf β0 0 0 G) Try.f14.ntmps [] [(2, .d (.p 0 [])), (4, .d (.p 1 [])), (5, .d (.p 2 [])), (6, .d (i64 i)), (8, .d (.p 3 []))] [] (qL nilSh fr di f ⟨0, fun _ => ⟨0, 0⟩⟩ s7 [.var 24 (shipD ⟨true, x4, x5, x6, x7, 0, 0⟩)]) β a w := Ste.sub hS ⟨rfl, rfl, rfl, rfl, rfl, trivial⟩
      refine wp_seq (regp K0 hS rfl trivial fun β a w hS => ?_)
      refine intQ (b := 1) (by omega) hb7 hS [2, 4, 5, 6, 8] rfl rfl rfl rfl rfl fun β a w hS => ?_
      generalize hr8 : rint 1 s7 = r8 at hS
      have hb8 := Byt2 (Sim.int 1 (by omega)) hb7 hr8
      obtain ⟨x8, s8⟩ := r8
      refine rege K0 [2, 4, 5, 6, 8] hS rfl rfl trivial fun β a w hS => ?_
      have hS : Ste T w0 (pinsOf β0 0 0 G) Try.f14.ntmps [] [(2, .d (.p 0 [])), (4, .d (.p 1 [])), (5, .d (.p 2 [])), (6, .d (i64 i)), (8, .d (.p 3 []))] [] (qL nilSh fr di f ⟨0, fun _ => ⟨0, 0⟩⟩ s8 [.var 24 (shipD ⟨true, x4, x5, x6, x7, x8, 0⟩)]) β a w := Ste.sub hS ⟨rfl, rfl, rfl, rfl, rfl, trivial⟩
      refine wp_seq (regp K0 hS rfl trivial fun β a w hS => ?_)
      refine intQ (b := 4) (by omega) hb8 hS [2, 4, 5, 6, 8] rfl rfl rfl rfl rfl fun β a w hS => ?_
      generalize hr9 : rint 4 s8 = r9 at hS
      obtain ⟨x9, s9⟩ := r9
      refine rege K0 [2, 4, 5, 6, 8] hS rfl rfl trivial fun β a w hS => ?_
      have hS : Ste T w0 (pinsOf β0 0 0 G) Try.f14.ntmps [] [(2, .d (.p 0 [])), (4, .d (.p 1 [])), (5, .d (.p 2 [])), (6, .d (i64 i)), (8, .d (.p 3 []))] [] (qL nilSh fr di f ⟨0, fun _ => ⟨0, 0⟩⟩ s9 [.var 24 (shipD ⟨true, x4, x5, x6, x7, x8, x9⟩)]) β a w := Ste.sub hS ⟨rfl, rfl, rfl, rfl, rfl, trivial⟩
      have e : rship s = (⟨true, x4, x5, x6, x7, x8, x9⟩, s9) := by simp only [rship, bS, hr3, hr4, hr5, hr6, hr7, hr8, hr9, h, Bool.false_eq_true, if_false, pS]
      rw [e] at hl2
      refine reg K0 [2, 4, 5, 6] hS rfl rfl ⟨⟨by omega, by omega⟩, trivial⟩ fun β a w hS => ?_
      refine reg K0 [2, 4, 5, 6] hS rfl rfl trivial fun β a w hS => ?_
      have hS := hS.drop (L1 := [_, _, _]) (J := [_]) rfl (by rw [pinsOf_len]; exact Nat.zero_le _) ⟨trivial, (by show (2 : Nat) < 3; decide), (by show (1 : Nat) < 3; decide), (by show (0 : Nat) < 3; decide), trivial⟩ ⟨Cl.idx _ _ (state_cl _ _), ⟨trivial, trivial, trivial⟩, ⟨⟨trivial, trivial, fun j _ => (by
        show Idx _ (if j = i then _ else _)
        split <;> exact Cl.idx _ _ (ship_cl _)), trivial, trivial⟩, Cl.idx _ _ (roster_cl _), trivial⟩, trivial⟩
      refine ⟨(i + 1, upd f i ⟨true, x4, x5, x6, x7, x8, x9⟩, s9), β, ⟨hlt, hl2, fun j hj => ?_⟩, Nat.sub_lt_sub_left hlt (Nat.lt_succ_self i), ?_⟩
      · have hj : i + 1 ≤ j := hj
        have : j ≠ i := by omega
        simp only [upd, this, if_false]
        exact hz j (by omega)
      · show Ste T w0 _ _ _ _ _ (qL nilSh fr di (upd f i _) ⟨0, fun _ => ⟨0, 0⟩⟩ s9 []) β a w
        rw [qL_ship]
        exact Ste.sub hS ⟨rfl, rfl, rfl, up8 hlt, trivial⟩
  · have hge : i = 8 := by have : ¬ ((i : Int) < 8) := by simpa using hge
                           omega
    subst hge
    rw [hl.2] at hd
    have hb3 := hl.1
    -- shots
    refine wp_seq (regp K0 hS rfl trivial fun β a w hS => ?_)
    refine intQ (b := 1) (by omega) hb3 hS [2, 4, 5] rfl rfl rfl rfl rfl fun β a w hS => ?_
    have hd : qdec l = contR s (fun l => bindR (ri 1 l) fun n l => qshots fr di f n l) := hd
    rw [(Sim.int 1 (by omega)).cont hb3] at hd
    have hn0 := rint1_in hb3
    generalize hr4 : rint 1 s = r4 at hS hd hn0
    have hb4 := Byt2 (Sim.int 1 (by omega)) hb3 hr4
    obtain ⟨n0, s4⟩ := r4
    simp only at hn0
    refine rege K0 [2, 4, 5, 9] hS rfl rfl trivial fun β a w hS => ?_
    -- shots
    refine wp_seq ?_
    refine regS K0 [2, 4, 5, 9, 10] hS rfl rfl trivial fun β a w hS => ?_
    refine wp_block ?_
    refine lop (fun q : Nat × (Nat → Shot) × RS × Nat => n0.toNat - q.1) (fun q => q.1 ≤ n0.toNat ∧ Loop qShot shot0 s4 q.1 q.2.1 q.2.2.1 ∧ (q.1 = 0 → q.2.1 = fun _ => shot0)) (fun q => [(2, .d (.p 0 [])), (4, .d (.p 1 [])), (5, .d (.p 2 [])), (9, .d (i64 n0)), (10, .d (i64 q.1))]) (fun q => qsh fr di f ⟨0, fun _ => ⟨0, 0⟩⟩ q.1 q.2.1 q.2.2.1 q.2.2.2) (0, fun _ => shot0, s4, 0) ⟨Nat.zero_le _, Loop.zero hb4, fun _ => rfl⟩ (Ste.sub hS ⟨rfl, rfl, rfl, rfl, rfl, trivial⟩) ?_
    rintro ⟨i, g, s, cap⟩ ⟨hi, hl, hg0⟩ β a w hS
    simp only at hi hl hg0 hS
    have hbs := hl.1
    refine wp_seq ?_
    obtain ⟨bad, hbad⟩ : ∃ b, s.2 = b := ⟨_, rfl⟩
    have hS : ∃ L, L = qsh fr di f ⟨0, fun _ => ⟨0, 0⟩⟩ i g s cap ∧ Ste T w0 (pinsOf β0 0 0 G) Try.f14.ntmps [] [(2, .d (.p 0 [])), (4, .d (.p 1 [])), (5, .d (.p 2 [])), (9, .d (i64 n0)), (10, .d (i64 i))] [] L β a w := ⟨_, rfl, hS⟩
    obtain ⟨L, hL, hS⟩ := hS
    obtain ⟨A, B, hLL⟩ : ∃ A B, L = A :: .var 86 (rsD s) :: B := by
      cases i with
      | zero => exact ⟨_, _, hL⟩
      | succ i => exact ⟨_, _, hL⟩
    subst hLL
    refine regS K0 [2, 4, 5, 9, 10, 77] hS rfl rfl trivial fun β a w hS => ?_
    rw [hL] at hS
    refine cnd hS rfl (fun hlt => wp_skip ?_) (fun hge => wp_exit ?_)
    · have hlt : (decide ((i : Int) < n0) && !s.2) = true := hlt
      have hlt : i < n0.toNat := by
        simp only [Bool.and_eq_true, decide_eq_true_eq] at hlt
        omega
      have hl2 := hl.step Sim.shot
      refine wp_seq ?_
      refine wp_block ?_
      cases i with
      | zero =>
        have hS : Ste T w0 (pinsOf β0 0 0 G) Try.f14.ntmps [] [(2, .d (.p 0 [])), (4, .d (.p 1 [])), (5, .d (.p 2 [])), (9, .d (i64 n0)), (10, .d (i64 (0 : Nat)))] [] (qL nilSh fr di f ⟨0, fun _ => ⟨0, 0⟩⟩ s []) β a w := Ste.sub hS ⟨rfl, rfl, rfl, rfl, rfl, trivial⟩
        refine wp_seq (regp K0 hS rfl trivial fun β a w hS => ?_)
        refine intQ (b := 1) (by omega) hbs hS [2, 4, 5, 9, 10] rfl rfl rfl rfl rfl fun β a w hS => ?_
        generalize hr5 : rint 1 s = r5 at hS
        have hb5 := Byt2 (Sim.int 1 (by omega)) hbs hr5
        obtain ⟨x5, s5⟩ := r5
        refine rege K0 [2, 4, 5, 9, 10, 11] hS rfl rfl trivial fun β a w hS => ?_
        have hS : Ste T w0 (pinsOf β0 0 0 G) Try.f14.ntmps [] [(2, .d (.p 0 [])), (4, .d (.p 1 [])), (5, .d (.p 2 [])), (9, .d (i64 n0)), (10, .d (i64 (0 : Nat))), (11, .d (.p 3 []))] [] (qL nilSh fr di f ⟨0, fun _ => ⟨0, 0⟩⟩ s5 ([.var 72 (shotD ⟨x5, 0, 0, 0, 0, 0⟩)])) β a w := Ste.sub hS ⟨rfl, rfl, rfl, rfl, rfl, rfl, trivial⟩
        refine wp_seq (regp K0 hS rfl trivial fun β a w hS => ?_)
        refine fourQ hb5 hS [2, 4, 5, 9, 10, 11] rfl rfl rfl rfl rfl fun β a w hS => ?_
        generalize hr6 : rfour s5 = r6 at hS
        have hb6 := Byt2 Sim.four hb5 hr6
        obtain ⟨x6, s6⟩ := r6
        refine rege K0 [2, 4, 5, 9, 10, 11] hS rfl rfl trivial fun β a w hS => ?_
        have hS : Ste T w0 (pinsOf β0 0 0 G) Try.f14.ntmps [] [(2, .d (.p 0 [])), (4, .d (.p 1 [])), (5, .d (.p 2 [])), (9, .d (i64 n0)), (10, .d (i64 (0 : Nat))), (11, .d (.p 3 []))] [] (qL nilSh fr di f ⟨0, fun _ => ⟨0, 0⟩⟩ s6 ([.var 72 (shotD ⟨x5, x6, 0, 0, 0, 0⟩)])) β a w := Ste.sub hS ⟨rfl, rfl, rfl, rfl, rfl, rfl, trivial⟩
        refine wp_seq (regp K0 hS rfl trivial fun β a w hS => ?_)
        refine fourQ hb6 hS [2, 4, 5, 9, 10, 11] rfl rfl rfl rfl rfl fun β a w hS => ?_
        generalize hr7 : rfour s6 = r7 at hS
        have hb7 := Byt2 Sim.four hb6 hr7
        obtain ⟨x7, s7⟩ := r7
        refine rege K0 [2, 4, 5, 9, 10, 11] hS rfl rfl trivial fun β a w hS => ?_
        have hS : Ste T w0 (pinsOf β0 0 0 G) Try.f14.ntmps [] [(2, .d (.p 0 [])), (4, .d (.p 1 [])), (5, .d (.p 2 [])), (9, .d (i64 n0)), (10, .d (i64 (0 : Nat))), (11, .d (.p 3 []))] [] (qL nilSh fr di f ⟨0, fun _ => ⟨0, 0⟩⟩ s7 ([.var 72 (shotD ⟨x5, x6, x7, 0, 0, 0⟩)])) β a w := Ste.sub hS ⟨rfl, rfl, rfl, rfl, rfl, rfl, trivial⟩
        refine wp_seq (regp K0 hS rfl trivial fun β a w hS => ?_)
        refine fourQ hb7 hS [2, 4, 5, 9, 10, 11] rfl rfl rfl rfl rfl fun β a w hS => ?_
        generalize hr8 : rfour s7 = r8 at hS
        have hb8 := Byt2 Sim.four hb7 hr8
        obtain ⟨x8, s8⟩ := r8
        refine rege K0 [2, 4, 5, 9, 10, 11] hS rfl rfl trivial fun β a w hS => ?_
        have hS : Ste T w0 (pinsOf β0 0 0 G) Try.f14.ntmps [] [(2, .d (.p 0 [])), (4, .d (.p 1 [])), (5, .d (.p 2 [])), (9, .d (i64 n0)), (10, .d (i64 (0 : Nat))), (11, .d (.p 3 []))] [] (qL nilSh fr di f ⟨0, fun _ => ⟨0, 0⟩⟩ s8 ([.var 72 (shotD ⟨x5, x6, x7, x8, 0, 0⟩)])) β a w := Ste.sub hS ⟨rfl, rfl, rfl, rfl, rfl, rfl, trivial⟩
        refine wp_seq (regp K0 hS rfl trivial fun β a w hS => ?_)
        refine fourQ hb8 hS [2, 4, 5, 9, 10, 11] rfl rfl rfl rfl rfl fun β a w hS => ?_
        generalize hr9 : rfour s8 = r9 at hS
        have hb9 := Byt2 Sim.four hb8 hr9
        obtain ⟨x9, s9⟩ := r9
        refine rege K0 [2, 4, 5, 9, 10, 11] hS rfl rfl trivial fun β a w hS => ?_
        have hS : Ste T w0 (pinsOf β0 0 0 G) Try.f14.ntmps [] [(2, .d (.p 0 [])), (4, .d (.p 1 [])), (5, .d (.p 2 [])), (9, .d (i64 n0)), (10, .d (i64 (0 : Nat))), (11, .d (.p 3 []))] [] (qL nilSh fr di f ⟨0, fun _ => ⟨0, 0⟩⟩ s9 ([.var 72 (shotD ⟨x5, x6, x7, x8, x9, 0⟩)])) β a w := Ste.sub hS ⟨rfl, rfl, rfl, rfl, rfl, rfl, trivial⟩
        refine wp_seq (regp K0 hS rfl trivial fun β a w hS => ?_)
        refine intQ (b := 1) (by omega) hb9 hS [2, 4, 5, 9, 10, 11] rfl rfl rfl rfl rfl fun β a w hS => ?_
        generalize hr10 : rint 1 s9 = r10 at hS
        obtain ⟨x10, s10⟩ := r10
        refine rege K0 [2, 4, 5, 9, 10, 11] hS rfl rfl trivial fun β a w hS => ?_
        have hS : Ste T w0 (pinsOf β0 0 0 G) Try.f14.ntmps [] [(2, .d (.p 0 [])), (4, .d (.p 1 [])), (5, .d (.p 2 [])), (9, .d (i64 n0)), (10, .d (i64 (0 : Nat))), (11, .d (.p 3 []))] [] (qL nilSh fr di f ⟨0, fun _ => ⟨0, 0⟩⟩ s10 ([.var 72 (shotD ⟨x5, x6, x7, x8, x9, x10⟩)])) β a w := Ste.sub hS ⟨rfl, rfl, rfl, rfl, rfl, rfl, trivial⟩
        have e : rshot s = (⟨x5, x6, x7, x8, x9, x10⟩, s10) := by simp only [rshot, bS, hr5, hr6, hr7, hr8, hr9, hr10, pS]
        rw [e] at hl2
        refine regp K0 hS rfl ⟨by decide, trivial⟩ fun β a w hS => ?_
        refine appn K0 hS [2, 4, 5, 9, 10] 1 (fun j => shotD (upd g 0 ⟨x5, x6, x7, x8, x9, x10⟩ j)) rfl rfl rfl rfl rfl rfl rfl rfl rfl rfl (.inr ⟨4, 1, 1, _, 1, rfl, ⟨_, rfl⟩, Nat.le_refl _, fun j hj => ?_⟩) Nat.zero_lt_one (by decide) (by decide) fun cap' β a w hS => ?_
        · have : j = 0 := by omega
          subst this
          rfl
        refine rege K0 [2, 4, 5, 9, 10] hS rfl rfl trivial fun β a w hS => ?_
        refine reg K0 [2, 4, 5, 9, 10] hS rfl rfl trivial fun β a w hS => ?_
        have hS := hS.reidx (L' := qsh fr di f ⟨0, fun _ => ⟨0, 0⟩⟩ 1 (upd g 0 ⟨x5, x6, x7, x8, x9, x10⟩) s10 cap') (env' := [(2, .d (.p 0 [])), (4, .d (.p 1 [])), (5, .d (.p 2 [])), (9, .d (i64 n0)), (10, .d (i64 (1 : Nat)))]) [0, 1, 2, 5] (by decide)
          ⟨⟨_, rfl, rfl, rfl⟩, Cl.idx _ _ (state_cl _ _), rfl, ⟨_, rfl, rfl, rfl⟩, ⟨trivial, trivial, trivial⟩, rfl, ⟨_, rfl, rfl, rfl⟩, ⟨⟨trivial, trivial, fun _ _ => Cl.idx _ _ (ship_cl _), (by show (3 : Nat) < 4; decide), trivial⟩, Cl.idx _ _ (roster_cl _), trivial⟩, rfl, ⟨_, rfl, rfl, rfl, rfl, rfl, fun _ _ => rfl⟩, fun _ _ => Cl.idx _ _ (shot_cl _), rfl, trivial⟩
          ⟨rfl, (by show (0 : Nat) < 4; decide), rfl, (by show (1 : Nat) < 4; decide), rfl, (by show (2 : Nat) < 4; decide), rfl, trivial, rfl, trivial, trivial⟩ (fun k hk => by rw [pinsOf_len] at hk; exact absurd hk (Nat.not_lt_zero _)) (fun j k hj hk => Nat.zero_le _)
        exact ⟨(1, upd g 0 ⟨x5, x6, x7, x8, x9, x10⟩, s10, cap'), _, ⟨hlt, hl2, fun h => by cases h⟩, Nat.sub_lt_sub_left hlt (Nat.lt_succ_self 0), hS⟩
      | succ i =>
        have hS : Ste T w0 (pinsOf β0 0 0 G) Try.f14.ntmps [] [(2, .d (.p 0 [])), (4, .d (.p 1 [])), (5, .d (.p 2 [])), (9, .d (i64 n0)), (10, .d (i64 (i + 1 : Nat)))] [] (qL (.os 3 (i + 1) cap) fr di f ⟨0, fun _ => ⟨0, 0⟩⟩ s [.row 72 6 (i + 1) (fun j => shotD (g j)) cap]) β a w := Ste.sub hS ⟨rfl, rfl, rfl, rfl, rfl, trivial⟩
        refine wp_seq (regp K0 hS rfl trivial fun β a w hS => ?_)
        refine intQ (b := 1) (by omega) hbs hS [2, 4, 5, 9, 10] rfl rfl rfl rfl rfl fun β a w hS => ?_
        generalize hr5 : rint 1 s = r5 at hS
        have hb5 := Byt2 (Sim.int 1 (by omega)) hbs hr5
        obtain ⟨x5, s5⟩ := r5
        refine rege K0 [2, 4, 5, 9, 10, 11] hS rfl rfl trivial fun β a w hS => ?_
        have hS : Ste T w0 (pinsOf β0 0 0 G) Try.f14.ntmps [] [(2, .d (.p 0 [])), (4, .d (.p 1 [])), (5, .d (.p 2 [])), (9, .d (i64 n0)), (10, .d (i64 (i + 1 : Nat))), (11, .d (.p 4 []))] [] (qL (.os 3 (i + 1) cap) fr di f ⟨0, fun _ => ⟨0, 0⟩⟩ s5 (.row 72 6 (i + 1) (fun j => shotD (g j)) cap :: [.var 72 (shotD ⟨x5, 0, 0, 0, 0, 0⟩)])) β a w := Ste.sub hS ⟨rfl, rfl, rfl, rfl, rfl, rfl, trivial⟩
        refine wp_seq (regp K0 hS rfl trivial fun β a w hS => ?_)
        refine fourQ hb5 hS [2, 4, 5, 9, 10, 11] rfl rfl rfl rfl rfl fun β a w hS => ?_
        generalize hr6 : rfour s5 = r6 at hS
        have hb6 := Byt2 Sim.four hb5 hr6
        obtain ⟨x6, s6⟩ := r6
        refine rege K0 [2, 4, 5, 9, 10, 11] hS rfl rfl trivial fun β a w hS => ?_
        have hS : Ste T w0 (pinsOf β0 0 0 G) Try.f14.ntmps [] [(2, .d (.p 0 [])), (4, .d (.p 1 [])), (5, .d (.p 2 [])), (9, .d (i64 n0)), (10, .d (i64 (i + 1 : Nat))), (11, .d (.p 4 []))] [] (qL (.os 3 (i + 1) cap) fr di f ⟨0, fun _ => ⟨0, 0⟩⟩ s6 (.row 72 6 (i + 1) (fun j => shotD (g j)) cap :: [.var 72 (shotD ⟨x5, x6, 0, 0, 0, 0⟩)])) β a w := Ste.sub hS ⟨rfl, rfl, rfl, rfl, rfl, rfl, trivial⟩
        refine wp_seq (regp K0 hS rfl trivial fun β a w hS => ?_)
        refine fourQ hb6 hS [2, 4, 5, 9, 10, 11] rfl rfl rfl rfl rfl fun β a w hS => ?_
        generalize hr7 : rfour s6 = r7 at hS
        have hb7 := Byt2 Sim.four hb6 hr7
        obtain ⟨x7, s7⟩ := r7
        refine rege K0 [2, 4, 5, 9, 10, 11] hS rfl rfl trivial fun β a w hS => ?_
        have hS : Ste T w0 (pinsOf β0 0 0 G) Try.f14.ntmps [] [(2, .d (.p 0 [])), (4, .d (.p 1 [])), (5, .d (.p 2 [])), (9, .d (i64 n0)), (10, .d (i64 (i + 1 : Nat))), (11, .d (.p 4 []))] [] (qL (.os 3 (i + 1) cap) fr di f ⟨0, fun _ => ⟨0, 0⟩⟩ s7 (.row 72 6 (i + 1) (fun j => shotD (g j)) cap :: [.var 72 (shotD ⟨x5, x6, x7, 0, 0, 0⟩)])) β a w := Ste.sub hS ⟨rfl, rfl, rfl, rfl, rfl, rfl, trivial⟩
        refine wp_seq (regp K0 hS rfl trivial fun β a w hS => ?_)
        refine fourQ hb7 hS [2, 4, 5, 9, 10, 11] rfl rfl rfl rfl rfl fun β a w hS => ?_
        generalize hr8 : rfour s7 = r8 at hS
        have hb8 := Byt2 Sim.four hb7 hr8
        obtain ⟨x8, s8⟩ := r8
        refine rege K0 [2, 4, 5, 9, 10, 11] hS rfl rfl trivial fun β a w hS => ?_
        have hS : Ste T w0 (pinsOf β0 0 0 G) Try.f14.ntmps [] [(2, .d (.p 0 [])), (4, .d (.p 1 [])), (5, .d (.p 2 [])), (9, .d (i64 n0)), (10, .d (i64 (i + 1 : Nat))), (11, .d (.p 4 []))] [] (qL (.os 3 (i + 1) cap) fr di f ⟨0, fun _ => ⟨0, 0⟩⟩ s8 (.row 72 6 (i + 1) (fun j => shotD (g j)) cap :: [.var 72 (shotD ⟨x5, x6, x7, x8, 0, 0⟩)])) β a w := Ste.sub hS ⟨rfl, rfl, rfl, rfl, rfl, rfl, trivial⟩
        refine wp_seq (regp K0 hS rfl trivial fun β a w hS => ?_)
        refine fourQ hb8 hS [2, 4, 5, 9, 10, 11] rfl rfl rfl rfl rfl fun β a w hS => ?_
        generalize hr9 : rfour s8 = r9 at hS
        have hb9 := Byt2 Sim.four hb8 hr9
        obtain ⟨x9, s9⟩ := r9
        refine rege K0 [2, 4, 5, 9, 10, 11] hS rfl rfl trivial fun β a w hS => ?_
        have hS : Ste T w0 (pinsOf β0 0 0 G) Try.f14.ntmps [] [(2, .d (.p 0 [])), (4, .d (.p 1 [])), (5, .d (.p 2 [])), (9, .d (i64 n0)), (10, .d (i64 (i + 1 : Nat))), (11, .d (.p 4 []))] [] (qL (.os 3 (i + 1) cap) fr di f ⟨0, fun _ => ⟨0, 0⟩⟩ s9 (.row 72 6 (i + 1) (fun j => shotD (g j)) cap :: [.var 72 (shotD ⟨x5, x6, x7, x8, x9, 0⟩)])) β a w := Ste.sub hS ⟨rfl, rfl, rfl, rfl, rfl, rfl, trivial⟩
        refine wp_seq (regp K0 hS rfl trivial fun β a w hS => ?_)
        refine intQ (b := 1) (by omega) hb9 hS [2, 4, 5, 9, 10, 11] rfl rfl rfl rfl rfl fun β a w hS => ?_
        generalize hr10 : rint 1 s9 = r10 at hS
        obtain ⟨x10, s10⟩ := r10
        refine rege K0 [2, 4, 5, 9, 10, 11] hS rfl rfl trivial fun β a w hS => ?_
        have hS : Ste T w0 (pinsOf β0 0 0 G) Try.f14.ntmps [] [(2, .d (.p 0 [])), (4, .d (.p 1 [])), (5, .d (.p 2 [])), (9, .d (i64 n0)), (10, .d (i64 (i + 1 : Nat))), (11, .d (.p 4 []))] [] (qL (.os 3 (i + 1) cap) fr di f ⟨0, fun _ => ⟨0, 0⟩⟩ s10 (.row 72 6 (i + 1) (fun j => shotD (g j)) cap :: [.var 72 (shotD ⟨x5, x6, x7, x8, x9, x10⟩)])) β a w := Ste.sub hS ⟨rfl, rfl, rfl, rfl, rfl, rfl, trivial⟩
        have e : rshot s = (⟨x5, x6, x7, x8, x9, x10⟩, s10) := by simp only [rshot, bS, hr5, hr6, hr7, hr8, hr9, hr10, pS]
        rw [e] at hl2
        refine regp K0 hS rfl ⟨by decide, trivial⟩ fun β a w hS => ?_
        have hS := hS.forget (k := 2) (d' := stD (.v (.slice (some ⟨β 3, 0, none⟩) (i + 1) cap)) fr di f ⟨0, fun _ => ⟨0, 0⟩⟩) rfl rfl rfl (fun h => ⟨h.1, ⟨h.2.1.1, h.2.1.2.1, h.2.1.2.2.1, h.2.1.2.2.2.1, rfl, trivial⟩, h.2.2⟩)
        have hi2 : i + 1 < 256 := by omega
        refine appo K0 hS [2, 4, 5, 9, 10] 1 (listF [shotD ⟨x5, x6, x7, x8, x9, x10⟩]) (fun j => shotD (upd g (i + 1) ⟨x5, x6, x7, x8, x9, x10⟩ j)) rfl rfl rfl rfl rfl rfl rfl rfl rfl rfl rfl
          (by rw [pinsOf_len]; exact Nat.zero_le _) ?_ ?_ (fun j _ => shot_cl _) (.inr ⟨5, 1, 1, _, 1, rfl, ⟨_, rfl⟩, Nat.le_refl _, fun j hj => rfl⟩) (fun j hj => ?_) (fun j hj => ?_) (fun j hj => ?_) (by simp only [maxLen]; omega) ?_ fun cap' β a w hS => ?_
        · exact ⟨trivial, trivial, (by show (2 : Nat) ≠ 3; decide), (by show (1 : Nat) ≠ 3; decide), (by show (0 : Nat) ≠ 3; decide), trivial⟩
        · exact ⟨.inr (Cl.idx _ _ (state_cl _ _)), .inr ⟨trivial, trivial, trivial⟩, .inr ⟨⟨trivial, trivial, fun _ _ => Cl.idx _ _ (ship_cl _), trivial, trivial⟩, Cl.idx _ _ (roster_cl _), trivial⟩, .inl rfl, .inr (Cl.idx _ _ (shot_cl _)), .inr fun j hj => (by
            have : j = 0 := by omega
            subst this
            exact Cl.idx _ _ (shot_cl _)), trivial⟩
        · have : j = 0 := by omega
          subst this
          exact shot_cl _
        · have : j ≠ i + 1 := by omega
          simp only [upd, this, if_false]
        · have : j = 0 := by omega
          subst this
          simp only [upd, Nat.add_zero, if_true]
          rfl
        · exact Nat.le_trans (Nat.mul_le_mul_right _ (show i + 1 + 1 ≤ 256 by omega)) (by decide)
        refine rege K0 [2, 4, 5, 9, 10] hS rfl rfl trivial fun β a w hS => ?_
        refine reg K0 [2, 4, 5, 9, 10] hS rfl rfl trivial fun β a w hS => ?_
        have hS := hS.drop (L1 := [_, _, _, _]) (J := [_, _]) rfl (by rw [pinsOf_len]; exact Nat.zero_le _) ⟨trivial, trivial, (by show (2 : Nat) < 4; decide), (by show (1 : Nat) < 4; decide), (by show (0 : Nat) < 4; decide), trivial⟩ ⟨Cl.idx _ _ (state_cl _ _), ⟨trivial, trivial, trivial⟩, ⟨⟨trivial, trivial, fun _ _ => Cl.idx _ _ (ship_cl _), Nat.lt_succ_self 3, trivial⟩, Cl.idx _ _ (roster_cl _), trivial⟩, fun _ _ => Cl.idx _ _ (shot_cl _), trivial⟩
        exact ⟨(i + 2, upd g (i + 1) ⟨x5, x6, x7, x8, x9, x10⟩, s10, cap'), _, ⟨hlt, hl2, fun h => by cases h⟩, Nat.sub_lt_sub_left hlt (Nat.lt_succ_self _), Ste.sub hS ⟨rfl, rfl, rfl, rfl, up1d hlt (by simp only [maxLen]; omega), trivial⟩⟩
    · have hge : (decide ((i : Int) < n0) && !s.2) = false := hge
      have hd2 : qdec l = contR s (qvers fr di f i g) := by
        rw [hd]
        show contR s4 (fun l => bindR (decN qShot shot0 n0.toNat l) fun shots l => qvers fr di f n0.toNat shots l) = _
        cases hb : s.2 with
        | true =>
          rw [hl.bad hi hb]
          simp only [contR, hb, if_true]
        | false =>
          rw [hb, Bool.not_false, Bool.and_true, decide_eq_false_iff_not] at hge
          have hge : i = n0.toNat := by omega
          rw [← hge, hl.2]
      obtain ⟨xh, hS⟩ : ∃ xh, Ste T w0 (pinsOf β0 0 0 G) Try.f14.ntmps [] [(2, .d (.p 0 [])), (4, .d (.p 1 [])), (5, .d (.p 2 []))] [] (qL (.sl 6 xh i fun j => shotD (g j)) fr di f ⟨0, fun _ => ⟨0, 0⟩⟩ s []) β a w := by
        cases i with
        | zero =>
          rw [hg0 rfl] at hS ⊢
          exact ⟨nilV, Ste.sub (e := [(2, .d (.p 0 [])), (4, .d (.p 1 [])), (5, .d (.p 2 []))]) hS ⟨rfl, rfl, rfl, trivial⟩⟩
        | succ i =>
          exact ⟨_, hS.freeze (L1 := [_, _, _]) (J := []) rfl (by rw [pinsOf_len]; exact Nat.zero_le _) (fun _ _ => shot_cl _)
            ⟨rfl, Frz.cl _ (state_cl _ _), rfl, ⟨rfl, rfl, rfl, trivial⟩, rfl, ⟨rfl, ⟨rfl, rfl, rfl, ⟨rfl, rfl, fun _ _ => Frz.cl _ (ship_cl _)⟩, .inl ⟨_, rfl, rfl, Nat.le_refl _, rfl, rfl⟩, trivial⟩, Frz.cl _ (roster_cl _), trivial⟩, trivial⟩
            ⟨⟨_, rfl, (by show (0 : Nat) < 3; decide), rfl⟩, ⟨_, rfl, (by show (1 : Nat) < 3; decide), rfl⟩, ⟨_, rfl, (by show (2 : Nat) < 3; decide), rfl⟩, trivial⟩⟩
      -- version
      refine wp_seq (regp K0 hS rfl trivial fun β a w hS => ?_)
      refine intQ (b := 4) (by omega) hbs hS [2, 4, 5] rfl rfl rfl rfl rfl fun β a w hS => ?_
      have hd : qdec l = contR s (fun l => bindR (ri 4 l) fun ve l => qseats fr di f i g ve l) := hd2
      rw [(Sim.int 4 (by omega)).cont hbs] at hd
      generalize hr5 : rint 4 s = r5 at hS hd
      have hb5 := Byt2 (Sim.int 4 (by omega)) hbs hr5
      obtain ⟨ve, s5⟩ := r5
      refine rege K0 [2, 4, 5] hS rfl rfl trivial fun β a w hS => ?_
      have hS : Ste T w0 (pinsOf β0 0 0 G) Try.f14.ntmps [] [(2, .d (.p 0 [])), (4, .d (.p 1 [])), (5, .d (.p 2 []))] [] (qL (.sl 6 xh i fun j => shotD (g j)) fr di f ⟨ve, fun _ => ⟨0, 0⟩⟩ s5 []) β a w := Ste.sub hS ⟨rfl, rfl, rfl, trivial⟩
      -- seats
      refine wp_seq ?_
      refine regS K0 [2, 4, 5, 12] hS rfl rfl trivial fun β a w hS => ?_
      refine wp_block ?_
      refine lop (fun q : Nat × (Nat → Seat) × RS => 8 - q.1) (fun q => q.1 ≤ 8 ∧ Loop qSeat ⟨0, 0⟩ s5 q.1 q.2.1 q.2.2) (fun q => [(2, .d (.p 0 [])), (4, .d (.p 1 [])), (5, .d (.p 2 [])), (12, .d (i64 q.1))]) (fun q => qL (.sl 6 xh i fun j => shotD (g j)) fr di f ⟨ve, q.2.1⟩ q.2.2 []) (0, fun _ => ⟨0, 0⟩, s5) ⟨Nat.zero_le _, Loop.zero hb5⟩ (Ste.sub hS ⟨rfl, rfl, rfl, rfl, trivial⟩) ?_
      rintro ⟨k, q, s⟩ ⟨hk, hl⟩ β a w hS
      simp only at hk hl hS
      have hbs := hl.1
      refine wp_seq ?_
      refine regS K0 [2, 4, 5, 12, 111] hS rfl rfl trivial fun β a w hS => ?_
      refine cnd hS rfl (fun hlt => wp_skip ?_) (fun hge => wp_exit ?_)
      · have hlt : k < 8 := by have : (k : Int) < 8 := by simpa using hlt
                               omega
        have hl2 := hl.step Sim.seat
        refine wp_seq ?_
        refine wp_block ?_
        refine wp_seq (regp K0 hS rfl trivial fun β a w hS => ?_)
        refine intQ (b := 1) (by omega) hbs hS [2, 4, 5, 12, 114] rfl rfl rfl rfl rfl fun β a w hS => ?_
        generalize hr6 : rint 1 s = r6 at hS
        have hb6 := Byt2 (Sim.int 1 (by omega)) hbs hr6
        obtain ⟨x6, s6⟩ := r6
        refine rege K0 [2, 4, 5, 12] hS rfl rfl ⟨⟨by omega, by omega⟩, trivial⟩ fun β a w hS => ?_
        have hS : Ste T w0 (pinsOf β0 0 0 G) Try.f14.ntmps [] [(2, .d (.p 0 [])), (4, .d (.p 1 [])), (5, .d (.p 2 [])), (12, .d (i64 k))] [] (qL (.sl 6 xh i fun j => shotD (g j)) fr di f ⟨ve, upd q k ⟨IntKind.i64.wrap (x6 - 1), (q k).gen⟩⟩ s6 []) β a w := by
          rw [qL_seat]; exact Ste.sub hS ⟨rfl, rfl, rfl, rfl, trivial⟩
        refine regp K0 hS rfl trivial fun β a w hS => ?_
        refine intQ (b := 2) (by omega) hb6 hS [2, 4, 5, 12, 122] rfl rfl rfl rfl rfl fun β a w hS => ?_
        generalize hr7 : rint 2 s6 = r7 at hS
        obtain ⟨x7, s7⟩ := r7
        refine rege K0 [2, 4, 5, 12] hS rfl rfl ⟨⟨by omega, by omega⟩, trivial⟩ fun β a w hS => ?_
        have hS : Ste T w0 (pinsOf β0 0 0 G) Try.f14.ntmps [] [(2, .d (.p 0 [])), (4, .d (.p 1 [])), (5, .d (.p 2 [])), (12, .d (i64 k))] [] (qL (.sl 6 xh i fun j => shotD (g j)) fr di f ⟨ve, upd (upd q k ⟨IntKind.i64.wrap (x6 - 1), (q k).gen⟩) k ⟨((upd q k ⟨IntKind.i64.wrap (x6 - 1), (q k).gen⟩) k).peer, x7⟩⟩ s7 []) β a w := by
          rw [qL_seat]; exact Ste.sub hS ⟨rfl, rfl, rfl, rfl, trivial⟩
        rw [upd_upd, upd_at] at hS
        have e : rseat s = (⟨IntKind.i64.wrap (x6 - 1), x7⟩, s7) := by simp only [rseat, bS, hr6, hr7, pS]
        rw [e] at hl2
        refine reg K0 [2, 4, 5, 12] hS rfl rfl trivial fun β a w hS => ?_
        exact ⟨(k + 1, upd q k ⟨IntKind.i64.wrap (x6 - 1), x7⟩, s7), β, ⟨hlt, hl2⟩, Nat.sub_lt_sub_left hlt (Nat.lt_succ_self k), Ste.sub hS ⟨rfl, rfl, rfl, up8 hlt, trivial⟩⟩
      · have hge : k = 8 := by have : ¬ ((k : Int) < 8) := by simpa using hge
                               omega
        subst hge
        have hd : qdec l = contR s5 (fun l => bindR (decN qSeat ⟨0, 0⟩ 8 l) fun seats l => some (⟨⟨fr, di, f, i, g⟩, ⟨ve, seats⟩⟩, l)) := hd
        rw [hl.2] at hd
        generalize hst : (⟨⟨fr, di, f, i, g⟩, ⟨ve, q⟩⟩ : State) = st at hd
        have hS : Ste T w0 (pinsOf β0 0 0 G) Try.f14.ntmps [] [(2, .d (.p 0 [])), (4, .d (.p 1 [])), (5, .d (.p 2 []))] [] [.var 35 (stateD nilV zeroS), .var 86 (rsD s), .var 35 (stateD xh st)] β a w := by
          rw [← hst]; exact Ste.sub hS ⟨rfl, rfl, rfl, trivial⟩
        refine wp_seq ?_
        refine wp_seq (regp K0 hS rfl trivial fun β a w hS => ?_)
        refine callf e_REnd (c_REnd s) hS [2, 5] [1] rfl rfl rfl rfl rfl (by decide) rfl rfl rfl ⟨Nat.zero_lt_one, trivial⟩ ⟨⟨_, rfl, rfl, rfl⟩, ⟨trivial, trivial, trivial⟩, rfl, trivial⟩ ?_
        rintro y L1 ⟨rfl, rfl⟩ β a w hS
        refine rege KB [2, 5, 136] hS rfl rfl ⟨fun _ => ⟨_, _, rfl⟩, trivial⟩ fun β a w hS => ?_
        refine cnd hS rfl (fun h => ?_) (fun h => wp_skip ?_)
        · have h : (!rend s || !mayStateB st) = true := h
          have hr : rgetB l = (zeroS, 2) := by
            unfold rgetB
            cases hr : rend s with
            | true =>
              rw [hr, Bool.not_true, Bool.false_or] at h
              have h2 : mayStateB st = false := by simpa using h
              have hs := (rend_eq s).1 hr
              subst hs
              have hd : qdec l = some (st, []) := hd
              rw [hd]
              simp only [h2, Bool.false_eq_true, if_false]
            | false =>
              obtain ⟨m, b⟩ := s
              cases b with
              | true =>
                have hd : qdec l = none := hd
                rw [hd]
              | false =>
                have hd : qdec l = some (st, m) := hd
                rw [hd]
                cases m with
                | nil => rw [(rend_eq ([], false)).2 rfl] at hr; cases hr
                | cons _ _ => rfl
          rw [hr]
          refine regS K0 [2, 3] hS rfl rfl trivial fun β a w hS => ?_
          refine wp_ret (fret2 K0 rfl hS rfl rfl rfl rfl ⟨state_cl nilV zeroS, trivial⟩ ⟨nilV, rfl⟩)
        · have h : (!rend s || !mayStateB st) = false := h
          rw [Bool.or_eq_false_iff, Bool.not_eq_false', Bool.not_eq_false'] at h
          have hs := (rend_eq s).1 h.1
          have hr : rgetB l = (st, 0) := by
            subst hs
            have hd : qdec l = some (st, []) := hd
            simp only [rgetB, hd, h.2, if_true]
          rw [hr]
          refine regS K0 [2, 3] hS rfl rfl trivial fun β a w hS => ?_
          refine wp_ret (fret2 K0 rfl hS rfl rfl rfl rfl ⟨state_cl xh st, trivial⟩ ⟨xh, rfl⟩)

end Go.CE

/- Plain: a state's bytes read back; bytes that are read, written again. -/
namespace Go.CE
open Go.RowKit Go.Proofs

/-! ### Numbers -/

theorem nn_div {n : Int} {i : Nat} (hi : i ≤ 8) : nn n i = n / 256 ^ i := by
  rw [nn_shr n i hi]
  have h1 : min (8 * i) (IntKind.u64.bits) = 8 * i := Nat.min_eq_left (by show 8 * i ≤ 64; omega)
  have e : (2 : Int) ^ (8 * i) = 256 ^ i := by rw [Int.pow_mul]; rfl
  simp only [shrI, Int.toNat_natCast, h1, e]
  exact Int.fdiv_eq_ediv_of_nonneg _ (Int.le_of_lt (pow256 i))
theorem by8_mod (n : Int) : by8 n = n % 256 := by rw [by8, IntKind.wrap_u8]
theorem bn_at {l : List Int} {i : Nat} : ∀ n, i < n → ∃ q, bn l n = bn l i + 256 ^ i * (l.getD i 0 + 256 * q)
  | 0, h => absurd h (Nat.not_lt_zero _)
  | n + 1, h => by
    by_cases e : i = n
    · subst e
      exact ⟨0, by rw [bn, Int.mul_zero, Int.add_zero, Int.mul_comm]⟩
    · obtain ⟨q, hq⟩ := bn_at (l := l) (i := i) n (by omega)
      obtain ⟨k, hk⟩ : ∃ k, n = i + 1 + k := ⟨n - (i + 1), by omega⟩
      refine ⟨q + l.getD n 0 * 256 ^ k, ?_⟩
      rw [bn, hq, hk, Int.pow_add, Int.pow_add]
      have e1 : (256 : Int) ^ 1 = 256 := rfl
      rw [e1]
      simp only [Int.mul_add, Int.add_mul, Int.mul_assoc, Int.mul_comm, Int.mul_left_comm, Int.add_assoc]
theorem le_bn {l : List Int} (h : Byt l) {n : Nat} (hn : n ≤ 8) (hl : n ≤ l.length) : ∀ b, b ≤ n → le (bn l n) b = l.take b
  | 0, _ => by simp [le]
  | b + 1, hb => by
    have ih := le_bn h hn hl b (by omega)
    obtain ⟨q, hq⟩ := bn_at (l := l) (i := b) n (by omega)
    obtain ⟨h1, h2⟩ := bn_in h b
    obtain ⟨h3, h4⟩ := Byt.get h b
    have hp := pow256 b
    rw [le_succ, ih, nn_div (by omega), by8_mod, hq]
    have e1 : (bn l b + 256 ^ b * (l.getD b 0 + 256 * q)) / 256 ^ b = l.getD b 0 + 256 * q := by
      rw [Int.add_mul_ediv_left _ _ (by omega), Int.ediv_eq_zero_of_lt h1 h2, Int.zero_add]
    have e2 : (l.getD b 0 + 256 * q) % 256 = l.getD b 0 := by omega
    rw [e1, e2, List.take_add_one, List.getD_eq_getElem?_getD, List.getElem?_eq_getElem (by omega)]
    rfl
theorem getD_app {l r : List Int} {i : Nat} (h : i < l.length) : (l ++ r).getD i 0 = l.getD i 0 := by
  rw [List.getD_eq_getElem?_getD, List.getD_eq_getElem?_getD, List.getElem?_append_left h]
theorem le_get (v : Int) {n i : Nat} (h : i < n) : (le v n).getD i 0 = by8 (nn v i) := by
  simp [le, List.getD_eq_getElem?_getD, h]
theorem bn_le {v : Int} {n : Nat} (hn : n ≤ 8) (r : List Int) : ∀ b, b ≤ n → bn (le v n ++ r) b = v % 256 ^ b
  | 0, _ => by simp [bn, Int.emod_one]
  | b + 1, hb => by
    rw [bn, bn_le hn r b (by omega), getD_app (by rw [le_len]; omega), le_get v (by omega), nn_div (by omega), by8_mod, Int.pow_succ]
    have hp := pow256 b
    have h1 := Int.emod_nonneg v (show (256 : Int) ^ b ≠ 0 by omega)
    have h2 := Int.emod_lt_of_pos v hp
    have h3 : v = 256 ^ b * (v / 256 ^ b) + v % 256 ^ b := (Int.mul_ediv_add_emod v (256 ^ b)).symm
    generalize v / 256 ^ b = q at h3 ⊢
    generalize hm : v % 256 ^ b = m at h1 h2 h3 ⊢
    have h4 : q = 256 * (q / 256) + q % 256 := by omega
    have e : v = (m + (q % 256) * 256 ^ b) + (256 ^ b * 256) * (q / 256) := by
      rw [h3]
      have : (256 : Int) ^ b * q = 256 ^ b * (256 * (q / 256) + q % 256) := by rw [← h4]
      rw [this, Int.mul_add, ← Int.mul_assoc, Int.mul_comm (q % 256)]
      omega
    have h5 : 0 ≤ (q % 256) * 256 ^ b := Int.mul_nonneg (by omega) (Int.le_of_lt hp)
    have h6 : (q % 256) * 256 ^ b ≤ 255 * 256 ^ b := Int.mul_le_mul_of_nonneg_right (by omega) (Int.le_of_lt hp)
    rw [e, Int.add_mul_emod_self_left]
    exact (Int.emod_eq_of_lt (by omega) (by omega)).symm

/-- What is written is what is read. -/
theorem rd_le {v : Int} {n : Nat} (hn : n ≤ 8) (h0 : 0 ≤ v) (h : v < 256 ^ n) {r : List Int} (hr : Byt r) : rd n (le v n ++ r) = some (v, r) := by
  have hl : n ≤ (le v n ++ r).length := by rw [List.length_append, le_len]; omega
  have e : (le v n ++ r).drop n = r := by
    have := List.drop_left (l₁ := le v n) (l₂ := r)
    rwa [le_len] at this
  unfold rd
  rw [if_pos hl, rdN_bn ((Byt.le v n).append hr) n hn, bn_le hn r n (Nat.le_refl n), e, Int.emod_eq_of_lt h0 h]
theorem rd_mod {v : Int} {r : List Int} (hr : Byt r) : rd 8 (le v 8 ++ r) = some (v % 18446744073709551616, r) := by
  have hl : 8 ≤ (le v 8 ++ r).length := by rw [List.length_append, le_len]; omega
  have e : (le v 8 ++ r).drop 8 = r := by
    have := List.drop_left (l₁ := le v 8) (l₂ := r)
    rwa [le_len] at this
  unfold rd
  rw [if_pos hl, rdN_bn ((Byt.le v 8).append hr) 8 (by omega), bn_le (by omega) r 8 (Nat.le_refl 8), e]
  rfl
theorem ri_le {v : Int} {n : Nat} (hn : n ≤ 4) (h0 : 0 ≤ v) (h : v < 256 ^ n) {r : List Int} (hr : Byt r) : ri n (le (IntKind.u64.wrap v) n ++ r) = some (v, r) := by
  have hp : (256 : Int) ^ n ≤ 256 ^ 4 := by
    have h2 : ((256 ^ n : Nat) : Int) ≤ ((256 ^ 4 : Nat) : Int) := Int.ofNat_le.2 (Nat.pow_le_pow_right (n := 256) (by decide) hn)
    simpa using h2
  have h4 : v < 4294967296 := Int.lt_of_lt_of_le h hp
  unfold ri
  rw [u64_id h0 (by omega), rd_le (by omega) h0 h hr]
  simp only [bindR]
  rw [i64w_id (by omega)]
theorem cv_in (a : Int) : 0 ≤ cv a ∧ cv a < 4294967296 := by
  rw [cv, IntKind.wrap_u64, IntKind.wrap_u32]; omega
theorem sgn_cv {a : Int} (h : -2147483648 ≤ a ∧ a ≤ 2147483647) : sgn (cv a) = a := by
  rw [sgn, cv, IntKind.wrap_u64, IntKind.wrap_u32, IntKind.wrap_u32, IntKind.wrap_i32]; omega
theorem cv_sgn {v : Int} (h0 : 0 ≤ v) (h : v < 4294967296) : cv (sgn v) = v := by
  rw [sgn, cv, IntKind.wrap_u64, IntKind.wrap_u32, IntKind.wrap_u32, IntKind.wrap_i32]; omega
theorem rs_le {a : Int} (h : -2147483648 ≤ a ∧ a ≤ 2147483647) {r : List Int} (hr : Byt r) : rs (le (cv a) 4 ++ r) = some (a, r) := by
  obtain ⟨h1, h2⟩ := cv_in a
  have e := rd_le (n := 4) (by omega) h1 (by show _ < (256 : Int) ^ 4; omega) hr
  unfold rd at e
  have hl : 4 ≤ (le (cv a) 4 ++ r).length := by rw [List.length_append, le_len]; omega
  rw [if_pos hl] at e
  simp only [Option.some.injEq, Prod.mk.injEq] at e
  unfold rs
  rw [if_pos hl, e.2]
  have : rdS (le (cv a) 4 ++ r) = sgn (rdN (le (cv a) 4 ++ r) 4) := rfl
  rw [this, e.1, sgn_cv h]

/-- What is read is what is written. -/
theorem rd_put {n : Nat} (hn : n ≤ 8) {l : List Int} (h : Byt l) {v : Int} {r : List Int} (e : rd n l = some (v, r)) : l = le v n ++ r ∧ 0 ≤ v ∧ v < 256 ^ n ∧ Byt r := by
  unfold rd at e
  split at e
  · rename_i hl
    simp only [Option.some.injEq, Prod.mk.injEq] at e
    obtain ⟨rfl, rfl⟩ := e
    obtain ⟨h1, h2⟩ := bn_in h n
    rw [rdN_bn h n hn]
    refine ⟨?_, h1, h2, h.drop n⟩
    rw [le_bn h hn hl n (Nat.le_refl n), List.take_append_drop]
  · cases e
theorem ri_put {n : Nat} (hn : n ≤ 4) {l : List Int} (h : Byt l) {v : Int} {r : List Int} (e : ri n l = some (v, r)) : l = le (IntKind.u64.wrap v) n ++ r ∧ 0 ≤ v ∧ v < 256 ^ n ∧ Byt r := by
  unfold ri at e
  cases hq : rd n l with
  | none => rw [hq] at e; cases e
  | some x =>
    obtain ⟨a, l'⟩ := x
    rw [hq] at e
    simp only [bindR, Option.some.injEq, Prod.mk.injEq] at e
    obtain ⟨e1, rfl⟩ := e
    obtain ⟨p1, p2, p3, p4⟩ := rd_put (by omega) h hq
    have hp : (256 : Int) ^ n ≤ 256 ^ 4 := by
      have h2 : ((256 ^ n : Nat) : Int) ≤ ((256 ^ 4 : Nat) : Int) := Int.ofNat_le.2 (Nat.pow_le_pow_right (n := 256) (by decide) hn)
      simpa using h2
    have h4 : a < 4294967296 := Int.lt_of_lt_of_le p3 hp
    rw [i64w_id (by omega)] at e1
    subst e1
    rw [u64_id p2 (by omega)]
    exact ⟨p1, p2, p3, p4⟩
theorem rs_put {l : List Int} (h : Byt l) {v : Int} {r : List Int} (e : rs l = some (v, r)) : l = le (cv v) 4 ++ r ∧ Byt r := by
  unfold rs at e
  split at e
  · rename_i hl
    simp only [Option.some.injEq, Prod.mk.injEq] at e
    obtain ⟨e1, e2⟩ := e
    obtain ⟨p1, p2, p3, p4⟩ := rd_put (n := 4) (by omega) h (v := rdN l 4) (r := l.drop 4) (by unfold rd; rw [if_pos hl])
    have : rdS l = sgn (rdN l 4) := rfl
    rw [this] at e1
    have p3 : rdN l 4 < 4294967296 := p3
    rw [← e1, ← e2, cv_sgn p2 p3]
    exact ⟨p1, p4⟩
  · cases e

end Go.CE

/- Plain: a state's bytes read back, and bytes that are read, written again. -/
namespace Go.CE
open Go.RowKit Go.Proofs

theorem quad_eq (q : Nat → Int) : quadB q 4 = le (cv (q 0)) 4 ++ (le (cv (q 1)) 4 ++ (le (cv (q 2)) 4 ++ le (cv (q 3)) 4)) := by
  simp only [quadB, List.range_succ, List.range_zero, List.nil_append, List.flatMap_cons, List.flatMap_nil, List.append_nil, List.cons_append]
theorem ship_bytes {s : Ship} (h : s.on = true) : shipB s = le 1 1 ++ (le (cv s.x) 4 ++ (le (cv s.y) 4 ++ (le (cv s.vx) 4 ++ (le (cv s.vy) 4 ++ (le (IntKind.u64.wrap s.cool) 1 ++ le (IntKind.u64.wrap s.score) 4))))) := by
  rw [shipB, if_pos h, quad_eq]
  simp only [shipQ, List.append_assoc]
theorem shot_bytes (s : Shot) : shotB s = le (IntKind.u64.wrap s.owner) 1 ++ (le (cv s.x) 4 ++ (le (cv s.y) 4 ++ (le (cv s.vx) 4 ++ (le (cv s.vy) 4 ++ le (IntKind.u64.wrap s.life) 1)))) := by
  rw [shotB, quad_eq]
  simp only [shotQ, List.append_assoc]

/-- 'bindR' of a step that is known. -/
theorem bindR_eq {α γ : Type} {x : Option (α × List Int)} {a : α} {l : List Int} {k : α → List Int → Option γ} (h : x = some (a, l)) : bindR x k = k a l := by rw [h]; rfl
theorem bindR_inv {α γ : Type} {x : Option (α × List Int)} {k : α → List Int → Option γ} {c : γ} (h : bindR x k = some c) : ∃ a l, x = some (a, l) ∧ k a l = some c := by
  cases x with
  | none => cases h
  | some p => exact ⟨p.1, p.2, rfl, h⟩

structure ShipR (s : Ship) : Prop where
  x : -2147483648 ≤ s.x ∧ s.x ≤ 2147483647
  y : -2147483648 ≤ s.y ∧ s.y ≤ 2147483647
  vx : -2147483648 ≤ s.vx ∧ s.vx ≤ 2147483647
  vy : -2147483648 ≤ s.vy ∧ s.vy ≤ 2147483647
  cool : 0 ≤ s.cool ∧ s.cool < 256
  score : 0 ≤ s.score ∧ s.score < 4294967296
theorem size_in {x m : Int} (hm : 0 ≤ m ∧ m ≤ 1048576) (h : sizeB x m = true) : -1048576 ≤ x ∧ x ≤ 1048576 := by
  simp only [sizeB, Bool.and_eq_true, decide_eq_true_eq] at h
  have : IntKind.i32.wrap (0 - m) = 0 - m := by rw [IntKind.wrap_i32]; omega
  omega
theorem on_in {x : Int} (h : onB x = true) : 0 ≤ x ∧ x < 16777216 := by
  simpa only [onB, Bool.and_eq_true, decide_eq_true_eq, ge_iff_le] using h
theorem ship_r {s : Ship} (h : mayShipB s = true) : (s.on = true ∧ ShipR s) ∨ s = ship0 := by
  unfold mayShipB at h
  split at h
  · rename_i ho
    simp only [Bool.and_eq_true, decide_eq_true_eq] at h
    obtain ⟨⟨⟨⟨⟨⟨⟨h1, h2⟩, h3⟩, h4⟩, h5⟩, h6⟩, h7⟩, h8⟩ := h
    have h1 := on_in h1
    have h2 := on_in h2
    have h3 := size_in (by decide) h3
    have h4 := size_in (by decide) h4
    exact .inl ⟨ho, ⟨by omega, by omega, by omega, by omega, by omega, by omega⟩⟩
  · exact .inr (ship_eqb.1 h)

theorem ship_back {s : Ship} (h : mayShipB s = true) {r : List Int} (hr : Byt r) : qShip (shipB s ++ r) = some (s, r) := by
  have q0 : qflag (le 0 1 ++ r) = some (0, r) := by
    unfold qflag
    rw [bindR_eq (rd_le (v := 0) (n := 1) (by omega) (by omega) (by decide) hr)]
    rfl
  have q1 : ∀ r : List Int, Byt r → qflag (le 1 1 ++ r) = some (1, r) := fun r hr => by
    unfold qflag
    rw [bindR_eq (rd_le (v := 1) (n := 1) (by omega) (by omega) (by decide) hr)]
    rfl
  rcases ship_r h with ⟨ho, hs⟩ | rfl
  · obtain ⟨on, x, y, vx, vy, cool, score⟩ := s
    have ho : on = true := ho
    subst ho
    obtain ⟨h1, h2, h3, h4, h5, h6⟩ := hs
    simp only at h1 h2 h3 h4 h5 h6
    rw [ship_bytes rfl]
    simp only [List.append_assoc]
    have b1 := (Byt.le (IntKind.u64.wrap score) 4).append hr
    have b2 := (Byt.le (IntKind.u64.wrap cool) 1).append b1
    have b3 := (Byt.le (cv vy) 4).append b2
    have b4 := (Byt.le (cv vx) 4).append b3
    have b5 := (Byt.le (cv y) 4).append b4
    have b6 := (Byt.le (cv x) 4).append b5
    unfold qShip
    rw [bindR_eq (q1 _ b6)]
    rw [if_neg (show ¬ ((1 : Int) != 1) = true by decide)]
    rw [bindR_eq (rs_le h1 b5), bindR_eq (rs_le h2 b4), bindR_eq (rs_le h3 b3), bindR_eq (rs_le h4 b2), bindR_eq (ri_le (by omega) h5.1 h5.2 b1), bindR_eq (ri_le (by omega) h6.1 h6.2 hr)]
  · show qShip (le 0 1 ++ r) = _
    unfold qShip
    rw [bindR_eq q0]
    rfl
theorem shot_back {s : Shot} (h : mayShotB s = true) {r : List Int} (hr : Byt r) : qShot (shotB s ++ r) = some (s, r) := by
  simp only [mayShotB, Bool.and_eq_true, decide_eq_true_eq] at h
  obtain ⟨⟨⟨⟨⟨⟨⟨h1, h2⟩, h3⟩, h4⟩, h5⟩, h6⟩, h7⟩, h8⟩ := h
  have h3 := on_in h3
  have h4 := on_in h4
  have h5 := size_in (by decide) h5
  have h6 := size_in (by decide) h6
  obtain ⟨o, x, y, vx, vy, life⟩ := s
  simp only at h1 h2 h3 h4 h5 h6 h7 h8
  rw [shot_bytes]
  simp only [List.append_assoc]
  have b1 := (Byt.le (IntKind.u64.wrap life) 1).append hr
  have b2 := (Byt.le (cv vy) 4).append b1
  have b3 := (Byt.le (cv vx) 4).append b2
  have b4 := (Byt.le (cv y) 4).append b3
  have b5 := (Byt.le (cv x) 4).append b4
  have p1 : (256 : Int) ^ 1 = 256 := rfl
  unfold qShot
  rw [bindR_eq (ri_le (by omega) (by omega) (by omega) b5), bindR_eq (rs_le (by omega) b4), bindR_eq (rs_le (by omega) b3), bindR_eq (rs_le (by omega) b2), bindR_eq (rs_le (by omega) b1), bindR_eq (ri_le (by omega) (by omega) (by omega) hr)]
theorem seat_back {s : Seat} (h : seatA s = false) {r : List Int} (hr : Byt r) : qSeat (seatBy s ++ r) = some (s, r) := by
  obtain ⟨h1, h2, h3, h4⟩ := seatA_no h
  obtain ⟨p, g⟩ := s
  simp only at h1 h2 h3 h4
  have e1 : IntKind.i64.wrap (p + 1) = p + 1 := i64_id (by omega)
  have p1 : (256 : Int) ^ 1 = 256 := rfl
  have p2 : (256 : Int) ^ 2 = 65536 := rfl
  unfold qSeat
  show bindR (ri 1 ((le (IntKind.u64.wrap (IntKind.i64.wrap (p + 1))) 1 ++ le (IntKind.u64.wrap g) 2) ++ r)) _ = _
  rw [e1, List.append_assoc, bindR_eq (ri_le (by omega) (by omega) (by omega) ((Byt.le _ 2).append hr)), bindR_eq (ri_le (by omega) (by omega) (by omega) hr)]
  have e2 : IntKind.i64.wrap (p + 1 - 1) = p := by rw [i64_id (by omega)]; omega
  rw [e2]

def trim {α : Type} (f : Nat → α) (n : Nat) (z : α) (i : Nat) : α := if i < n then f i else z
theorem decN_back {α : Type} {dec : List Int → Option (α × List Int)} {enc : α → List Int} {z : α} {g : Nat → α} (hb : ∀ a, Byt (enc a)) : ∀ n, (∀ i, i < n → ∀ r, Byt r → dec (enc (g i) ++ r) = some (g i, r)) → ∀ r, Byt r → decN dec z n (flat enc g n ++ r) = some (trim g n z, r)
  | 0, _, r, _ => by
    have : trim g 0 z = fun _ => z := by funext j; simp [trim]
    rw [this]
    rfl
  | n + 1, h, r, hr => by
    rw [flat_succ, List.append_assoc, decN, bindR_eq (decN_back hb n (fun i hi => h i (Nat.lt_succ_of_lt hi)) _ ((hb _).append hr)), bindR_eq (h n (Nat.lt_succ_self n) r hr)]
    have : upd (trim g n z) n (g n) = trim g (n + 1) z := by
      funext j
      unfold upd trim
      by_cases e : j = n
      · subst e; simp
      · have : (j < n + 1) = (j < n) := by simp only [eq_iff_iff]; omega
        simp [e, this]
    rw [this]

theorem may_parts {s : State} (h : mayStateB s = true) : (0 ≤ s.game.frame ∧ s.game.frame ≤ 1048576) ∧ s.game.n ≤ 32 ∧ (∀ i, i < 8 → mayShipB (s.game.ships i) = true) ∧ (∀ i, i < s.game.n → mayShotB (s.game.shots i) = true) ∧ (0 ≤ s.roster.version ∧ s.roster.version ≤ 1073741824) ∧ ∀ i, i < 8 → seatA (s.roster.seats i) = false := by
  unfold mayStateB at h
  simp only [Bool.and_eq_true] at h
  obtain ⟨⟨h1, h2⟩, _⟩ := h
  rw [mayGame_eq] at h1
  rw [mayRoster_eq] at h2
  simp only [Bool.and_eq_true, Bool.not_eq_true', Bool.or_eq_false_iff, decide_eq_false_iff_not] at h1 h2
  obtain ⟨⟨⟨a1, a2⟩, a3⟩, a4, a5⟩ := h1
  obtain ⟨⟨b1, b2⟩, b3⟩ := h2
  refine ⟨by omega, by omega, fun i hi => ?_, fun i hi => ?_, by omega, fun i hi => ?_⟩
  · rw [may_ship]; exact all_of a4 hi
  · rw [may_shot]; exact all_of a5 hi
  · have := all_of b3 hi
    simp only [seatOk, seatC, Bool.and_eq_true, Bool.not_eq_true', Bool.or_eq_false_iff] at this
    exact this.1.1

/-- What a state's bytes tell of it. -/
def norm (s : State) : State := ⟨⟨s.game.frame, s.game.dice % 18446744073709551616, trim s.game.ships 8 ship0, s.game.n, trim s.game.shots s.game.n shot0⟩, ⟨s.roster.version, trim s.roster.seats 8 ⟨0, 0⟩⟩⟩
theorem putB_eq (s : State) : putB s = le (IntKind.u64.wrap s.game.frame) 4 ++ (le s.game.dice 8 ++ (flat shipB s.game.ships 8 ++ (le (IntKind.u64.wrap s.game.n) 1 ++ (flat shotB s.game.shots s.game.n ++ (le (IntKind.u64.wrap s.roster.version) 4 ++ flat seatBy s.roster.seats 8))))) := by
  simp only [putB, put3, put2, put1, List.append_assoc]
theorem dec_put {s : State} (h : mayStateB s = true) {r : List Int} (hr : Byt r) : qdec (putB s ++ r) = some (norm s, r) := by
  obtain ⟨h1, h2, h3, h4, h5, h6⟩ := may_parts h
  have b1 := (Byt.flat seatBy_byt s.roster.seats 8).append hr
  have b2 := (Byt.le (IntKind.u64.wrap s.roster.version) 4).append b1
  have b3 := (Byt.flat shotB_byt s.game.shots s.game.n).append b2
  have b4 := (Byt.le (IntKind.u64.wrap (s.game.n : Int)) 1).append b3
  have b5 := (Byt.flat shipB_byt s.game.ships 8).append b4
  have b6 := (Byt.le s.game.dice 8).append b5
  have p1 : (256 : Int) ^ 1 = 256 := rfl
  have p4 : (256 : Int) ^ 4 = 4294967296 := rfl
  rw [putB_eq]
  simp only [List.append_assoc]
  unfold qdec
  rw [bindR_eq (ri_le (by omega) (by omega) (by omega) b6), bindR_eq (rd_mod b5), bindR_eq (decN_back shipB_byt 8 (fun i hi r hr => ship_back (h3 i hi) hr) _ b4), bindR_eq (ri_le (by omega) (by omega) (by omega) b3)]
  unfold qshots
  rw [Int.toNat_natCast, bindR_eq (decN_back shotB_byt _ (fun i hi r hr => shot_back (h4 i hi) hr) _ b2)]
  unfold qvers
  rw [bindR_eq (ri_le (by omega) (by omega) (by omega) b1)]
  unfold qseats
  rw [bindR_eq (decN_back seatBy_byt 8 (fun i hi r hr => seat_back (h6 i hi) hr) _ hr)]
  rfl

/-! ### Written again -/

theorem ship_put {l : List Int} (h : Byt l) {s : Ship} {r : List Int} (e : qShip l = some (s, r)) : l = shipB s ++ r ∧ Byt r := by
  unfold qShip at e
  obtain ⟨c, l1, e1, e2⟩ := bindR_inv e
  unfold qflag at e1
  obtain ⟨c', l1', f1, f2⟩ := bindR_inv e1
  split at f2
  · cases f2
  rename_i hc
  simp only [Option.some.injEq, Prod.mk.injEq] at f2
  obtain ⟨g1, rfl⟩ := f2
  obtain ⟨p1, p2, p3, p4⟩ := rd_put (by omega) h f1
  have p3 : c' < 256 := p3
  rw [i64w_id (by omega)] at g1 hc
  subst g1
  have hc : ¬ c' > 1 := by simpa using hc
  split at e2
  · rename_i hne
    simp only [Option.some.injEq, Prod.mk.injEq] at e2
    obtain ⟨rfl, rfl⟩ := e2
    have hne : c' ≠ 1 := by simpa using hne
    have : c' = 0 := by omega
    subst this
    exact ⟨p1, p4⟩
  · rename_i hne
    have : c' = 1 := by simpa using hne
    subst this
    obtain ⟨x, l2, x1, e2⟩ := bindR_inv e2
    obtain ⟨y, l3, x2, e2⟩ := bindR_inv e2
    obtain ⟨vx, l4, x3, e2⟩ := bindR_inv e2
    obtain ⟨vy, l5, x4, e2⟩ := bindR_inv e2
    obtain ⟨cool, l6, x5, e2⟩ := bindR_inv e2
    obtain ⟨score, l7, x6, e2⟩ := bindR_inv e2
    simp only [Option.some.injEq, Prod.mk.injEq] at e2
    obtain ⟨rfl, rfl⟩ := e2
    obtain ⟨y1, z1⟩ := rs_put p4 x1
    obtain ⟨y2, z2⟩ := rs_put z1 x2
    obtain ⟨y3, z3⟩ := rs_put z2 x3
    obtain ⟨y4, z4⟩ := rs_put z3 x4
    obtain ⟨y5, _, _, z5⟩ := ri_put (by omega) z4 x5
    obtain ⟨y6, _, _, z6⟩ := ri_put (by omega) z5 x6
    refine ⟨?_, z6⟩
    rw [ship_bytes rfl, p1, y1, y2, y3, y4, y5, y6]
    simp only [List.append_assoc]
theorem shot_put {l : List Int} (h : Byt l) {s : Shot} {r : List Int} (e : qShot l = some (s, r)) : l = shotB s ++ r ∧ Byt r := by
  unfold qShot at e
  obtain ⟨o, l1, x0, e2⟩ := bindR_inv e
  obtain ⟨x, l2, x1, e2⟩ := bindR_inv e2
  obtain ⟨y, l3, x2, e2⟩ := bindR_inv e2
  obtain ⟨vx, l4, x3, e2⟩ := bindR_inv e2
  obtain ⟨vy, l5, x4, e2⟩ := bindR_inv e2
  obtain ⟨life, l6, x5, e2⟩ := bindR_inv e2
  simp only [Option.some.injEq, Prod.mk.injEq] at e2
  obtain ⟨rfl, rfl⟩ := e2
  obtain ⟨y0, _, _, z0⟩ := ri_put (by omega) h x0
  obtain ⟨y1, z1⟩ := rs_put z0 x1
  obtain ⟨y2, z2⟩ := rs_put z1 x2
  obtain ⟨y3, z3⟩ := rs_put z2 x3
  obtain ⟨y4, z4⟩ := rs_put z3 x4
  obtain ⟨y5, _, _, z5⟩ := ri_put (by omega) z4 x5
  refine ⟨?_, z5⟩
  rw [shot_bytes, y0, y1, y2, y3, y4, y5]
  simp only [List.append_assoc]
theorem seat_put {l : List Int} (h : Byt l) {s : Seat} {r : List Int} (e : qSeat l = some (s, r)) : l = seatBy s ++ r ∧ Byt r := by
  unfold qSeat at e
  obtain ⟨p, l1, x0, e2⟩ := bindR_inv e
  obtain ⟨g, l2, x1, e2⟩ := bindR_inv e2
  simp only [Option.some.injEq, Prod.mk.injEq] at e2
  obtain ⟨rfl, rfl⟩ := e2
  obtain ⟨y0, q1, q2, z0⟩ := ri_put (by omega) h x0
  obtain ⟨y1, _, _, z1⟩ := ri_put (by omega) z0 x1
  have q2 : p < 256 := q2
  refine ⟨?_, z1⟩
  have e1 : IntKind.i64.wrap (IntKind.i64.wrap (p - 1) + 1) = p := by rw [i64_id (n := p - 1) (by omega), i64_id (by omega)]; omega
  rw [seatBy, e1, y0, y1, List.append_assoc]
theorem flat_congr {α : Type} {enc : α → List Int} {f g : Nat → α} : ∀ n, (∀ i, i < n → f i = g i) → flat enc f n = flat enc g n
  | 0, _ => rfl
  | n + 1, h => by rw [flat_succ, flat_succ, flat_congr n fun i hi => h i (Nat.lt_succ_of_lt hi), h n (Nat.lt_succ_self n)]
theorem decN_put {α : Type} {dec : List Int → Option (α × List Int)} {enc : α → List Int} {z : α} (hd : ∀ l, Byt l → ∀ a r, dec l = some (a, r) → l = enc a ++ r ∧ Byt r) : ∀ n (l : List Int), Byt l → ∀ f r, decN dec z n l = some (f, r) → l = flat enc f n ++ r ∧ Byt r
  | 0, l, h, f, r, e => by
    simp only [decN, Option.some.injEq, Prod.mk.injEq] at e
    obtain ⟨rfl, rfl⟩ := e
    exact ⟨rfl, h⟩
  | n + 1, l, h, f, r, e => by
    unfold decN at e
    obtain ⟨g, l1, x1, e⟩ := bindR_inv e
    obtain ⟨a, l2, x2, e⟩ := bindR_inv e
    simp only [Option.some.injEq, Prod.mk.injEq] at e
    obtain ⟨rfl, rfl⟩ := e
    obtain ⟨y1, z1⟩ := decN_put hd n l h g l1 x1
    obtain ⟨y2, z2⟩ := hd l1 z1 a l2 x2
    refine ⟨?_, z2⟩
    have e1 : flat enc (upd g n a) n = flat enc g n := flat_congr n fun i hi => by
      have : i ≠ n := by omega
      simp [upd, this]
    rw [flat_succ, e1, upd_at, y1, y2, List.append_assoc]
theorem put_dec {l : List Int} (h : Byt l) {s : State} {r : List Int} (e : qdec l = some (s, r)) : l = putB s ++ r ∧ Byt r := by
  unfold qdec at e
  obtain ⟨fr, l1, x1, e⟩ := bindR_inv e
  obtain ⟨di, l2, x2, e⟩ := bindR_inv e
  obtain ⟨ships, l3, x3, e⟩ := bindR_inv e
  obtain ⟨n, l4, x4, e⟩ := bindR_inv e
  unfold qshots at e
  obtain ⟨shots, l5, x5, e⟩ := bindR_inv e
  unfold qvers at e
  obtain ⟨ve, l6, x6, e⟩ := bindR_inv e
  unfold qseats at e
  obtain ⟨seats, l7, x7, e⟩ := bindR_inv e
  simp only [Option.some.injEq, Prod.mk.injEq] at e
  obtain ⟨rfl, rfl⟩ := e
  obtain ⟨y1, _, _, z1⟩ := ri_put (by omega) h x1
  obtain ⟨y2, _, _, z2⟩ := rd_put (by omega) z1 x2
  obtain ⟨y3, z3⟩ := decN_put (enc := shipB) (fun l h a r e => ship_put h e) 8 _ z2 _ _ x3
  obtain ⟨y4, n0, n1, z4⟩ := ri_put (by omega) z3 x4
  obtain ⟨y5, z5⟩ := decN_put (enc := shotB) (fun l h a r e => shot_put h e) _ _ z4 _ _ x5
  obtain ⟨y6, _, _, z6⟩ := ri_put (by omega) z5 x6
  obtain ⟨y7, z7⟩ := decN_put (enc := seatBy) (fun l h a r e => seat_put h e) 8 _ z6 _ _ x7
  refine ⟨?_, z7⟩
  rw [putB_eq]
  simp only
  have en : ((n.toNat : Nat) : Int) = n := by omega
  rw [en]
  simp only [List.append_assoc]
  rw [← y7, ← y6, ← y5, ← y4, ← y3, ← y2, ← y1]

end Go.CE

/- Plain: the program reads a state's bytes as the document does; what is the same. Contracts: the document's Same, Sum. -/
namespace Go.CE
open Go.RowKit Go.Proofs

theorem eqB_eq {l m : List Int} : eqB l m = true ↔ l = m := by
  unfold eqB
  rw [Bool.and_eq_true, decide_eq_true_eq]
  constructor
  · rintro ⟨h1, h2⟩
    refine List.ext_getElem h1 fun i hi hj => ?_
    have := all_of h2 hi
    rw [List.getD_eq_getElem?_getD, List.getD_eq_getElem?_getD, List.getElem?_eq_getElem hi, List.getElem?_eq_getElem hj] at this
    simpa using this
  · rintro rfl
    exact ⟨rfl, all_lt fun j _ => beq_self_eq_true _⟩
theorem ri_rd {n : Nat} {l : List Int} {v : Int} {r : List Int} (e : ri n l = some (v, r)) : ∃ v', rd n l = some (v', r) ∧ i64w v' = v := by
  unfold ri at e
  obtain ⟨a, l', h, e⟩ := bindR_inv e
  simp only [Option.some.injEq, Prod.mk.injEq] at e
  obtain ⟨rfl, rfl⟩ := e
  exact ⟨a, h, rfl⟩
theorem ship_dec {l : List Int} (h : Byt l) {s : Ship} {r : List Int} (e : qShip l = some (s, r)) : decShip l = some (s, r) := by
  unfold qShip at e
  obtain ⟨c, l1, e1, e2⟩ := bindR_inv e
  unfold qflag at e1
  obtain ⟨c', l1', f1, f2⟩ := bindR_inv e1
  split at f2
  · cases f2
  rename_i hc
  simp only [Option.some.injEq, Prod.mk.injEq] at f2
  obtain ⟨g1, rfl⟩ := f2
  obtain ⟨p1, p2, p3, p4⟩ := rd_put (by omega) h f1
  have p3 : c' < 256 := p3
  rw [i64w_id (by omega)] at g1
  subst g1
  unfold decShip
  rw [bindR_eq f1]
  split at e2
  · rename_i hne
    have : ¬ (c' == 1) = true := by simpa using hne
    rw [if_neg this]
    exact e2
  · rename_i hne
    have : (c' == 1) = true := by simpa using hne
    rw [if_pos this]
    obtain ⟨x, l2, x1, e2⟩ := bindR_inv e2
    obtain ⟨y, l3, x2, e2⟩ := bindR_inv e2
    obtain ⟨vx, l4, x3, e2⟩ := bindR_inv e2
    obtain ⟨vy, l5, x4, e2⟩ := bindR_inv e2
    obtain ⟨cool, l6, x5, e2⟩ := bindR_inv e2
    obtain ⟨score, l7, x6, e2⟩ := bindR_inv e2
    obtain ⟨c5, y5, rfl⟩ := ri_rd x5
    obtain ⟨c6, y6, rfl⟩ := ri_rd x6
    rw [bindR_eq x1, bindR_eq x2, bindR_eq x3, bindR_eq x4, bindR_eq y5, bindR_eq y6]
    exact e2
theorem shot_dec {l : List Int} {s : Shot} {r : List Int} (e : qShot l = some (s, r)) : decShot l = some (s, r) := by
  unfold qShot at e
  obtain ⟨o, l1, x0, e2⟩ := bindR_inv e
  obtain ⟨x, l2, x1, e2⟩ := bindR_inv e2
  obtain ⟨y, l3, x2, e2⟩ := bindR_inv e2
  obtain ⟨vx, l4, x3, e2⟩ := bindR_inv e2
  obtain ⟨vy, l5, x4, e2⟩ := bindR_inv e2
  obtain ⟨life, l6, x5, e2⟩ := bindR_inv e2
  obtain ⟨c0, y0, rfl⟩ := ri_rd x0
  obtain ⟨c5, y5, rfl⟩ := ri_rd x5
  unfold decShot
  rw [bindR_eq y0, bindR_eq x1, bindR_eq x2, bindR_eq x3, bindR_eq x4, bindR_eq y5]
  exact e2
theorem seat_dec {l : List Int} {s : Seat} {r : List Int} (e : qSeat l = some (s, r)) : decSeat l = some (s, r) := by
  unfold qSeat at e
  obtain ⟨p, l1, x0, e2⟩ := bindR_inv e
  obtain ⟨g, l2, x1, e2⟩ := bindR_inv e2
  obtain ⟨c0, y0, rfl⟩ := ri_rd x0
  obtain ⟨c1, y1, rfl⟩ := ri_rd x1
  unfold decSeat
  rw [bindR_eq y0, bindR_eq y1]
  exact e2
theorem decN_dec {α : Type} {q p : List Int → Option (α × List Int)} {z : α} (hd : ∀ l, Byt l → ∀ a r, q l = some (a, r) → p l = some (a, r) ∧ Byt r) : ∀ n (l : List Int), Byt l → ∀ f r, decN q z n l = some (f, r) → decN p z n l = some (f, r) ∧ Byt r
  | 0, l, h, f, r, e => by
    have e' := e
    simp only [decN, Option.some.injEq, Prod.mk.injEq] at e'
    exact ⟨e, by rw [← e'.2]; exact h⟩
  | n + 1, l, h, f, r, e => by
    unfold decN at e ⊢
    obtain ⟨g, l1, x1, e⟩ := bindR_inv e
    obtain ⟨a, l2, x2, e⟩ := bindR_inv e
    obtain ⟨y1, z1⟩ := decN_dec hd n l h g l1 x1
    obtain ⟨y2, z2⟩ := hd l1 z1 a l2 x2
    have e' := e
    simp only [Option.some.injEq, Prod.mk.injEq] at e'
    rw [bindR_eq y1, bindR_eq y2]
    exact ⟨e, by rw [← e'.2]; exact z2⟩
theorem dec_dec {l : List Int} (h : Byt l) {s : State} {r : List Int} (e : qdec l = some (s, r)) : decode l = some s := by
  unfold qdec at e
  obtain ⟨fr, l1, x1, e⟩ := bindR_inv e
  obtain ⟨di, l2, x2, e⟩ := bindR_inv e
  obtain ⟨ships, l3, x3, e⟩ := bindR_inv e
  obtain ⟨n, l4, x4, e⟩ := bindR_inv e
  unfold qshots at e
  obtain ⟨shots, l5, x5, e⟩ := bindR_inv e
  unfold qvers at e
  obtain ⟨ve, l6, x6, e⟩ := bindR_inv e
  unfold qseats at e
  obtain ⟨seats, l7, x7, e⟩ := bindR_inv e
  simp only [Option.some.injEq, Prod.mk.injEq] at e
  obtain ⟨rfl, rfl⟩ := e
  obtain ⟨_, _, _, z1⟩ := ri_put (by omega) h x1
  obtain ⟨_, _, _, z2⟩ := rd_put (by omega) z1 x2
  obtain ⟨y3, z3⟩ := decN_dec (p := decShip) (fun l h a r e => ⟨ship_dec h e, (ship_put h e).2⟩) 8 _ z2 _ _ x3
  obtain ⟨_, _, _, z4⟩ := ri_put (by omega) z3 x4
  obtain ⟨y5, z5⟩ := decN_dec (p := decShot) (fun l h a r e => ⟨shot_dec e, (shot_put h e).2⟩) _ _ z4 _ _ x5
  obtain ⟨_, _, _, z6⟩ := ri_put (by omega) z5 x6
  obtain ⟨y7, _⟩ := decN_dec (p := decSeat) (fun l h a r e => ⟨seat_dec e, (seat_put h e).2⟩) 8 _ z6 _ _ x7
  obtain ⟨c1, y1, rfl⟩ := ri_rd x1
  obtain ⟨c4, y4, rfl⟩ := ri_rd x4
  obtain ⟨c6, y6, rfl⟩ := ri_rd x6
  obtain ⟨_, q1, q2, _⟩ := rd_put (by omega) z3 y4
  have q2 : c4 < 256 := q2
  rw [i64w_id (n := c4) (by omega)] at y5 ⊢
  unfold decode
  rw [bindR_eq y1, bindR_eq x2, bindR_eq y3, bindR_eq y4, bindR_eq y5, bindR_eq y6, bindR_eq y7]

/-- The program reads as the document does. -/
theorem get_eq {l : List Int} (h : Byt l) : getB l = rgetB l := by
  unfold getB rgetB
  cases hq : qdec l with
  | none =>
    cases hd : decode l with
    | none => rfl
    | some s =>
      simp only
      split
      · rename_i hc
        rw [Bool.and_eq_true] at hc
        have hp := eqB_eq.1 hc.2
        have := dec_put hc.1 (r := []) (fun _ h => by cases h)
        rw [List.append_nil, hp, hq] at this
        cases this
      · rfl
  | some p =>
    obtain ⟨s, r⟩ := p
    rw [dec_dec h hq]
    have hp := (put_dec h hq).1
    cases r with
    | nil =>
      rw [List.append_nil] at hp
      have : eqB (putB s) l = true := eqB_eq.2 hp.symm
      simp only [this, Bool.and_true]
    | cons x r =>
      have : eqB (putB s) l = false := by
        cases he : eqB (putB s) l with
        | false => rfl
        | true =>
          rw [eqB_eq.1 he] at hp
          have := congrArg List.length hp
          simp at this
      simp only [this, Bool.and_false]
      rfl

/-! ### What is the same -/

def shipsD (f : Nat → Ship) : D := .ar 8 7 fun i => shipD (f i)
def sameGameB (a b : Game) : Bool := (!((((a.frame != b.frame) || (a.dice != b.dice)) || !(D.eqb (shipsD a.ships) (shipsD b.ships))) || ((a.n : Int) != b.n))) && (List.range a.n).all fun i => D.eqb (shotD (a.shots i)) (shotD (b.shots i))
def sameB (a b : State) : Bool := sameGameB a.game b.game && D.eqb (rosterD a.roster) (rosterD b.roster)

theorem c_sameGame (x y : Value) (p q : Game) (hn : p.n ≤ maxLen) : Fun Try.prog T 39 [gameD x p, gameD y q] fun z => z = bol (sameGameB p q) := by
  refine Con.intro Try.func39 rfl rfl rfl rfl fun G w0 β0 β a w hS => ?_
  refine regS K0 [2, 3] hS rfl rfl trivial fun β a w hS => ?_
  refine wp_seq ?_
  refine regS K0 [2, 3, 33] hS rfl rfl trivial fun β a w hS => ?_
  refine cnd hS rfl (fun h => ?_) (fun h => wp_skip ?_)
  · have h : ((((p.frame != q.frame) || (p.dice != q.dice)) || !(D.eqb (shipsD p.ships) (shipsD q.ships))) || ((p.n : Int) != q.n)) = true := h
    refine regS K0 [4] hS rfl rfl trivial fun β a w hS => ?_
    refine wp_ret (fret1 K0 rfl hS rfl trivial ?_)
    simp only [sameGameB, h]
    rfl
  have h : ((((p.frame != q.frame) || (p.dice != q.dice)) || !(D.eqb (shipsD p.ships) (shipsD q.ships))) || ((p.n : Int) != q.n)) = false := h
  have hnn : p.n = q.n := by
    simp only [Bool.or_eq_false_iff, bne_eq_false_iff_eq] at h
    omega
  refine wp_seq ?_
  refine regS K0 [2, 3, 5] hS rfl rfl trivial fun β a w hS => ?_
  refine wp_block ?_
  refine lop (fun i : Nat => p.n - i) (fun i => i ≤ p.n ∧ ∀ j, j < i → D.eqb (shotD (p.shots j)) (shotD (q.shots j)) = true) (fun i => [(2, .d (.p 0 [])), (3, .d (.p 1 [])), (5, .d (i64 i))]) (fun _ => [.var 28 (gameD x p), .var 28 (gameD y q)]) 0 ⟨Nat.zero_le _, fun j hj => absurd hj (Nat.not_lt_zero _)⟩ (Ste.sub hS ⟨rfl, rfl, rfl, trivial⟩) ?_
  rintro i ⟨hi, hp⟩ β a w hS
  refine wp_seq ?_
  refine regS K0 [2, 3, 5, 38] hS rfl rfl trivial fun β a w hS => ?_
  refine cnd hS rfl (fun hlt => wp_skip ?_) (fun hge => wp_exit ?_)
  · have hlt : i < p.n := by simpa using hlt
    refine wp_seq ?_
    refine wp_block ?_
    refine regqS K0 [2, 3, 5, 51] (by kernel_rfl) hS rfl rfl ⟨⟨by omega, by omega, rfl⟩, ⟨by omega, by omega, rfl⟩, trivial⟩ fun a w hS => ?_
    refine cnd hS rfl (fun hb => ?_) (fun hb => wp_skip ?_)
    · have hb : D.eqb (shotD (p.shots i)) (shotD (q.shots i)) = false := by
        have hb : (!D.eqb (shotD (p.shots i)) (shotD (q.shots i))) = true := hb
        simpa using hb
      refine regS K0 [4] hS rfl rfl trivial fun β a w hS => ?_
      refine wp_ret (fret1 K0 rfl hS rfl trivial ?_)
      simp only [sameGameB, all_no (p := fun i => D.eqb (shotD (p.shots i)) (shotD (q.shots i))) hlt hb, Bool.and_false]
      rfl
    · have hb : D.eqb (shotD (p.shots i)) (shotD (q.shots i)) = true := by
        have hb : (!D.eqb (shotD (p.shots i)) (shotD (q.shots i))) = false := hb
        simpa using hb
      refine reg K0 [2, 3, 5] hS rfl rfl trivial fun β a w hS => ?_
      exact ⟨i + 1, β, ⟨hlt, fun j hj => by rcases Nat.lt_succ_iff_lt_or_eq.1 hj with h | rfl; exact hp j h; exact hb⟩, Nat.sub_lt_sub_left hlt (Nat.lt_succ_self i), Ste.sub hS ⟨rfl, rfl, up1d hlt hn, trivial⟩⟩
  · have hge : i = p.n := by have : ¬ ((i : Int) < p.n) := by simpa using hge
                             omega
    refine regS K0 [4] hS rfl rfl trivial fun β a w hS => ?_
    refine wp_ret (fret1 K0 rfl hS rfl trivial ?_)
    simp only [sameGameB, h, all_lt (hge ▸ hp)]
    rfl
theorem e_sameGame : Enters Try.prog 39 := enters_of Try.func39 rfl (by kernel_rfl)
def CG : Calls' := fun f ds => match ds with
  | [d, e] => if Nat.beq f 39 then some (bol (sameGameB (unGame d) (unGame e)), .c (∃ x y p q, d = gameD x p ∧ e = gameD y q ∧ p.n ≤ maxLen)) else none
  | _ => none
theorem CG_ok : COk Try.prog T CG := by
  intro f ds d q h hq
  unfold CG at h
  split at h
  · split at h
    · rename_i hf
      have hf := Nat.eq_of_beq_eq_true hf
      subst hf
      simp only [Option.some.injEq, Prod.mk.injEq] at h
      obtain ⟨rfl, rfl⟩ := h
      obtain ⟨x, y, p, q, rfl, rfl, hn⟩ := hq
      exact ⟨e_sameGame, (c_sameGame x y p q hn).pure ⟨game_cl x p, game_cl y q, trivial⟩, fun _ _ => rfl⟩
    · cases h
  · cases h
theorem KG : Kit Try.prog T CG := ⟨tab_ok, zero_ok, CG_ok, mixed⟩
theorem c_same (x y : Value) (p q : State) (hn : p.game.n ≤ maxLen) : Fun Try.prog T 15 [stateD x p, stateD y q] fun z => z = bol (sameB p q) := by
  refine Con.intro Try.func15 rfl rfl rfl rfl fun G w0 β0 β a w hS => ?_
  refine regS K0 [2, 3] hS rfl rfl trivial fun β a w hS => ?_
  refine regS KG [4] hS rfl rfl ⟨⟨_, _, _, _, rfl, rfl, hn⟩, trivial⟩ fun β a w hS => ?_
  exact wp_ret (fret1 K0 rfl hS rfl trivial rfl)
theorem e_same : Enters Try.prog 15 := enters_of Try.func15 rfl (by kernel_rfl)
theorem e_refPut : Enters Try.prog 12 := enters_of Try.func12 rfl (by kernel_rfl)
theorem c_refSum (x : Value) (s : State) : Fun Try.prog T 19 [stateD x s] fun y => y = u64 (if mayStateB s = true then sumB (putB s) else 0) := by
  refine Con.intro Try.func19 rfl rfl rfl rfl fun G w0 β0 β a w hS => ?_
  refine regS K0 [1] hS rfl rfl trivial fun β a w hS => ?_
  refine wp_seq ?_
  refine regS KB [1, 5] hS rfl rfl ⟨⟨_, _, rfl⟩, trivial⟩ fun β a w hS => ?_
  refine cnd hS rfl (fun h => ?_) (fun h => wp_skip ?_)
  · have h : mayStateB s = false := by
      have h : (!mayStateB s) = true := h
      simpa using h
    refine regS K0 [2] hS rfl rfl trivial fun β a w hS => ?_
    refine wp_ret (fret1 K0 rfl hS rfl trivial ?_)
    simp only [h, Bool.false_eq_true, if_false]
    rfl
  · have h : mayStateB s = true := by
      have h : (!mayStateB s) = false := h
      simpa using h
    have hn := may_n h
    refine wp_seq (regp K0 hS rfl trivial fun β a w hS => ?_)
    refine call0 e_refPut (c_refPut x s hn) hS [] rfl rfl rfl rfl rfl ⟨state_cl x s, trivial⟩ rfl ?_
    rintro y rfl β a w hS
    refine call0 e_rseed (c_rseed (bytesOf (putB s)) (by
      rw [bytesOf_size, putB_len]
      have := ons_le s 8
      simp only [maxLen]
      omega)) hS [] rfl rfl rfl rfl rfl ⟨trivial, trivial⟩ rfl ?_
    rintro y rfl β a w hS
    refine rege K0 [2] hS rfl rfl trivial fun β a w hS => ?_
    refine wp_ret (fret1 K0 rfl hS rfl trivial ?_)
    simp only [h, if_true, sumB, bytesOf_size]
theorem e_refSum : Enters Try.prog 19 := enters_of Try.func19 rfl (by kernel_rfl)
theorem e_refGet : Enters Try.prog 14 := enters_of Try.func14 rfl (by kernel_rfl)

end Go.CE

/- A small program logic, thirty-second text: an argument that can be read, as a tree (no condition: for any program whose types the table tells). -/
namespace Go.CE
open Go.RowKit

variable {P : Program} {T : Tab} {w : World}

/-- Whoever owns nothing. -/
def allD : Dom := ⟨fun _ => True, 0⟩
def TyL (c : Nat → D → Prop) : List (Nat × Nat) → List D → Prop
  | [], [] => True
  | a :: r, d :: q => c a.2 d ∧ TyL c r q
  | _, _ => False
/-- A tree of a type, whose slices read in w. -/
def Ty (T : Tab) (w : World) : Nat → Nat → D → Prop
  | 0, _, _ => False
  | m + 1, t, d => match T t with
    | some ⟨.leaf, _, _, .v (.int k _)⟩ => ∃ n, d = .v (.int k n) ∧ (Lit.int k n).wf = true
    | some ⟨.leaf, _, _, .v (.bool _)⟩ => ∃ b, d = .v (.bool b)
    | some ⟨.leaf, _, _, .v (.string _)⟩ => ∃ s : ByteArray, d = .v (.string s) ∧ s.size ≤ maxLen
    | some ⟨.st fs, _, _, _⟩ => ∃ ds, d = .st t ds ∧ TyL (Ty T w m) fs ds
    | some ⟨.ar n e sz, _, _, _⟩ => ∃ f, d = .ar n sz f ∧ ∀ i, Ty T w m e (f i)
    | some ⟨.sl e sz, _, _, _⟩ => ∃ x n f, d = .sl sz x n f ∧ SlOk T w allD sz x n f ∧ ∀ i, Ty T w m e (f i)
    | _ => False
def tyKL (c : Nat → Bool) : List (Nat × Nat) → Bool
  | [] => true
  | a :: r => c a.2 && tyKL c r
/-- Is it a type whose values are trees? -/
def tyK (T : Tab) : Nat → Nat → Bool
  | 0, _ => false
  | m + 1, t => match T t with
    | some ⟨.leaf, _, _, .v (.int ..)⟩ => true
    | some ⟨.leaf, _, _, .v (.bool _)⟩ => true
    | some ⟨.leaf, _, _, .v (.string _)⟩ => true
    | some ⟨.st fs, _, _, _⟩ => tyKL (tyK T m) fs
    | some ⟨.ar _ e _, _, _, _⟩ => tyK T m e
    | some ⟨.sl e _, _, _, _⟩ => tyK T m e
    | _ => false
def dzL (c : Nat → D) : List (Nat × Nat) → List D
  | [] => []
  | a :: r => c a.2 :: dzL c r
/-- Some tree of a type. -/
def dz (T : Tab) : Nat → Nat → D
  | 0, _ => .v undef
  | m + 1, t => match T t with
    | some ⟨.leaf, _, _, .v (.int k _)⟩ => .v (.int k 0)
    | some ⟨.leaf, _, _, .v (.bool _)⟩ => .v (.bool false)
    | some ⟨.leaf, _, _, .v (.string _)⟩ => .v (.string ⟨#[]⟩)
    | some ⟨.st fs, _, _, _⟩ => .st t (dzL (dz T m) fs)
    | some ⟨.ar n e sz, _, _, _⟩ => .ar n sz fun _ => dz T m e
    | some ⟨.sl e sz, _, _, _⟩ => .sl sz (.slice none 0 0) 0 fun _ => dz T m e
    | _ => .v undef

theorem TyL_of {c : Nat → D → Prop} {b : Nat → Bool} {z : Nat → D} (h : ∀ t, b t = true → c t (z t)) : ∀ fs, tyKL b fs = true → TyL c fs (dzL z fs)
  | [], _ => trivial
  | a :: r, hb => by
    simp only [tyKL, Bool.and_eq_true] at hb
    exact ⟨h _ hb.1, TyL_of h r hb.2⟩
theorem Ty.dz : ∀ (m t : Nat), tyK T m t = true → Ty T w m t (dz T m t)
  | 0, _, h => by cases h
  | m + 1, t, h => by
    unfold tyK at h
    unfold Ty CE.dz
    split at h
    · rename_i sz b k n ht
      try rw [ht]
      exact ⟨0, rfl, by cases k <;> rfl⟩
    · rename_i sz b bb ht
      try rw [ht]
      exact ⟨false, rfl⟩
    · rename_i sz b s ht
      try rw [ht]
      exact ⟨_, rfl, Nat.zero_le _⟩
    · rename_i fs sz b z ht
      try rw [ht]
      exact ⟨_, rfl, TyL_of (fun t ht => Ty.dz m t ht) fs h⟩
    · rename_i n e sz s b z ht
      try rw [ht]
      exact ⟨_, rfl, fun _ => Ty.dz m e h⟩
    · rename_i e sz s b z ht
      try rw [ht]
      exact ⟨_, _, _, rfl, ⟨none, 0, rfl, Nat.le_refl _, Nat.zero_le _, .inl rfl⟩, fun _ => Ty.dz m e h⟩
    · cases h

theorem TyL_ok {c : Nat → D → Prop} (h : ∀ t d, c t d → Ok T w allD d ∧ Cl d ∧ d.size T = sizeT T t) : ∀ (fs : List (Nat × Nat)) (ds : List D), (∀ (f s e : Nat), nth fs f = some (s, e) → sizeT T e = s) → TyL c fs ds → OkL T w allD ds ∧ ClL ds ∧ ds.map (D.size T) = fs.map (·.1)
  | [], [], _, _ => ⟨trivial, trivial, rfl⟩
  | a :: r, d :: q, hs, ht => by
    obtain ⟨h1, h2, h3⟩ := h _ _ ht.1
    obtain ⟨g1, g2, g3⟩ := TyL_ok h r q (fun f s e he => hs (f + 1) s e he) ht.2
    exact ⟨⟨h1, g1⟩, ⟨h2, g2⟩, by simp only [List.map_cons, h3, g3, hs 0 a.1 a.2 rfl]⟩
theorem Ty.ok (hT : TabOk P T) : ∀ (m t : Nat) (d : D), Ty T w m t d → Ok T w allD d ∧ Cl d ∧ d.size T = sizeT T t ∧ d.isAgg = isAggT T t
  | 0, _, _, h => h.elim
  | m + 1, t, d, h => by
    unfold Ty at h
    split at h
    · rename_i sz b k n ht
      obtain ⟨n, rfl, _⟩ := h
      have hd := (hT t _ ht).2
      exact ⟨rfl, trivial, by rw [sizeT_eq ht]; exact hd.1.symm, by simp only [isAggT, ht]; rfl⟩
    · rename_i sz b bb ht
      obtain ⟨n, rfl⟩ := h
      have hd := (hT t _ ht).2
      exact ⟨rfl, trivial, by rw [sizeT_eq ht]; exact hd.1.symm, by simp only [isAggT, ht]; rfl⟩
    · rename_i sz b s ht
      obtain ⟨n, rfl, _⟩ := h
      have hd := (hT t _ ht).2
      exact ⟨rfl, trivial, by rw [sizeT_eq ht]; exact hd.1.symm, by simp only [isAggT, ht]; rfl⟩
    · rename_i fs sz b z ht
      obtain ⟨ds, rfl, hl⟩ := h
      have hd := (hT t _ ht).2
      obtain ⟨e1, ⟨fields, _, _, hf⟩, _⟩ := hd
      obtain ⟨h1, h2, h3⟩ := TyL_ok (fun t d h => ⟨(Ty.ok hT m t d h).1, (Ty.ok hT m t d h).2.1, (Ty.ok hT m t d h).2.2.1⟩) fs ds (fun f s e he => by obtain ⟨_, _, _, _, _, h5, _⟩ := hf f s e he; exact h5) hl
      subst e1
      exact ⟨⟨⟨fs, b, z, ht, h3⟩, h1⟩, h2, rfl, by simp only [isAggT, ht]; rfl⟩
    · rename_i n e sz s b z ht
      obtain ⟨f, rfl, hf⟩ := h
      have hd := (hT t _ ht).2
      exact ⟨fun i hi => ⟨by rw [(Ty.ok hT m e _ (hf i)).2.2.1]; exact hd.2.2.1, (Ty.ok hT m e _ (hf i)).1⟩, fun i _ => (Ty.ok hT m e _ (hf i)).2.1, by rw [sizeT_eq ht]; exact hd.1.symm, by simp only [isAggT, ht]; rfl⟩
    · rename_i e sz s b z ht
      obtain ⟨x, n, f, rfl, hs, hf⟩ := h
      have hd := (hT t _ ht).2
      exact ⟨⟨hs, fun i hi => ⟨by rw [(Ty.ok hT m e _ (hf i)).2.2.1]; exact hd.2.2.1, (Ty.ok hT m e _ (hf i)).1, (Ty.ok hT m e _ (hf i)).2.1⟩⟩, fun i _ => (Ty.ok hT m e _ (hf i)).2.1, by rw [sizeT_eq ht]; exact hd.1.symm, by simp only [isAggT, ht]; rfl⟩
    · exact h.elim

theorem cellsOf_eq (hT : TabOk P T) {t : Nat} {r : Row} (h : T t = some r) : P.cellsOf t = r.size := by
  obtain ⟨i, h1, h2, _⟩ := (hT t r h).1
  simp [Program.cellsOf, h1, h2]

/-- The fields of a struct, one behind the other. -/
theorem open_fields (hT : TabOk P T) {c : Nat → D → Prop} {g : Field → List Value → Prop} {cs : List Value} : ∀ (l : List (Nat × Nat)) (fields : List Field) (o : Nat), fields.length = l.length →
    (∀ (f : Nat) fd s e, fields[f]? = some fd → nth l f = some (s, e) → fd.offset = o + offF l f ∧ fd.type = e ∧ sizeT T e = s) → cs.length = o + sumN l →
    (∀ (f : Nat) fd, fields[f]? = some fd → ∃ D, c fd.type D ∧ D.cells T (fun _ => 0) = (cs.drop fd.offset).take (sizeT T fd.type)) → ∃ ds, TyL c l ds ∧ D.cellsL T (fun _ => 0) ds = cs.drop o
  | [], _, o, _, _, hl, _ => ⟨[], trivial, by simp only [sumN, Nat.add_zero] at hl; simp [D.cellsL, ← hl]⟩
  | (s, e) :: l, [], o, hn, _, _, _ => by simp at hn
  | (s, e) :: l, fd :: fields, o, hn, hf, hl, hc => by
    obtain ⟨h1, h2, h3⟩ := hf 0 fd s e rfl rfl
    obtain ⟨d, k1, k2⟩ := hc 0 fd rfl
    simp only [offF, Nat.add_zero] at h1
    have hsum : sumN ((s, e) :: l) = s + sumN l := rfl
    obtain ⟨ds, g1, g2⟩ := open_fields hT (c := c) (g := g) (cs := cs) l fields (o + s) (by simpa using hn) (fun f fd' s' e' q1 q2 => by
      obtain ⟨p1, p2, p3⟩ := hf (f + 1) fd' s' e' q1 q2
      exact ⟨by rw [p1]; simp only [offF]; omega, p2, p3⟩) (by omega) (fun f fd' q => hc (f + 1) fd' q)
    refine ⟨d :: ds, ⟨h2 ▸ k1, g1⟩, ?_⟩
    simp only [D.cellsL, k2, g2, h1, h2, h3]
    rw [← List.drop_drop]
    exact List.take_append_drop s (cs.drop o)

theorem open_elems {f : Nat → D} {cs : List Value} {sz : Nat} : ∀ (n : Nat), cs.length = n * sz → (∀ i, i < n → (f i).cells T (fun _ => 0) = (cs.drop (i * sz)).take sz) → ((List.range n).flatMap fun i => (f i).cells T (fun _ => 0)) = cs := by
  intro n hl h
  have key : ∀ k, k ≤ n → ((List.range k).flatMap fun i => (f i).cells T (fun _ => 0)) = cs.take (k * sz) := by
    intro k
    induction k with
    | zero => intro _; simp
    | succ k ih =>
      intro hk
      rw [List.range_succ, List.flatMap_append, ih (by omega)]
      simp only [List.flatMap_cons, List.flatMap_nil, List.append_nil]
      rw [h k (by omega), Nat.succ_mul, List.take_add]
  rw [key n (Nat.le_refl _), ← hl, List.take_length]

theorem opened {H : Type} {enc : TypeId × Value → H} {base : Nat} {spare : Nat → Bool} {held : Bool} (hT : TabOk P T) : ∀ (m fuel t : Nat) (cs : List Value) (x : DataW H × List MemPlace), tyK T m t = true →
    DataW.trod enc P w base spare held fuel t cs = some x → ∃ D, Ty T w m t D ∧ D.cells T (fun _ => 0) = cs
  | 0, _, _, _, _, h, _ => by cases h
  | m + 1, fuel, t, cs, x, h, hx => by
    unfold tyK at h
    unfold Ty
    split at h
    · rename_i sz b k n ht
      try rw [ht]
      have hu : P.underlying t = some (.int k) := (hT t _ ht).2.2.2
      obtain ⟨n, rfl, _, hw⟩ := DataW.trod_int hu hx
      exact ⟨_, ⟨n, rfl, hw⟩, rfl⟩
    · rename_i sz b bb ht
      try rw [ht]
      have hu : P.underlying t = some .bool := (hT t _ ht).2.2.2
      obtain ⟨v, rfl, _⟩ := DataW.trod_bool hu hx
      exact ⟨_, ⟨v, rfl⟩, rfl⟩
    · rename_i sz b s ht
      try rw [ht]
      have hu : P.underlying t = some .string := (hT t _ ht).2.2.2
      obtain ⟨v, rfl, _, hs⟩ := DataW.trod_string hu hx
      exact ⟨_, ⟨v, rfl, hs⟩, rfl⟩
    · rename_i fs sz b z ht
      try rw [ht]
      obtain ⟨e1, ⟨fields, hu, hn, hf⟩, _⟩ := (hT t _ ht).2
      obtain ⟨xs, fu, _, _, hl, _, hxs⟩ := DataW.trod_struct hu hx
      rw [cellsOf_eq hT ht] at hl
      simp only at hl
      have hnth : ∀ (f : Nat) fd, fields.toList[f]? = some fd → ∃ s e, nth fs f = some (s, e) ∧ fd.offset = offF fs f ∧ fd.type = e ∧ sizeT T e = s ∧ (T e).isSome = true := fun f fd hfd => by
        have hfl : f < fs.length := by
          have := (List.getElem?_eq_some_iff.1 hfd).1
          rw [← hn]
          simpa using this
        obtain ⟨p, hp⟩ := nth_of_lt fs f hfl
        obtain ⟨fd', q1, _, q2, q3, q4, _, q5⟩ := hf f p.1 p.2 hp
        have : fd = fd' := by
          have : fields.toList[f]? = some fd' := by simpa using q1
          rw [hfd] at this
          exact Option.some.inj this
        subst this
        exact ⟨p.1, p.2, hp, q2, q3, q4, q5⟩
      obtain ⟨ds, g1, g2⟩ := open_fields hT (c := Ty T w m) (g := fun _ _ => True) (cs := cs) fs fields.toList 0 (by simpa using hn) (fun f fd s e q1 q2 => by
          obtain ⟨s', e', p1, p2, p3, p4, _⟩ := hnth f fd q1
          rw [q2] at p1
          cases p1
          exact ⟨by rw [p2, Nat.zero_add], p3, p4⟩) (by rw [hl, Nat.zero_add]; exact e1) (fun f fd q => by
          obtain ⟨s, e, p1, p2, p3, p4, p5⟩ := hnth f fd q
          have h2 := hxs f fd (by simpa using q)
          have hlt : f < xs.length := by
            have := (List.getElem?_eq_some_iff.1 q).1
            simp at this
            omega
          rw [List.getElem?_eq_getElem hlt] at h2
          have hk : tyK T m fd.type = true := by
            rw [p3]
            have : ∀ (l : List (Nat × Nat)) (f : Nat) (s e : Nat), tyKL (tyK T m) l = true → nth l f = some (s, e) → tyK T m e = true := by
              intro l
              induction l with
              | nil => intro f s e _ h; cases h
              | cons a r ih =>
                intro f s e hb hn
                simp only [tyKL, Bool.and_eq_true] at hb
                cases f with
                | zero => simp only [nth, Option.some.injEq] at hn; subst hn; exact hb.1
                | succ f => exact ih f s e hb.2 hn
            exact this fs f s e h p1
          obtain ⟨D, k1, k2⟩ := opened hT m fu fd.type _ _ hk h2
          refine ⟨D, k1, ?_⟩
          rw [k2]
          obtain ⟨r, hr⟩ := Option.isSome_iff_exists.1 p5
          rw [p3, cellsOf_eq hT hr, sizeT_eq hr])
      exact ⟨_, ⟨ds, rfl, g1⟩, by simpa [D.cells] using g2⟩
    · rename_i n e sz s b z ht
      try rw [ht]
      obtain ⟨e1, hu, e2, e3, e4, e5, _⟩ := (hT t _ ht).2
      obtain ⟨xs, fu, _, _, hl, hxl, hxs⟩ := DataW.trod_array hu hx
      obtain ⟨r, hr⟩ := Option.isSome_iff_exists.1 e5
      have hce : P.cellsOf e = sz := by rw [cellsOf_eq hT hr, ← sizeT_eq hr]; exact e2
      rw [cellsOf_eq hT ht] at hl
      simp only at hl
      rw [hce] at hxs
      have hD : ∀ i, ∃ D, Ty T w m e D ∧ (i < n → D.cells T (fun _ => 0) = (cs.drop (i * sz)).take sz) := fun i => by
        by_cases hi : i < n
        · have h2 := hxs i hi
          rw [List.getElem?_eq_getElem (by omega)] at h2
          obtain ⟨D, k1, k2⟩ := opened hT m fu e _ _ h h2
          exact ⟨D, k1, fun _ => k2⟩
        · exact ⟨_, Ty.dz m e h, fun h => absurd h hi⟩
      refine ⟨_, ⟨fun i => Classical.choose (hD i), rfl, fun i => (Classical.choose_spec (hD i)).1⟩, ?_⟩
      simp only [D.cells]
      exact open_elems n (by rw [hl]; exact e1) fun i hi => (Classical.choose_spec (hD i)).2 hi
    · rename_i e sz s b z ht
      try rw [ht]
      obtain ⟨e1, hu, e2, e3, e5⟩ := (hT t _ ht).2
      obtain ⟨r, hr⟩ := Option.isSome_iff_exists.1 e5
      have hce : P.cellsOf e = sz := by rw [cellsOf_eq hT hr, ← sizeT_eq hr]; exact e2
      rcases DataW.trod_slice hu hx with ⟨rfl, _⟩ | ⟨a, len, cap, elems, rest, fu, _, rfl, _, hb, hlc, hcm, hel, hxs, _⟩
      · exact ⟨_, ⟨_, _, _, rfl, ⟨none, 0, rfl, Nat.le_refl _, Nat.zero_le _, .inl rfl⟩, fun _ => Ty.dz m e h⟩, rfl⟩
      · rw [hce] at hxs
        have hD : ∀ i, ∃ D, Ty T w m e D ∧ (i < len → ∃ ce, w.cells? base (a.add (i * sz)) sz = some ce ∧ D.cells T (fun _ => 0) = ce) := fun i => by
          by_cases hi : i < len
          · have h2 := hxs i hi
            rw [List.getElem?_eq_getElem (by omega)] at h2
            obtain ⟨ce, k0, k3⟩ := Option.bind_eq_some_iff.1 h2
            obtain ⟨D, k1, k2⟩ := opened hT m fu e _ _ h k3
            exact ⟨D, k1, fun _ => ⟨ce, k0, k2⟩⟩
          · exact ⟨_, Ty.dz m e h, fun h => absurd h hi⟩
        refine ⟨_, ⟨.slice (some a) len cap, len, fun i => Classical.choose (hD i), rfl, ⟨some a, cap, rfl, hlc, hcm, ?_⟩, fun i => (Classical.choose_spec (hD i)).1⟩, rfl⟩
        by_cases hl0 : len = 0
        · exact .inl hl0
        · right
          obtain ⟨ce0, q1, q2⟩ := (Classical.choose_spec (hD 0)).2 (by omega)
          obtain ⟨_, q3, q4⟩ := World.cells?_some q1
          have q5 := q4 0 e3
          have hne : ce0[0]? = some (ce0[0]'(by omega)) := List.getElem?_eq_getElem _
          rw [hne] at q5
          have hspot := World.cell?_spot q5
          obtain ⟨bk, of, sp⟩ := a
          have hspot : sp = none := by simpa [Addr.add] using hspot
          subst hspot
          have hblk : ∃ cur et fr, w.heap[bk]? = some (.cells cur et fr) := by
            rw [addr_add, addr_add] at q5
            unfold World.cell? at q5
            split at q5
            · rename_i c et fr hh; exact ⟨c, et, fr, hh⟩
            · cases q5
          obtain ⟨cur, et, fr, hh⟩ := hblk
          refine ⟨bk, of, cur, et, fr, rfl, trivial, hh, fun i hi j v hv => ?_⟩
          obtain ⟨ce, p1, p2⟩ := (Classical.choose_spec (hD i)).2 hi
          simp only at hv
          rw [p2] at hv
          obtain ⟨_, p3, p4⟩ := World.cells?_some p1
          have hj : j < sz := by
            have := (List.getElem?_eq_some_iff.1 hv).1
            omega
          have p5 := p4 j hj
          rw [hv] at p5
          rw [addr_add, addr_add] at p5
          simpa [World.cell?, hh] using p5
    · cases h

theorem okw_int {t : Nat} {k : IntKind} {r : Reach} {base : Nat} {v : Value} (hu : P.underlying t = some (.int k)) (hv : Value.okWide P w r base t v) : ∃ y, v.cells = #[y] ∧ v = y := by
  simp only [Value.okWide, hu, Cell.okWide] at hv
  cases v <;> simp_all [Cell.ok, Value.cells]
theorem okw_bool {t : Nat} {r : Reach} {base : Nat} {v : Value} (hu : P.underlying t = some .bool) (hv : Value.okWide P w r base t v) : ∃ y, v.cells = #[y] ∧ v = y := by
  simp only [Value.okWide, hu, Cell.okWide] at hv
  cases v <;> simp_all [Cell.ok, Value.cells]
theorem okw_string {t : Nat} {r : Reach} {base : Nat} {v : Value} (hu : P.underlying t = some .string) (hv : Value.okWide P w r base t v) : ∃ y, v.cells = #[y] ∧ v = y := by
  simp only [Value.okWide, hu, Cell.okWide] at hv
  cases v <;> simp_all [Cell.ok, Value.cells]
theorem okw_slice {t e : Nat} {r : Reach} {base : Nat} {v : Value} (hu : P.underlying t = some (.slice e)) (hv : Value.okWide P w r base t v) : ∃ y, v.cells = #[y] ∧ v = y := by
  simp only [Value.okWide, hu, Cell.okWide] at hv
  cases v <;> simp_all [Cell.ok, Value.cells]

/-- A value's own shape, out of its cells. -/
theorem val_of_cells (hT : TabOk P T) {m t : Nat} {d : D} {v : Value} {r : Reach} {base : Nat} (h : Ty T w m t d) (hv : Value.okWide P w r base t v) (hc : d.cells T (fun _ => 0) = v.cells.toList) : v = d.val T fun _ => 0 := by
  obtain ⟨_, _, _, hag⟩ := h.ok hT
  unfold D.val
  rw [hag]
  cases m with
  | zero => exact h.elim
  | succ m =>
    unfold Ty at h
    have agg : isAggT T t = true → (∃ cs, v = .agg cs) → v = .agg (d.cells T fun _ => 0).toArray := by
      rintro _ ⟨cs, rfl⟩
      rw [hc]
      simp [Value.cells]
    have one : (∃ y, v.cells = #[y] ∧ v = y) → v = (d.cells T fun _ => 0).headD undef := by
      rintro ⟨y, h1, h2⟩
      rw [hc, h1, h2]
      rfl
    split at h
    · rename_i sz b k n ht
      have hu : P.underlying t = some (.int k) := (hT t _ ht).2.2.2
      rw [if_neg (by simp [isAggT, ht])]
      exact one (okw_int hu hv)
    · rename_i sz b bb ht
      have hu : P.underlying t = some .bool := (hT t _ ht).2.2.2
      rw [if_neg (by simp [isAggT, ht])]
      exact one (okw_bool hu hv)
    · rename_i sz b s ht
      have hu : P.underlying t = some .string := (hT t _ ht).2.2.2
      rw [if_neg (by simp [isAggT, ht])]
      exact one (okw_string hu hv)
    · rename_i fs sz b z ht
      obtain ⟨_, ⟨fields, hu, _⟩, _⟩ := (hT t _ ht).2
      have e : isAggT T t = true := by simp [isAggT, ht]
      rw [if_pos e]
      refine agg e ?_
      simp only [Value.okWide, hu] at hv
      obtain ⟨cs, h1, _⟩ := hv
      exact ⟨cs, h1⟩
    · rename_i n e sz s b z ht
      have hu := (hT t _ ht).2.2.1
      have e : isAggT T t = true := by simp [isAggT, ht]
      rw [if_pos e]
      refine agg e ?_
      simp only [Value.okWide, hu] at hv
      obtain ⟨cs, h1, _⟩ := hv
      exact ⟨cs, h1⟩
    · rename_i e sz s b z ht
      have hu : P.underlying t = some (.slice e) := (hT t _ ht).2.2.1
      rw [if_neg (by simp [isAggT, ht])]
      exact one (okw_slice hu hv)
    · exact h.elim

/-- An argument that can be read is a tree. -/
theorem open_arg {H : Type} {enc : TypeId × Value → H} {base : Nat} {spare : Nat → Bool} {held : Bool} (hT : TabOk P T) (m : Nat) {t : Nat} {v : Value} {d : DataW H} {ps : List MemPlace} {r : Reach} {b0 : Nat} (hk : tyK T m t = true) (hv : Value.okWide P w r b0 t v) (h : DataW.Trod enc P w base spare held t v d ps) :
    ∃ D, Ty T w m t D ∧ v = D.val T (fun _ => 0) ∧ Ok T w allD D ∧ Cl D := by
  obtain ⟨fuel, hf⟩ := h
  obtain ⟨D, h1, h2⟩ := opened hT m fuel t _ _ hk hf
  obtain ⟨h3, h4, _⟩ := h1.ok hT
  exact ⟨D, h1, val_of_cells hT h1 hv h2, h3, h4⟩

end Go.CE

/- What the laws' arguments are: states as trees. -/
namespace Go.CE
open Go.RowKit Go.Proofs

def InT (k : IntKind) (n : Int) : Prop := (Lit.int k n).wf = true
theorem InT.i64 {n : Int} (h : InT .i64 n) : -9223372036854775808 ≤ n ∧ n ≤ 9223372036854775807 := by
  simp only [InT, Lit.wf, Bool.and_eq_true, decide_eq_true_eq] at h; exact h
theorem InT.i32 {n : Int} (h : InT .i32 n) : -2147483648 ≤ n ∧ n ≤ 2147483647 := by
  simp only [InT, Lit.wf, Bool.and_eq_true, decide_eq_true_eq] at h; exact h
theorem InT.i8 {n : Int} (h : InT .i8 n) : -128 ≤ n ∧ n ≤ 127 := by
  simp only [InT, Lit.wf, Bool.and_eq_true, decide_eq_true_eq] at h; exact h
theorem InT.u8 {n : Int} (h : InT .u8 n) : 0 ≤ n ∧ n ≤ 255 := by
  simp only [InT, Lit.wf, Bool.and_eq_true, decide_eq_true_eq] at h; exact h
theorem InT.u64 {n : Int} (h : InT .u64 n) : 0 ≤ n ∧ n ≤ 18446744073709551615 := by
  simp only [InT, Lit.wf, Bool.and_eq_true, decide_eq_true_eq] at h; exact h

structure ShipIn (s : Ship) : Prop where
  x : InT .i32 s.x
  y : InT .i32 s.y
  vx : InT .i32 s.vx
  vy : InT .i32 s.vy
  cool : InT .i64 s.cool
  score : InT .i64 s.score
structure ShotIn (s : Shot) : Prop where
  owner : InT .i64 s.owner
  x : InT .i32 s.x
  y : InT .i32 s.y
  vx : InT .i32 s.vx
  vy : InT .i32 s.vy
  life : InT .i64 s.life
structure SeatIn (s : Seat) : Prop where
  peer : InT .i64 s.peer
  gen : InT .i64 s.gen
structure GameIn (g : Game) : Prop where
  frame : InT .i64 g.frame
  dice : InT .u64 g.dice
  ships : ∀ i, ShipIn (g.ships i)
  n : g.n ≤ maxLen
  shots : ∀ i, ShotIn (g.shots i)
structure RosterIn (r : Roster) : Prop where
  version : InT .i64 r.version
  seats : ∀ i, SeatIn (r.seats i)
structure StateIn (s : State) : Prop where
  game : GameIn s.game
  roster : RosterIn s.roster

theorem TyL.cons {c : Nat → D → Prop} {a : Nat × Nat} {r : List (Nat × Nat)} {ds : List D} (h : TyL c (a :: r) ds) : ∃ d q, ds = d :: q ∧ c a.2 d ∧ TyL c r q := by
  cases ds with
  | nil => exact h.elim
  | cons d q => exact ⟨d, q, rfl, h.1, h.2⟩
theorem TyL.nil {c : Nat → D → Prop} {ds : List D} (h : TyL c [] ds) : ds = [] := by
  cases ds with
  | nil => rfl
  | cons d q => exact h.elim

variable {w : World} {m : Nat} {d : D}

theorem ty_ship (h : Ty T w (m + 2) 24 d) : ∃ s, d = shipD s ∧ ShipIn s := by
  obtain ⟨ds, rfl, hq⟩ := (show ∃ ds, d = .st 24 ds ∧ TyL (Ty T w (m + 1)) _ ds from h)
  obtain ⟨_, _, rfl, ⟨b, rfl⟩, q1⟩ := hq.cons
  obtain ⟨_, _, rfl, ⟨x, rfl, hx⟩, q2⟩ := q1.cons
  obtain ⟨_, _, rfl, ⟨y, rfl, hy⟩, q3⟩ := q2.cons
  obtain ⟨_, _, rfl, ⟨vx, rfl, hvx⟩, q4⟩ := q3.cons
  obtain ⟨_, _, rfl, ⟨vy, rfl, hvy⟩, q5⟩ := q4.cons
  obtain ⟨_, _, rfl, ⟨c, rfl, hc⟩, q6⟩ := q5.cons
  obtain ⟨_, _, rfl, ⟨sc, rfl, hsc⟩, q7⟩ := q6.cons
  obtain rfl := q7.nil
  exact ⟨⟨b, x, y, vx, vy, c, sc⟩, rfl, ⟨hx, hy, hvx, hvy, hc, hsc⟩⟩
theorem ty_shot (h : Ty T w (m + 2) 72 d) : ∃ s, d = shotD s ∧ ShotIn s := by
  obtain ⟨ds, rfl, hq⟩ := (show ∃ ds, d = .st 72 ds ∧ TyL (Ty T w (m + 1)) _ ds from h)
  obtain ⟨_, _, rfl, ⟨o, rfl, ho⟩, q1⟩ := hq.cons
  obtain ⟨_, _, rfl, ⟨x, rfl, hx⟩, q2⟩ := q1.cons
  obtain ⟨_, _, rfl, ⟨y, rfl, hy⟩, q3⟩ := q2.cons
  obtain ⟨_, _, rfl, ⟨vx, rfl, hvx⟩, q4⟩ := q3.cons
  obtain ⟨_, _, rfl, ⟨vy, rfl, hvy⟩, q5⟩ := q4.cons
  obtain ⟨_, _, rfl, ⟨l, rfl, hl⟩, q6⟩ := q5.cons
  obtain rfl := q6.nil
  exact ⟨⟨o, x, y, vx, vy, l⟩, rfl, ⟨ho, hx, hy, hvx, hvy, hl⟩⟩
theorem ty_seat (h : Ty T w (m + 2) 30 d) : ∃ s, d = seatD s ∧ SeatIn s := by
  obtain ⟨ds, rfl, hq⟩ := (show ∃ ds, d = .st 30 ds ∧ TyL (Ty T w (m + 1)) _ ds from h)
  obtain ⟨_, _, rfl, ⟨p, rfl, hp⟩, q1⟩ := hq.cons
  obtain ⟨_, _, rfl, ⟨g, rfl, hg⟩, q2⟩ := q1.cons
  obtain rfl := q2.nil
  exact ⟨⟨p, g⟩, rfl, ⟨hp, hg⟩⟩
/-- Elements, each told. -/
theorem ty_all {α : Type} {c : D → Prop} {enc : α → D} {q : α → Prop} {f : Nat → D} (h : ∀ i, c (f i)) (hc : ∀ d, c d → ∃ s, d = enc s ∧ q s) : ∃ g : Nat → α, f = (fun i => enc (g i)) ∧ ∀ i, q (g i) :=
  ⟨fun i => Classical.choose (hc _ (h i)), funext fun i => (Classical.choose_spec (hc _ (h i))).1, fun i => (Classical.choose_spec (hc _ (h i))).2⟩
theorem ty_game (h : Ty T w (m + 4) 28 d) : ∃ x g, d = gameD x g ∧ GameIn g := by
  obtain ⟨ds, rfl, hq⟩ := (show ∃ ds, d = .st 28 ds ∧ TyL (Ty T w (m + 3)) _ ds from h)
  obtain ⟨_, _, rfl, ⟨fr, rfl, hfr⟩, q1⟩ := hq.cons
  obtain ⟨_, _, rfl, ⟨di, rfl, hdi⟩, q2⟩ := q1.cons
  obtain ⟨_, _, rfl, ⟨f, rfl, hf⟩, q3⟩ := q2.cons
  obtain ⟨_, _, rfl, ⟨x, n, g, rfl, hs, hg⟩, q4⟩ := q3.cons
  obtain rfl := q4.nil
  obtain ⟨ships, rfl, hsh⟩ := ty_all hf fun d hd => ty_ship hd
  obtain ⟨shots, rfl, hso⟩ := ty_all hg fun d hd => ty_shot hd
  obtain ⟨a, cap, _, h1, h2, _⟩ := hs
  exact ⟨x, ⟨fr, di, ships, n, shots⟩, rfl, ⟨hfr, hdi, hsh, Nat.le_trans h1 h2, hso⟩⟩
theorem ty_roster (h : Ty T w (m + 4) 33 d) : ∃ r, d = rosterD r ∧ RosterIn r := by
  obtain ⟨ds, rfl, hq⟩ := (show ∃ ds, d = .st 33 ds ∧ TyL (Ty T w (m + 3)) _ ds from h)
  obtain ⟨_, _, rfl, ⟨v, rfl, hv⟩, q1⟩ := hq.cons
  obtain ⟨_, _, rfl, ⟨f, rfl, hf⟩, q2⟩ := q1.cons
  obtain rfl := q2.nil
  obtain ⟨seats, rfl, hs⟩ := ty_all hf fun d hd => ty_seat hd
  exact ⟨⟨v, seats⟩, rfl, ⟨hv, hs⟩⟩
theorem ty_state (h : Ty T w (m + 5) 35 d) : ∃ x s, d = stateD x s ∧ StateIn s := by
  obtain ⟨ds, rfl, hq⟩ := (show ∃ ds, d = .st 35 ds ∧ TyL (Ty T w (m + 4)) _ ds from h)
  obtain ⟨_, _, rfl, h1, q1⟩ := hq.cons
  obtain ⟨_, _, rfl, h2, q2⟩ := q1.cons
  obtain rfl := q2.nil
  obtain ⟨x, g, rfl, hg⟩ := ty_game h1
  obtain ⟨r, rfl, hr⟩ := ty_roster h2
  exact ⟨x, ⟨g, r⟩, rfl, ⟨hg, hr⟩⟩
theorem ty_int (h : Ty T w (m + 1) 3 d) : ∃ n, d = i64 n ∧ InT .i64 n := h
theorem ty_str (h : Ty T w (m + 1) 9 d) : ∃ s : ByteArray, d = .v (.string s) ∧ s.size ≤ maxLen := h

end Go.CE

/- What the laws' arguments are: bytes. -/
namespace Go.CE
open Go.RowKit Go.Proofs
variable {w : World} {m : Nat} {d : D}
theorem ty_byte (h : Ty T w (m + 1) 5 d) : ∃ n, d = .v (.int .u8 n) ∧ InT .u8 n := h
theorem ty_bytes (h : Ty T w (m + 2) 36 d) : ∃ x n g, d = .sl 1 x n g ∧ (∀ i : Nat, ∃ v, g i = .v (.int .u8 v) ∧ InT .u8 v) ∧ n ≤ maxLen := by
  obtain ⟨x, n, g, rfl, hs, hg⟩ := (show ∃ x n g, d = .sl 1 x n g ∧ _ ∧ ∀ i : Nat, Ty T w (m + 1) 5 (g i) from h)
  obtain ⟨a, cap, _, h1, h2, _⟩ := hs
  exact ⟨x, n, g, rfl, fun i => ty_byte (hg i), Nat.le_trans h1 h2⟩
/-- Bytes as a list. -/
theorem bytes_list {n : Nat} {g : Nat → D} (h : ∀ i : Nat, ∃ v, g i = .v (.int .u8 v) ∧ InT .u8 v) : ∃ l : List Int, l.length = n ∧ Byt l ∧ ∀ i, i < n → g i = rowD l i := by
  refine ⟨listOf n g, listOf_len n g, fun v hv => ?_, fun i hi => rowD_listOf hi (by obtain ⟨v, hv, _⟩ := h i; exact ⟨v, hv⟩)⟩
  simp only [listOf, List.mem_map, List.mem_range] at hv
  obtain ⟨i, _, rfl⟩ := hv
  obtain ⟨v, hv, hr⟩ := h i
  rw [hv]
  exact hr.u8
end Go.CE

/- ImageAsks: the walk. -/
namespace Go.CE
open Go.RowKit Go.Proofs

theorem Fun.slx2 {P : Program} {T : Tab} {f sz n : Nat} {x : Value} {g g' : Nat → D} {d : D} {xs : List D} {R : D → Prop} (h : ∀ i, i < n → g i = g' i) (hf : Fun P T f (d :: .sl sz x n g' :: xs) R) : Fun P T f (d :: .sl sz x n g :: xs) R := by
  intro G β w hM ho hg1 hg2
  exact hf G β w hM (fun e he => by
    rcases List.mem_cons.1 he with rfl | he
    · exact ho _ (by simp)
    rcases List.mem_cons.1 he with rfl | he
    · exact Ok.slx h (ho _ (by simp))
    · exact ho e (by simp [he])) hg1 hg2

def CH : Calls' := fun f ds => match ds with
  | [d] => if Nat.beq f 12 then some (strD (putB (unState d)), .c (∃ x s, d = stateD x s ∧ s.game.n ≤ 32)) else
      if Nat.beq f 19 then some (u64 (if mayStateB (unState d) = true then sumB (putB (unState d)) else 0), .c (∃ x s, d = stateD x s)) else CB f [d]
  | [d, e] => if Nat.beq f 15 then some (bol (sameB (unState d) (unState e)), .c (∃ x y p q, d = stateD x p ∧ e = stateD y q ∧ p.game.n ≤ maxLen)) else none
  | ds => CB f ds
theorem CH_ok : COk Try.prog T CH := by
  intro f ds d q h hq
  unfold CH at h
  split at h
  · split at h
    · rename_i hf
      have hf := Nat.eq_of_beq_eq_true hf
      subst hf
      simp only [Option.some.injEq, Prod.mk.injEq] at h
      obtain ⟨rfl, rfl⟩ := h
      obtain ⟨x, s, rfl, hn⟩ := hq
      exact ⟨e_refPut, (c_refPut x s hn).pure ⟨state_cl x s, trivial⟩, fun _ _ => rfl⟩
    · split at h
      · rename_i hf
        have hf := Nat.eq_of_beq_eq_true hf
        subst hf
        simp only [Option.some.injEq, Prod.mk.injEq] at h
        obtain ⟨rfl, rfl⟩ := h
        obtain ⟨x, s, rfl⟩ := hq
        exact ⟨e_refSum, (c_refSum x s).pure ⟨state_cl x s, trivial⟩, fun _ _ => rfl⟩
      · exact CB_ok _ _ _ _ h hq
  · split at h
    · rename_i hf
      have hf := Nat.eq_of_beq_eq_true hf
      subst hf
      simp only [Option.some.injEq, Prod.mk.injEq] at h
      obtain ⟨rfl, rfl⟩ := h
      obtain ⟨x, y, p, q, rfl, rfl, hn⟩ := hq
      exact ⟨e_same, (c_same x y p q hn).pure ⟨state_cl x p, state_cl y q, trivial⟩, fun _ _ => rfl⟩
    · cases h
  · exact CB_ok _ _ _ _ h hq
theorem KH : Kit Try.prog T CH := ⟨tab_ok, zero_ok, CH_ok, mixed⟩

theorem getB_may (l : List Int) : ((getB l).2 = 0 ∧ mayStateB (getB l).1 = true ∧ putB (getB l).1 = l) ∨ getB l = (zeroS, 2) := by
  unfold getB
  cases decode l with
  | none => exact .inr rfl
  | some s =>
    simp only
    split
    · rename_i h
      rw [Bool.and_eq_true] at h
      exact .inl ⟨rfl, h.1, eqB_eq.1 h.2⟩
    · exact .inr rfl
theorem getB_n (l : List Int) : (getB l).1.game.n ≤ 32 := by
  rcases getB_may l with ⟨_, h, _⟩ | h
  · exact may_n h
  · rw [h]; decide
theorem sameB_refl (s : State) : sameB s s = true := by
  have h1 : D.eqb (shipsD s.game.ships) (shipsD s.game.ships) = true := all_lt fun j _ => ship_eqb.2 rfl
  have h2 : (List.range s.game.n).all (fun i => D.eqb (shotD (s.game.shots i)) (shotD (s.game.shots i))) = true := all_lt fun j _ => shot_eqb.2 rfl
  have h3 : D.eqb (rosterD s.roster) (rosterD s.roster) = true := by
    have h4 : D.eqb (.ar 8 2 fun i => seatD (s.roster.seats i)) (.ar 8 2 fun i => seatD (s.roster.seats i)) = true := all_lt fun j _ => seat_eqb.2 rfl
    show (((s.roster.version == s.roster.version)) && (D.eqb (.ar 8 2 fun i => seatD (s.roster.seats i)) (.ar 8 2 fun i => seatD (s.roster.seats i)) && true)) = true
    rw [h4, beq_self_eq_true]
    rfl
  unfold sameB sameGameB
  rw [h1, h2, h3]
  simp

theorem c_imageAsks (x : Value) (s : State) (y : Value) (l : List Int) (hby : Byt l) : Fun Try.prog T 3 [stateD x s, .sl 1 y l.length (rowD l)] fun y => y = bol true := by
  refine Con.intro Try.func3 rfl rfl rfl rfl fun G w0 β0 β a w hS => ?_
  refine regS K0 [1, 2] hS rfl rfl trivial fun β a w hS => ?_
  refine wp_seq ?_
  refine regS KB [1, 2, 19] hS rfl rfl ⟨⟨_, _, rfl⟩, trivial⟩ fun β a w hS => ?_
  refine cnd hS rfl (fun h => ?_) (fun h => wp_skip ?_)
  · refine regS K8 [4] hS rfl rfl trivial fun β a w hS => ?_
    exact wp_ret (fret1 K0 rfl hS rfl trivial rfl)
  have h : (!decide ((s.game.n : Int) ≤ 60) || decide ((l.length : Int) > 900)) = false := h
  have hlen : l.length ≤ 900 := by
    simp only [Bool.or_eq_false_iff, decide_eq_false_iff_not] at h
    omega
  clear h
  refine wp_seq (regp K0 hS rfl trivial fun β a w hS => ?_)
  refine call0 e_put (c_put x s) hS [1, 2] rfl rfl rfl rfl rfl ⟨state_cl _ _, trivial⟩ rfl ?_
  intro z hz β a w hS
  obtain ⟨x', n, g, e, rfl, h1, h2⟩ : ∃ x' n g e, z = .tup [.sl 1 x' n g, i64 e] ∧ (mayStateB s = true → n = (putB s).length ∧ g = rowD (putB s) ∧ e = 0) ∧ (mayStateB s = false → n = 0 ∧ e = 1) := by
    cases hm : mayStateB s with
    | true =>
      simp only [hm, if_true] at hz
      obtain ⟨x', rfl⟩ := hz
      exact ⟨_, _, _, _, rfl, fun _ => ⟨rfl, rfl, rfl⟩, fun h => by cases h⟩
    | false =>
      simp only [hm, Bool.false_eq_true, if_false] at hz
      subst hz
      exact ⟨_, _, _, _, rfl, (fun h => by cases h), fun _ => ⟨rfl, rfl⟩⟩
  refine rege K0 [1, 2, 5, 6] hS rfl rfl trivial fun β a w hS => ?_
  refine join (fun β a w => Ste T w0 (pinsOf β0 0 0 G) Try.f3.ntmps [] [(1, .d (.sl 1 y l.length (rowD l))), (2, .d (.p 0 []))] [] [.var 35 (stateD x s)] β a w) ?_ ?_
  · refine regS KB [1, 2, 5, 6, 27] hS rfl rfl ⟨⟨_, _, rfl⟩, trivial⟩ fun β a w hS => ?_
    refine cnd hS rfl (fun h => ?_) (fun h => ?_)
    · have h : mayStateB s = true := h
      obtain ⟨rfl, rfl, rfl⟩ := h1 h
      refine regqS KH [1, 2, 36] (by kernel_rfl) hS rfl rfl ⟨fun _ => ⟨_, _, rfl, may_n h⟩, fun _ => ⟨rfl, fun i _ => ⟨_, rfl⟩⟩, trivial⟩ fun a w hS => ?_
      refine cnd hS rfl (fun h => ?_) (fun h => wp_skip ?_)
      · have h : (((0 : Int) != 0) || !((bytesOf (putB s)).toList == (bytesOf (putB s)).toList)) = true := h
        rw [beq_self_eq_true] at h
        cases h
      · exact ⟨β, Ste.sub hS ⟨rfl, rfl, trivial⟩⟩
    · have h : mayStateB s = false := h
      obtain ⟨rfl, rfl⟩ := h2 h
      refine regS K0 [1, 2, 43] hS rfl rfl trivial fun β a w hS => ?_
      refine cnd hS rfl (fun h => absurd h (by decide)) (fun h => wp_skip ?_)
      exact ⟨β, Ste.sub hS ⟨rfl, rfl, trivial⟩⟩
  intro β a w hS
  have hgn := getB_n l
  refine wp_seq (regp K0 hS rfl trivial fun β a w hS => ?_)
  refine call0 e_get (c_get y l hby) hS [1, 2] rfl rfl rfl rfl rfl ⟨fun _ _ => trivial, trivial⟩ rfl ?_
  rintro z ⟨x1, rfl⟩ β a w hS
  refine rege K0 [1, 2, 7, 8] hS rfl rfl trivial fun β a w hS => ?_
  refine wp_seq (regp K0 hS rfl ⟨⟨rfl, fun i _ => ⟨_, rfl⟩⟩, trivial⟩ fun β a w hS => ?_)
  refine call0 e_refGet (c_refGet l hby) hS [1, 2, 7, 8] rfl rfl rfl rfl rfl ⟨trivial, trivial⟩ rfl ?_
  rintro z ⟨x2, rfl⟩ β a w hS
  rw [← get_eq hby] at hS
  generalize (getB l).1 = t at hS hgn
  generalize (getB l).2 = c at hS
  refine rege K0 [1, 2, 7, 8, 9, 10] hS rfl rfl trivial fun β a w hS => ?_
  refine regqS KH [4] (by kernel_rfl) hS rfl rfl ⟨fun _ => ⟨_, _, rfl⟩, fun _ => ⟨_, _, rfl⟩, fun _ => (by show (bytesOf l).size ≤ maxLen; rw [bytesOf_size]; simp only [maxLen]; omega), fun _ => ⟨rfl, fun i _ => ⟨_, rfl⟩⟩, fun _ i _ => ⟨_, rfl⟩, fun _ => ⟨_, _, _, _, rfl, rfl, Nat.le_trans hgn (by decide)⟩, trivial⟩ fun a w hS => ?_
  refine wp_ret (fret1 K0 rfl hS rfl trivial ?_)
  show bol ((((true && (c == c)) && sameB t t) && (sumB (listOf l.length (rowD l)) == fnv (bytesOf l) (bytesOf l).size)) && ((if mayStateB s = true then sumB (putB s) else 0) == (if mayStateB s = true then sumB (putB s) else 0))) = bol true
  have e1 : sumB (listOf l.length (rowD l)) = fnv (bytesOf l) (bytesOf l).size := by rw [listOf_row, sumB, bytesOf_size]
  rw [e1, sameB_refl, beq_self_eq_true, beq_self_eq_true, beq_self_eq_true]
  rfl

theorem c_imageAsksL (x : Value) (s : State) (y : Value) (n : Nat) (g : Nat → D) (h : ∀ i : Nat, ∃ v, g i = .v (.int .u8 v) ∧ InT .u8 v) : Fun Try.prog T 3 [stateD x s, .sl 1 y n g] fun y => y = bol true := by
  obtain ⟨l, rfl, hby, hg⟩ := bytes_list (n := n) h
  exact (c_imageAsks x s y l hby).slx2 hg

end Go.CE

/- Plain: what is cut off, or has a byte behind, or is turned. -/
namespace Go.CE
open Go.RowKit Go.Proofs

theorem all_congr {p q : Nat → Bool} {n : Nat} (h : ∀ i, i < n → p i = q i) : (List.range n).all p = (List.range n).all q := by
  rw [Bool.eq_iff_iff, List.all_eq_true, List.all_eq_true]
  constructor <;> intro hh j hj
  · rw [← h j (by simpa using hj)]; exact hh j hj
  · rw [h j (by simpa using hj)]; exact hh j hj
theorem trim_at {α : Type} {f : Nat → α} {n : Nat} {z : α} {i : Nat} (h : i < n) : trim f n z i = f i := if_pos h
theorem may_norm (s : State) : mayStateB (norm s) = mayStateB s := by
  unfold mayStateB
  have h1 : mayGameB (norm s).game = mayGameB s.game := by
    rw [mayGame_eq, mayGame_eq]
    have e1 : (List.range 8).all (fun i => (!shipB1 ((norm s).game.ships i)) && !shipB2 ((norm s).game.ships i)) = (List.range 8).all (fun i => (!shipB1 (s.game.ships i)) && !shipB2 (s.game.ships i)) := all_congr fun i hi => by simp only [norm, trim_at hi]
    have e2 : (List.range (norm s).game.n).all (fun i => !shotBd ((norm s).game.shots i)) = (List.range s.game.n).all (fun i => !shotBd (s.game.shots i)) := all_congr (n := s.game.n) fun i hi => by simp only [norm, trim_at hi]
    rw [e1, e2]
    rfl
  have h2 : mayRosterB (norm s).roster = mayRosterB s.roster := by
    rw [mayRoster_eq, mayRoster_eq]
    have e1 : (List.range 8).all (seatOk (norm s).roster.seats) = (List.range 8).all (seatOk s.roster.seats) := all_congr fun i hi => by
      unfold seatOk
      have e2 : (List.range i).all (fun k => !seatP ((norm s).roster.seats i) ((norm s).roster.seats k)) = (List.range i).all (fun k => !seatP (s.roster.seats i) (s.roster.seats k)) := all_congr fun k hk => by
        have hk8 : k < 8 := by omega
        simp only [norm, trim_at hi, trim_at hk8]
      rw [e2]
      simp only [norm, trim_at hi]
    rw [e1]
    rfl
  have h3 : (List.range 8).all (fits (norm s)) = (List.range 8).all (fits s) := all_congr fun i hi => by
    simp only [fits, norm, trim_at hi]
  rw [h1, h2, h3]
theorem same_put {a b : State} (h : sameB a b = true) : putB a = putB b := by
  unfold sameB sameGameB at h
  simp only [Bool.and_eq_true, Bool.not_eq_true', Bool.or_eq_false_iff, bne_eq_false_iff_eq, Bool.not_eq_false'] at h
  obtain ⟨⟨⟨⟨⟨h1, h2⟩, h3⟩, h4⟩, h5⟩, h6⟩ := h
  have h4 : a.game.n = b.game.n := by omega
  have h3 : ∀ i, i < 8 → a.game.ships i = b.game.ships i := fun i hi => ship_eqb.1 (all_of (show (List.range 8).all (fun i => (shipD (a.game.ships i)).eqb (shipD (b.game.ships i))) = true from h3) hi)
  have h5 : ∀ i, i < a.game.n → a.game.shots i = b.game.shots i := fun i hi => shot_eqb.1 (all_of h5 hi)
  have h6 : ((a.roster.version == b.roster.version) && ((List.range 8).all (fun i => (seatD (a.roster.seats i)).eqb (seatD (b.roster.seats i))) && true)) = true := h6
  simp only [Bool.and_eq_true, beq_iff_eq, Bool.and_true] at h6
  have h7 : ∀ i, i < 8 → a.roster.seats i = b.roster.seats i := fun i hi => seat_eqb.1 (all_of h6.2 hi)
  rw [putB_eq, putB_eq, h1, h2, ← h4, h6.1, flat_congr 8 h3, flat_congr _ h5, flat_congr 8 h7]
theorem same_norm {s : State} (h : 0 ≤ s.game.dice ∧ s.game.dice < 18446744073709551616) : sameB s (norm s) = true := by
  have h1 : D.eqb (shipsD s.game.ships) (shipsD (norm s).game.ships) = true := all_lt (p := fun i => (shipD (s.game.ships i)).eqb (shipD ((norm s).game.ships i))) fun j hj => ship_eqb.2 (by simp only [norm, trim_at hj])
  have h2 : (List.range s.game.n).all (fun i => D.eqb (shotD (s.game.shots i)) (shotD ((norm s).game.shots i))) = true := all_lt fun j hj => shot_eqb.2 (by simp only [norm, trim_at hj])
  have h3 : D.eqb (rosterD s.roster) (rosterD (norm s).roster) = true := by
    have h4 : (List.range 8).all (fun i => (seatD (s.roster.seats i)).eqb (seatD ((norm s).roster.seats i))) = true := all_lt fun j hj => seat_eqb.2 (by simp only [norm, trim_at hj])
    show ((s.roster.version == s.roster.version) && ((List.range 8).all (fun i => (seatD (s.roster.seats i)).eqb (seatD ((norm s).roster.seats i))) && true)) = true
    rw [h4, beq_self_eq_true]
    rfl
  have h5 : s.game.dice % 18446744073709551616 = s.game.dice := Int.emod_eq_of_lt h.1 h.2
  unfold sameB sameGameB
  rw [h1, h2, h3]
  simp only [norm, h5]
  simp

theorem get_put {s : State} (h : mayStateB s = true) : getB (putB s) = (norm s, 0) := by
  rw [get_eq (putB_byt s)]
  have := dec_put h (r := []) (fun _ h => by cases h)
  rw [List.append_nil] at this
  unfold rgetB
  rw [this]
  simp only [may_norm, h, if_true]
theorem get_code {l : List Int} (h : (getB l).2 ≠ 0) : (getB l).2 = 2 := by
  rcases getB_may l with ⟨h1, _⟩ | h1
  · exact absurd h1 h
  · rw [h1]
theorem get_more {s : State} (h : mayStateB s = true) {c : Int} (hc : 0 ≤ c ∧ c ≤ 255) : (getB (putB s ++ [c])).2 = 2 := by
  rcases getB_may (putB s ++ [c]) with ⟨_, h1, h2⟩ | h1
  · have e1 := dec_put h (r := [c]) (fun v hv => by
      have : v = c := by simpa using hv
      omega)
    have e2 := dec_put h1 (r := []) (fun _ h => by cases h)
    rw [List.append_nil, h2, e1] at e2
    simp at e2
  · rw [h1]
theorem get_less {s : State} (h : mayStateB s = true) {k : Nat} (hk : k < (putB s).length) : (getB ((putB s).take k)).2 = 2 := by
  rcases getB_may ((putB s).take k) with ⟨_, h1, h2⟩ | h1
  · have e1 := dec_put h (r := []) (fun _ h => by cases h)
    have e2 := dec_put h1 (r := (putB s).drop k) ((putB_byt s).drop k)
    rw [h2, List.take_append_drop] at e2
    rw [List.append_nil, e2] at e1
    simp only [Option.some.injEq, Prod.mk.injEq] at e1
    have := congrArg List.length e1.2
    simp at this
    omega
  · rw [h1]
theorem xor_byte {a c : Int} (ha : 0 ≤ a ∧ a ≤ 255) (hc : 0 ≤ c ∧ c ≤ 255) : (0 ≤ bitI .xor .u8 a c ∧ bitI .xor .u8 a c ≤ 255) ∧ (bitI .xor .u8 a c = a ↔ c = 0) := by
  obtain ⟨m, rfl⟩ := Int.eq_ofNat_of_zero_le ha.1
  obtain ⟨n, rfl⟩ := Int.eq_ofNat_of_zero_le hc.1
  have e : bitI .xor .u8 (m : Int) (n : Int) = ((BitVec.ofInt 8 (m : Int) ^^^ BitVec.ofInt 8 (n : Int)).toNat : Nat) := by
    show IntKind.u8.wrap (((BitVec.ofInt 8 (m : Int) ^^^ BitVec.ofInt 8 (n : Int)).toNat : Nat) : Int) = _
    have := (BitVec.ofInt 8 (m : Int) ^^^ BitVec.ofInt 8 (n : Int)).isLt
    rw [IntKind.wrap_u8]
    omega
  have hm : (BitVec.ofInt 8 (m : Int)).toNat = m := by rw [BitVec.toNat_ofInt]; omega
  have hn : (BitVec.ofInt 8 (n : Int)).toNat = n := by rw [BitVec.toNat_ofInt]; omega
  have hlt := (BitVec.ofInt 8 (m : Int) ^^^ BitVec.ofInt 8 (n : Int)).isLt
  rw [e]
  refine ⟨by omega, ?_⟩
  rw [BitVec.toNat_xor, hm, hn]
  constructor
  · intro h
    have h : m ^^^ n = m := by omega
    have h2 : m ^^^ (m ^^^ n) = m ^^^ m := by rw [h]
    rw [← Nat.xor_assoc, Nat.xor_self, Nat.zero_xor] at h2
    omega
  · intro h
    have h : n = 0 := by omega
    subst h
    rw [Nat.xor_zero]
theorem set_same {l : List Int} {k : Nat} {v : Int} (hk : k < l.length) : l.set k v = l ↔ v = l.getD k 0 := by
  constructor
  · intro h
    have : (l.set k v).getD k 0 = v := by simp [List.getD_eq_getElem?_getD, hk]
    rw [h] at this
    exact this.symm
  · intro h
    refine List.ext_getElem (by simp) fun i h1 h2 => ?_
    rw [List.getElem_set]
    split
    · rename_i e
      subst e
      rw [h]
      simp [List.getD_eq_getElem?_getD, hk]
    · rfl
/-- A byte turned. -/
theorem get_turn {s : State} (h : mayStateB s = true) (hd : 0 ≤ s.game.dice ∧ s.game.dice < 18446744073709551616) {k : Nat} (hk : k < (putB s).length) {c : Int} (hc : 0 ≤ c ∧ c ≤ 255) {l : List Int} (hl : l = (putB s).set k (bitI .xor .u8 ((putB s).getD k 0) c)) :
    ((getB l).2 ≠ 0 → c ≠ 0) ∧ ((getB l).2 = 0 → mayStateB (getB l).1 = true ∧ putB (getB l).1 = l ∧ sameB s (getB l).1 = (c == 0)) := by
  have hx := xor_byte (Byt.get (putB_byt s) k) hc
  have hs : l = putB s ↔ c = 0 := by rw [hl, set_same hk, hx.2]
  refine ⟨fun h0 hc0 => h0 ?_, fun h0 => ?_⟩
  · rw [hs.2 hc0, get_put h]
  · rcases getB_may l with ⟨_, h1, h2⟩ | h1
    · refine ⟨h1, h2, ?_⟩
      by_cases e : c = 0
      · rw [hs.2 e, get_put h, same_norm hd, e]
        rfl
      · have : (c == 0) = false := by simpa using e
        rw [this]
        cases hsm : sameB s (getB l).1 with
        | false => rfl
        | true =>
          have := same_put hsm
          rw [h2] at this
          exact absurd (hs.1 this.symm) e
    · rw [h1] at h0
      cases h0
theorem set_row {l : List Int} {k : Nat} (hk : k < l.length) (v : Int) : (fun j => if j = k then D.v (.int .u8 v) else rowD l j) = rowD (l.set k v) := by
  funext j
  unfold rowD
  by_cases e : j = k
  · subst e
    simp [List.getD_eq_getElem?_getD, hk]
  · rw [if_neg e]
    have : (l.set k v).getD j 0 = l.getD j 0 := by
      rw [List.getD_eq_getElem?_getD, List.getD_eq_getElem?_getD, List.getElem?_set]
      have : ¬ k = j := fun h => e h.symm
      simp [this]
    rw [this]

section
variable {P : Program} {T : Tab} {C : Calls'} {w0 w : World} {pins : Pins} {N : Nat} {env : Env} {gs : List Nat} {L : List Ent} {β : Nat → Nat} {a : Act} {ds : List Deferred}
/-- x[:hi] of a slice that is only read. -/
theorem resh (K : Kit P T C) (hS : Ste T w0 pins N ds env gs L β a w) {l rest : List Oper} {Q : Exit → Act → World → Prop} {o : Oper} {x hi : Operand} {t e sz s b dd n : Nat} {z : D} {xv : Value} {f : Nat → D} {k : IntKind} {iv : Int}
    (j : Nat) (hg : o.guard = none) (hop : o.op = .slice t x none (some hi) none) (hd : o.dst = some dd) (hdN : Nat.ble N dd = false) (hdg : elemN dd gs = false) (hx : opd (lkU env) x = some (.sl sz xv n f)) (hhi : opd (lkU env) hi = some (.v (.int k iv))) (ht : T t = some ⟨.sl e sz, s, b, z⟩)
    (hj : iv = (j : Int)) (hjn : j ≤ n)
    (hk : ∀ xv' a', Ste T w0 pins N ds ((dd, .d (.sl sz xv' j f)) :: env) gs L β a' w → wpList P l.toArray Q rest a' w) : wpList P l.toArray Q (o :: rest) a w := by
  obtain ⟨x1, x2⟩ := opd_ok hS.ss.lkU hx
  obtain ⟨l1, _⟩ := opd_ok hS.ss.lkU hhi
  have x2 : Ok T w (Own pins.G L β) (.sl sz xv n f) := x2
  obtain ⟨⟨ad, cap, rfl, y1, y2, y3⟩, y4⟩ := x2
  obtain ⟨_, g1, g2, g3, g4⟩ := (K.tab t _ ht).2
  obtain ⟨re, hre⟩ := Option.isSome_iff_exists.1 g4
  have hel : P.elem t = e := by simp [Program.elem, g1]
  have hu : P.underlying t = some (.slice (P.elem t)) := by rw [hel]; exact g1
  have hrs : re.size = sz := by simpa [sizeT, hre] using g2
  have hv : (D.sl sz (.slice ad n cap) n f).val T β = .slice ad n cap := rfl
  rw [hv] at x1
  have l1 : a.eval hi = .int k iv := l1
  subst hj
  have hrun : (execOp a.eval o).run P w = .ok (.value (sliced ad 0 j cap sz)) w := by
    have h := run_slice_h (P := P) w t ad n cap hu k (j : Int) (by omega) (by omega)
    rw [hel, run_sizeOf K.tab hre, hrs] at h
    simp only [execOp, hop, Option.map_none, Option.map_some, Sem.run_bind, x1, l1, run_sliceAt_slice w t _ _ _ _ hu, h, Result.andThen_ok, Sem.run_pure, Int.toNat_natCast]
  have hok : Ok T w (Own pins.G L β) (.sl sz (sliced ad 0 j cap sz) j f) := by
    refine ⟨⟨if cap = 0 then ad else ad.map (·.add (0 * sz)), cap, rfl, by omega, by omega, ?_⟩, fun i hi => y4 i (by omega)⟩
    by_cases h0 : j = 0
    · exact .inl h0
    · rcases y3 with y3 | ⟨bb, oo, cur, ee, fr, rfl, q1, q2, q3⟩
      · omega
      · refine .inr ⟨bb, oo, cur, ee, fr, ?_, q1, q2, fun i hi j' v hv => q3 i (by omega) j' v hv⟩
        rw [if_neg (by omega)]
        simp [addr_add]
  unfold wpList
  rw [if_pos (by simp [Region.wanted, hg])]
  left
  unfold Oper.wp
  rw [hrun]
  refine hk (sliced ad 0 j cap sz) _ ⟨?_, by rw [Act.put_defers]; exact hS.df⟩
  rw [hd]
  exact hS.ss.set (x := .sl sz _ j f) (Nat.lt_of_not_le fun h => by rw [Nat.ble_eq_true_of_le h] at hdN; cases hdN) hdg hok rfl
end

end Go.CE
