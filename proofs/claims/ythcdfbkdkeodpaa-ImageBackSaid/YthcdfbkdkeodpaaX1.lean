/- A small program logic, seventeenth text: 'append' onto a row of the call's own. -/
import Derived.Test.YthcdfbkdkeodpaaX0
import Derived.Deep.AppendSrc
import Derived.Test.YthcdfbkdkeodpaaProg
import Derived.KernelRfl
namespace Go.CE
open Go.RowKit

variable {P : Program} {T : Tab} {w0 w : World} {pins : Pins} {N : Nat} {env : Env} {gs : List Nat} {L : List Ent} {β : Nat → Nat} {a : Act} {C : Calls'} {ds : List Deferred}

theorem Ok.move {A A' : Dom} {w w' : World} (hA : ∀ b, A.ok b → b < w.heap.size → A'.ok b ∧ w'.heap[b]? = w.heap[b]?) {d : D} (hc : Cl d) (h : Ok T w A d) : Ok T w' A' d :=
  Ok.cl (A := ⟨A'.ok, A.n⟩) (A' := A') (fun _ h => h) d hc (Ok.mono (A' := ⟨A'.ok, A.n⟩) hA (Nat.le_refl _) d h)

mutual
theorem Idx.both {S S' : Nat → Prop} : ∀ d, Idx S d → Idx S' d → Idx (fun k => S k ∧ S' k) d
  | .v _, _, _ => trivial
  | .st _ ds, h, h' => IdxL.both ds h h'
  | .ar _ _ f, h, h' => fun i hi => Idx.both (f i) (h i hi) (h' i hi)
  | .sl .., _, _ => trivial
  | .p .., h, h' => ⟨h, h'⟩
  | .os .., h, h' => ⟨h, h'⟩
  | .rp .., _, _ => trivial
  | .fn _ cs, h, h' => IdxL.both cs h h'
  | .tup ds, h, h' => IdxL.both ds h h'
theorem IdxL.both {S S' : Nat → Prop} : ∀ ds, IdxL S ds → IdxL S' ds → IdxL (fun k => S k ∧ S' k) ds
  | [], _, _ => trivial
  | d :: r, h, h' => ⟨Idx.both d h.1 h'.1, IdxL.both r h.2 h'.2⟩
end
theorem IdxE.both {S S' : Nat → Prop} {e : Ent} (h : IdxE S e) (h' : IdxE S' e) : IdxE (fun k => S k ∧ S' k) e := by
  cases e with
  | var t d => exact Idx.both d h h'
  | row e sz n f cap => exact fun i hi => Idx.both (f i) (h i hi) (h' i hi)
  | dead => trivial
mutual
theorem Ok.idx {A : Dom} : ∀ d, Ok T w A d → Idx (· < A.n) d
  | .v _, _ => trivial
  | .st _ ds, h => OkL.idx ds h.2
  | .ar _ _ f, h => fun i hi => Ok.idx (f i) (h i hi).2
  | .sl .., _ => trivial
  | .p .., h => h.1
  | .os .., h => h
  | .rp .., _ => trivial
  | .fn _ cs, h => OkL.idx cs h
  | .tup _, h => h.elim
theorem OkL.idx {A : Dom} : ∀ ds, OkL T w A ds → IdxL (· < A.n) ds
  | [], _ => trivial
  | d :: r, h => ⟨Ok.idx d h.1, OkL.idx r h.2⟩
end
theorem OkT.idx {A : Dom} {d : D} (h : OkT T w A d) : Idx (· < A.n) d := by
  cases d with
  | tup ds => exact OkL.idx ds h
  | _ => exact Ok.idx (T := T) (w := w) _ h
theorem EntOk.idx {A : Dom} {k : Nat} {e : Ent} (h : EntOk T A β w k e) : IdxE (· < A.n) e := by
  cases e with
  | var t d => exact Ok.idx d h.2.2
  | row e sz n f cap => obtain ⟨_, _, _, _, _, _, _, h7, _⟩ := h; exact fun i hi => Ok.idx (f i) (h7 i hi).2
  | dead => trivial
mutual
theorem Ok.unren {A : Dom} {r : Nat → Nat} : ∀ d, Cl d → Ok T w A (d.ren r) → Ok T w A d
  | .v _, _, h => h
  | .st s ds, hc, h => ⟨by obtain ⟨⟨fs, b, z, h1, h2⟩, _⟩ := h; exact ⟨fs, b, z, h1, by rw [D.renL_size] at h2; exact h2⟩, OkL.unren ds hc h.2⟩
  | .ar _ _ f, hc, h => fun i hi => ⟨by have := (h i hi).1; rw [D.ren_size] at this; exact this, Ok.unren (f i) (hc i hi) (h i hi).2⟩
  | .sl .., _, h => h
  | .p .., hc, _ => hc.elim
  | .os .., hc, _ => hc.elim
  | .rp .., _, h => h
  | .fn _ cs, hc, h => OkL.unren cs hc h
  | .tup _, _, h => h
theorem OkL.unren {A : Dom} {r : Nat → Nat} : ∀ ds, ClL ds → OkL T w A (D.renL r ds) → OkL T w A ds
  | [], _, h => h
  | d :: q, hc, h => ⟨Ok.unren d hc.1 h.1, OkL.unren q hc.2 h.2⟩
end
theorem Cl.ren_cells (r : Nat → Nat) (β β' : Nat → Nat) {d : D} (h : Cl d) : (d.ren r).cells T β = d.cells T β' := by rw [D.ren_cells]; exact Cl.cells _ _ d h

theorem setN_setN {α : Type} : ∀ (l : List α) (k : Nat) (x y : α), setN (setN l k x) k y = setN l k y
  | [], _, _, _ => rfl
  | a :: r, 0, _, _ => rfl
  | a :: r, k + 1, x, y => by simp only [setN, setN_setN r k x y]

/-- An entry told in other words. -/
theorem SS.swap (h : SS T w0 pins N env gs L β a.tmps w) {k : Nat} {e0 e : Ent} (hk : nth L k = some e0) (ha : e0.alive = true) (hae : e.alive = true) (he : EntOk T (Own pins.G L β) β w k e0 → EntOk T (Own pins.G L β) β w k e) : SS T w0 pins N env gs (setN L k e) β a.tmps w := by
  have hA : ∀ c, (Own pins.G L β).ok c → c < w.heap.size → (Own pins.G (setN L k e) β).ok c ∧ w.heap[c]? = w.heap[c]? := fun c hc _ => ⟨Own.set_ok hk ha hc, rfl⟩
  have hn : (Own pins.G L β).n ≤ (Own pins.G (setN L k e) β).n := by show L.length ≤ (setN L k e).length; rw [setN_length]; exact Nat.le_refl _
  refine ⟨h.n, fun t x ht => ?_, ⟨fun j y hy => ?_, fun i j d y hi hj hd hy hij => ?_⟩, h.keep, fun j hp hj => ?_, fun j c hj => ?_, h.good⟩
  · have h1 := h.tmp t x ht
    cases x with
    | d y => exact ⟨h1.1, h1.2.mono hA hn⟩
    | g tc wb y =>
      obtain ⟨k1, c, k2, k3⟩ := h1
      exact ⟨k1, c, k2, fun hc => ⟨(k3 hc).1, (k3 hc).2.mono hA hn⟩⟩
  · rcases nth_setN L k j e y hy with ⟨rfl, rfl⟩ | ⟨h1, h2⟩
    · exact (he (h.mem.ent j _ hk)).mono rfl (Nat.le_refl _) rfl (fun _ _ => rfl) hA hn
    · exact (h.mem.ent j y h2).mono rfl (Nat.le_refl _) rfl (fun _ _ => rfl) hA hn
  · have key : ∀ i y, nth (setN L k e) i = some y → y.alive = true → ∃ y', nth L i = some y' ∧ y'.alive = true := fun i y hi hy => by
      rcases nth_setN L k i e y hi with ⟨rfl, rfl⟩ | ⟨_, h2⟩
      · exact ⟨e0, hk, ha⟩
      · exact ⟨y, h2, hy⟩
    obtain ⟨d', g1, g2⟩ := key i d hi hd
    obtain ⟨y', g3, g4⟩ := key j y hj hy
    exact h.mem.inj i j d' y' g1 g3 g2 g4 hij
  · rw [setN_length] at hj; exact h.new j hp hj
  · rw [setN_length]; exact h.pin j c hj

/-- What is appended: m elements, of sz cells each. -/
def SrcE (T : Tab) (L : List Ent) (sz : Nat) (d : D) (m : Nat) (g : Nat → D) : Prop :=
  (∃ x, d = .sl sz x m g) ∨ ∃ k cap n f c, d = .os k m cap ∧ (∃ e, nth L k = some (.row e sz n f c)) ∧ m ≤ n ∧ ∀ i, i < m → f i = g i

theorem flat_get {sz m : Nat} {g : Nat → D} (hsz : ∀ i, i < m → ((g i).cells T β).length = sz) {c : Nat → Option Value}
    (hc : ∀ i, i < m → ∀ j v, ((g i).cells T β)[j]? = some v → c (i * sz + j) = some v) (j : Nat) (v : Value) (h : ((List.range m).flatMap fun i => (g i).cells T β)[j]? = some v) : c j = some v := by
  induction m with
  | zero => simp at h
  | succ m ih =>
    rw [List.range_succ, List.flatMap_append, List.flatMap_singleton] at h
    have hl : ((List.range m).flatMap fun i => (g i).cells T β).length = m * sz := length_flatMap_const _ fun i hi => hsz i (by omega)
    by_cases hj : j < m * sz
    · rw [List.getElem?_append_left (by omega)] at h
      exact ih (fun i hi => hsz i (by omega)) (fun i hi => hc i (by omega)) h
    · rw [List.getElem?_append_right (by omega), hl] at h
      have := hc m (by omega) (j - m * sz) v h
      rwa [show m * sz + (j - m * sz) = j from by omega] at this

theorem cell_at {w : World} {b o : Nat} {cur : Array Value} {e : TypeId} {fr : Nat × Nat} (h : w.heap[b]? = some (.cells cur e fr)) (hs : w.cell? ⟨b, o, none⟩ = cur[o]?) : w.cell? ⟨b, o, none⟩ = cur[o]? := hs

/-- What is appended, as the model asks for it. -/
theorem src_of (hT : TabOk P T) (hS : SS T w0 pins N env [] L β a.tmps w) {t e sz : Nat} {s b z} (ht : T t = some ⟨.sl e sz, s, b, z⟩) {d : D} {m : Nat} {g : Nat → D} (hd : Ok T w (Own pins.G L β) d) (hs : SrcE T L sz d m g) :
    Src P sz t (d.val T β) m ((List.range m).flatMap fun i => (g i).cells T β) w := by
  obtain ⟨_, g1, g2, g3, g4⟩ := (hT t _ ht).2
  rcases hs with ⟨x, rfl⟩ | ⟨k, cap, n, f, c, rfl, ⟨e', hk⟩, hmn, hfg⟩
  · obtain ⟨⟨ad, cap, rfl, h1, h2, h3⟩, h4⟩ := hd
    have hlen : ∀ i, i < m → ((g i).cells T β).length = sz := fun i hi => by rw [Ok.len _ (h4 i hi).2.1, (h4 i hi).1]
    have hone : ∀ u ∈ (List.range m).flatMap fun i => (g i).cells T β, u.oneCell' = true := fun u hu => by
      simp only [List.mem_flatMap, List.mem_range] at hu
      obtain ⟨i, hi, hu⟩ := hu
      exact Ok.one _ (h4 i hi).2.1 u hu
    have hl : ((List.range m).flatMap fun i => (g i).cells T β).length = m * sz := length_flatMap_const _ hlen
    show Src P sz t (.slice ad m cap) m _ w
    cases ad with
    | none =>
      rcases h3 with h3 | ⟨b, o, cur, e, fr, h5, _⟩
      · subst h3
        exact Src.ofNil w g1 cap
      · cases h5
    | some ad =>
      refine Src.ofSlice w g1 ad m cap _ hl (fun j u hu => ?_) hone
      rcases h3 with h3 | ⟨b, o, cur, e, fr, h5, h6, h7, h8⟩
      · subst h3; simp at hu
      · cases h5
        refine flat_get (c := fun j => w.cell? ((⟨b, o, none⟩ : Addr).add j)) hlen (fun i hi j v hv => ?_) j u hu
        rw [Cl.cells β (fun _ => 0) _ (h4 i hi).2.2] at hv
        have := h8 i hi j v hv
        rw [addr_add]
        simpa [World.cell?, h7, Nat.add_assoc] using this
  · obtain ⟨cur, e1, e2, e3, e4, e5, e6, e7, e8⟩ := hS.mem.ent k _ hk
    have hlen : ∀ i, i < m → ((g i).cells T β).length = sz := fun i hi => by rw [← hfg i hi, Ok.len _ (e7 i (by omega)).2, (e7 i (by omega)).1]
    have hone : ∀ u ∈ (List.range m).flatMap fun i => (g i).cells T β, u.oneCell' = true := fun u hu => by
      simp only [List.mem_flatMap, List.mem_range] at hu
      obtain ⟨i, hi, hu⟩ := hu
      rw [← hfg i hi] at hu
      exact Ok.one _ (e7 i (by omega)).2 u hu
    have hl : ((List.range m).flatMap fun i => (g i).cells T β).length = m * sz := length_flatMap_const _ hlen
    refine Src.ofSlice w g1 ⟨β k, 0, none⟩ m cap _ hl (fun j u hu => ?_) hone
    refine flat_get (c := fun j => w.cell? ((⟨β k, 0, none⟩ : Addr).add j)) hlen (fun i hi j v hv => ?_) j u hu
    rw [← hfg i hi] at hv
    have := e8 i (by omega) j v hv
    rw [addr_add]
    simpa [World.cell?, e1] using this

/-- Behind an 'append' onto the row r: what the row holds now. -/
theorem SS.app (hT : TabOk P T) (hZ : ZeroOk T) (hS : SS T w0 pins N env [] L β a.tmps w) {t e sz : Nat} {s b z} (ht : T t = some ⟨.sl e sz, s, b, z⟩) {re : Row} (hre : T e = some re)
    {r n cap : Nat} {f : Nat → D} (hr : nth L r = some (.row e sz n f cap)) (hrp : pins.fix.length ≤ r) (hf : ∀ i, i < n → Cl (f i)) {d : D} {m : Nat} {g : Nat → D} (hd : Ok T w (Own pins.G L β) d) (hs : SrcE T L sz d m g) (hg : ∀ i, i < m → Cl (g i))
    {f1 : Nat → D} (h1 : ∀ i, i < n → f1 i = f i) (h2 : ∀ i, i < m → f1 (n + i) = g i) (hlen : n + m ≤ maxLen) (hby : (n + m) * re.bytes ≤ 140737488355328)
    {env2 : Env} (he : ∀ t b, look t env2 = some b → ∃ x, b = .d x ∧ look t env = some (.d x) ∧ Idx (· ≠ r) x) (hL : ∀ k e, nth L k = some e → k ≠ r → IdxE (· ≠ r) e) (ty : TypeId) :
    ∃ cap' β' w', (Builtin.append_ #[t, t] ty #[(D.os r n cap).val T β, d.val T β]).run P w = .ok ((D.os r (n + m) cap').val T β') w' ∧ SS T w0 pins N env2 [] (setN L r (.row e sz (n + m) f1 cap')) β' a.tmps w' := by
  obtain ⟨_, g1, g2, g3, g4⟩ := (hT t _ ht).2
  obtain ⟨⟨i, i1, i2, i3, i4⟩, _⟩ := hT e re hre
  have hrs : re.size = sz := by simpa [sizeT, hre] using g2
  obtain ⟨z1, z2, z3⟩ := hZ e re hre
  have hsrc := src_of hT hS ht hd hs
  have hisz : i.size = sz := i2.trans hrs
  rw [← hisz] at hsrc
  obtain ⟨cur, e1, e2, e3, e4, e5, e6, e7, e8⟩ := hS.mem.ent r _ hr
  have hgok : ∀ j, j < m → (g j).size T = sz ∧ Ok T w (Own pins.G L β) (g j) := fun j hj => by
    rcases hs with ⟨x, rfl⟩ | ⟨k, cp, n', f', c, rfl, ⟨e', hk⟩, hmn, hfg⟩
    · exact ⟨(hd.2 j hj).1, (hd.2 j hj).2.1⟩
    · obtain ⟨_, _, _, _, _, _, _, q, _⟩ := hS.mem.ent k _ hk
      rw [← hfg j hj]
      exact q j (by omega)
  have hf1 : ∀ j, j < n + m → (f1 j).size T = sz ∧ Ok T w (Own pins.G L β) (f1 j) ∧ Cl (f1 j) := fun j hj => by
    by_cases hjn : j < n
    · rw [h1 j hjn]; exact ⟨(e7 j hjn).1, (e7 j hjn).2, hf j hjn⟩
    · have := h2 (j - n) (by omega)
      rw [show n + (j - n) = j from by omega] at this
      rw [this]; exact ⟨(hgok _ (by omega)).1, (hgok _ (by omega)).2, hg _ (by omega)⟩
  have hlt := nth_lt _ _ _ hr
  have hlen1 : ∀ j, j < n + m → ((f1 j).cells T fun _ => 0).length = sz := fun j hj => by rw [Ok.len _ (hf1 j hj).2.1, (hf1 j hj).1]
  have hnews : (List.range m).flatMap (fun j => (g j).cells T β) = (List.range m).flatMap fun j => (f1 (n + j)).cells T fun _ => 0 := flatMap_congr' fun j hj => by
    rw [List.mem_range] at hj
    rw [h2 j hj, Cl.cells β (fun _ => 0) _ (hg j hj)]
  -- what the block must hold, and what follows
  have fin : ∀ (cap' : Nat) (b' : Nat) (w' : World) (cur' : Array Value), w'.heap[b']? = some (.cells cur' e (0, 0)) → n + m ≤ cap' → cap' ≤ maxLen → cur'.size = cap' * sz →
      (∀ j, j < n → ∀ k v, ((f1 j).cells T fun _ => 0)[k]? = some v → cur'[j * sz + k]? = some v) → (∀ j, j < m → ∀ k v, ((f1 (n + j)).cells T fun _ => 0)[k]? = some v → cur'[(n + j) * sz + k]? = some v) →
      w'.os = w.os → w'.tape = w.tape → w'.output = w.output → w.heap.size ≤ w'.heap.size → (∀ c, c < w.heap.size → c ≠ β r → w'.heap[c]? = w.heap[c]?) → (b' = β r ∨ w.heap.size ≤ b') →
      ∃ β', β' r = b' ∧ SS T w0 pins N env2 [] (setN L r (.row e sz (n + m) f1 cap')) β' a.tmps w' := by
    intro cap' b' w' cur' q1 q2 q3 q4 q5 q6 q7 q8 q9 q10 q11 q12
    have hne : ∀ c, (Own pins.G L β).ok c → c < w.heap.size → c ≠ β r ∧ c ≠ b' := fun c hc hl => by
      have : c ≠ β r := fun e => hc.2 r _ hr rfl e.symm
      exact ⟨this, fun e => by rcases q12 with q | q; exact this (e.trans q); omega⟩
    obtain ⟨G', hG'⟩ : ∃ G' : Nat → Prop, G' = fun b => pins.G b ∧ ∀ k e, nth L k = some e → e.alive = true → (∀ i ∈ [r], i ≠ k) → β k ≠ b := ⟨_, rfl⟩
    have hAA : ∀ c, (Own pins.G L β).ok c → c < w.heap.size → (Own G' [.row e sz (n + m) f1 cap'] (fun _ => b')).ok c ∧ w'.heap[c]? = w.heap[c]? := fun c hc hl => by
      refine ⟨⟨?_, fun k y hk _ e => (hne c hc hl).2 e.symm⟩, q11 c hl (hne c hc hl).1⟩
      rw [hG']
      exact ⟨hc.1, fun k y hk hay _ => hc.2 k y hk hay⟩
    have hmemG : MemOk T G' [.row e sz (n + m) f1 cap'] (fun _ => b') w' := by
      refine ⟨fun k y hy => ?_, fun i j d y hi hj _ _ _ => ?_⟩
      · cases k with
        | succ k => cases hy
        | zero =>
          simp only [nth, Option.some.injEq] at hy
          subst hy
          refine ⟨cur', q1, g2, g3, q4, q2, q3, fun j hj => ⟨(hf1 j hj).1, Ok.move hAA (hf1 j hj).2.2 (hf1 j hj).2.1⟩, fun j hj k v hv => ?_⟩
          rw [Cl.cells (fun _ => b') (fun _ => 0) _ (hf1 j hj).2.2] at hv
          by_cases hjn : j < n
          · exact q5 j hjn k v hv
          · have := q6 (j - n) (by omega) k v
            rw [show n + (j - n) = j from by omega] at this
            exact this hv
      · have hi := nth_lt _ _ _ hi
        have hj := nth_lt _ _ _ hj
        simp at hi hj
        omega
    have hKK : Keep w (pinsOf (fun j => β (rn [r] L.length j)) 0 ([Ent.row e sz n f cap] : List Ent).length G') w' := ⟨q7, q8, q9, q10, fun c hc hp => q11 c hc fun e' => by
      rw [e'] at hp
      have : (pinsOf (fun j => β (rn [r] L.length j)) 0 1 G').has (β r) = true := by
        simp only [Pins.has, Bool.or_eq_true]
        exact .inr (pinsOf_more.2 ⟨0, Nat.le_refl _, by omega, rfl⟩)
      rw [show ([Ent.row e sz n f cap] : List Ent).length = 1 from rfl, this] at hp
      cases hp⟩
    have hc := hS.called (ρ := [r]) (L0 := [.row e sz n f cap]) (m := 0) (by simp) (by simpa using hlt) rfl (fun j hj => by
        have : j = 0 := by simp at hj; exact hj
        subst this
        exact ⟨r, _, rfl, hr, rfl⟩) (fun j k _ hk => by
        cases j with
        | zero => simp only [nth, Option.some.injEq] at hk; omega
        | succ j => cases hk) (S := fun k => k < L.length ∧ k ≠ r) (fun k hk => hk.1) (fun j k _ hk hs => by
        cases j with
        | zero => simp only [nth, Option.some.injEq] at hk; exact hs.2 hk.symm
        | succ j => cases hk) (env2 := env2) (fun t b hb => by
        obtain ⟨x, rfl, q1, q2⟩ := he t b hb
        have hox := (hS.tmp t _ q1).2
        exact ⟨x, rfl, q1, Idx.both _ (OkT.idx hox) q2⟩) (fun k y hk hnr => by
        have hy := hL k y hk (fun e => hnr r (by simp) e.symm)
        exact IdxE.both (EntOk.idx (hS.mem.ent k y hk)) hy) G' hG' hmemG (y := .v (.bool true)) rfl hKK (Nat.le_refl _) (fun k hk => absurd hk (Nat.not_lt_zero _)) (Nat.zero_le _) (fun k _ hk => by
        rcases q12 with q | q
        · exact .inr ⟨0, Nat.le_refl _, Nat.zero_lt_one, q⟩
        · exact .inl q)
    have hc1 := hc.1
    simp only [putE, List.map_nil, List.append_nil] at hc1
    have hsw := hc1.swap (k := r) (e := .row e sz (n + m) f1 cap') (nth_setN_self hr) rfl rfl (fun ⟨cu, p1, p2, p3, p4, p5, p6, p7, p8⟩ => ⟨cu, p1, p2, p3, p4, p5, p6, fun j hj => ⟨(hf1 j hj).1, Ok.unren _ (hf1 j hj).2.2 (p7 j hj).2⟩, fun j hj k v hv => p8 j hj k v (by rw [Cl.ren_cells _ _ _ (hf1 j hj).2.2]; exact hv)⟩)
    rw [setN_setN] at hsw
    refine ⟨_, ?_, hsw⟩
    have := bk_rn (ρ := [r]) (n := L.length) (β := β) (β1 := fun _ => b') (by simp) (by simpa using hlt) 0
    simpa [rn, nth] using this
  have hcl : cur.toList.length = cap * sz := by simpa using e4
  have hnl : ((List.range m).flatMap fun j => (f1 (n + j)).cells T fun _ => 0).length = m * sz := length_flatMap_const _ fun j hj => hlen1 _ (by omega)
  have hmid : ∀ j, j < m → ∀ k v, ((f1 (n + j)).cells T fun _ => 0)[k]? = some v → ((List.range m).flatMap fun j => (f1 (n + j)).cells T fun _ => 0)[j * sz + k]? = some v := fun j hj k v hv => by
    rw [range_split m j hj, List.flatMap_append, List.flatMap_cons, ← List.append_assoc]
    have hl : ((List.range j).flatMap fun j => (f1 (n + j)).cells T fun _ => 0).length = j * sz := length_flatMap_const _ fun i hi => hlen1 _ (by omega)
    rw [← hl]
    exact getElem?_mid hv
  have hold : ∀ j, j < n → ∀ k v, ((f1 j).cells T fun _ => 0)[k]? = some v → cur[j * sz + k]? = some v ∧ j * sz + k < n * sz := fun j hj k v hv => by
    have hk : k < sz := by have := (List.getElem?_eq_some_iff.1 hv).1; rwa [hlen1 j (by omega)] at this
    have hle : (j + 1) * sz ≤ n * sz := Nat.mul_le_mul_right _ hj
    rw [Nat.add_mul, Nat.one_mul] at hle
    rw [h1 j hj, Cl.cells (fun _ => 0) β _ (hf j hj)] at hv
    exact ⟨e8 j hj k v hv, by omega⟩
  have hval : (D.os r n cap).val T β = .slice (some ⟨β r, 0, none⟩) n cap := rfl
  rw [hval]
  by_cases hroom : n + m ≤ cap
  · have hle : (n + m) * sz ≤ cap * sz := Nat.mul_le_mul_right _ hroom
    rw [Nat.add_mul] at hle
    have hst := run_storeCells_at (P := P) (β r) (n * sz) e ((List.range m).flatMap fun j => (g j).cells T β) 0 cur w e1 (by rw [hnews, hnl]; omega) hsrc.one
    simp only [Nat.add_zero] at hst
    rw [hnews, hnl] at hst
    obtain ⟨β', hb', hss⟩ := fin cap (β r) (w.setRow (β r) (cur.toList.take (n * sz) ++ ((List.range m).flatMap fun j => (f1 (n + j)).cells T fun _ => 0) ++ cur.toList.drop (n * sz + m * sz)).toArray) _ (setRow_heap w _ _ _ _ _ e1) hroom e6
      (by simp only [List.size_toArray, List.length_append, List.length_take, List.length_drop, hcl, hnl]; omega)
      (fun j hj k v hv => by
        obtain ⟨q1, q2⟩ := hold j hj k v hv
        rw [List.getElem?_toArray, List.append_assoc, List.getElem?_append_left (by rw [List.length_take, hcl]; omega), List.getElem?_take, if_pos q2]
        simpa using q1)
      (fun j hj k v hv => by
        have hq := hmid j hj k v hv
        have hql := (List.getElem?_eq_some_iff.1 hq).1
        rw [hnl] at hql
        rw [List.getElem?_toArray, List.append_assoc, List.getElem?_append_right (by rw [List.length_take, hcl, Nat.add_mul]; omega), List.length_take, hcl, Nat.min_eq_left (by omega), List.getElem?_append_left (by rw [hnl, Nat.add_mul]; omega), Nat.add_mul, show n * sz + j * sz + k - n * sz = j * sz + k from by omega]
        exact hq)
      rfl rfl rfl (by rw [size_setRow]; exact Nat.le_refl _) (fun c _ hc => setRow_other w _ _ _ hc) (.inl rfl)
    refine ⟨cap, β', _, ?_, hss⟩
    have hv' : (D.os r (n + m) cap).val T β' = .slice (some ⟨β r, 0, none⟩) (n + m) cap := by simp [D.val, D.cells, D.isAgg, hb']
    rw [hv']
    have hadd : (⟨β r, 0, none⟩ : Addr).add (n * sz) = ⟨β r, n * sz, none⟩ := by rw [addr_add, Nat.zero_add]
    have hcs := hsrc.cells
    rw [hnews, hisz] at hcs
    simp [Builtin.append_, run_underlying g1, sizeOf, typeInfo, i1, hsrc.len, hroom, hcs, hisz, hadd, hst]
  · have hge := grownCap_ge w (n + m) cap e
    have hcm := grownCap_le_maxLen w (n + m) cap e hlen
    have hzc : (re.zero.val T fun _ => 0).cells.size = sz := by
      rw [val_cells (z1 w (Own pins.G L β))]
      simp [Ok.len _ (z1 w (Own pins.G L β)), z3, hrs]
    have hol : ((List.range n).flatMap fun j => (f1 j).cells T fun _ => 0).length = n * sz := length_flatMap_const _ fun j hj => hlen1 _ (by omega)
    have hom : ∀ j, j < n → ∀ k v, ((f1 j).cells T fun _ => 0)[k]? = some v → ((List.range n).flatMap fun j => (f1 j).cells T fun _ => 0)[j * sz + k]? = some v := fun j hj k v hv => by
      rw [range_split n j hj, List.flatMap_append, List.flatMap_cons, ← List.append_assoc]
      have hl : ((List.range j).flatMap fun j => (f1 j).cells T fun _ => 0).length = j * sz := length_flatMap_const _ fun i hi => hlen1 _ (by omega)
      rw [← hl]
      exact getElem?_mid hv
    have hold2 : (Builtin.firstCells i.size n (.slice (some ⟨β r, 0, none⟩) n cap)).run P w.drew = .ok ((List.range n).flatMap fun j => (f1 j).cells T fun _ => 0).toArray w.drew := by
      refine run_firstCells_some w.drew i.size n _ n cap _ (by rw [hol, hisz]) fun j u hu => ?_
      refine flat_get (g := f1) (β := fun _ => 0) (c := fun j => w.drew.cell? ((⟨β r, 0, none⟩ : Addr).add j)) (fun j hj => hlen1 j (by omega)) (fun j hj k v hv => ?_) j u hu
      have := (hold j hj k v hv).1
      rw [addr_add, World.cell?_drew]
      simpa [World.cell?, e1] using this
    have hrun := run_append_grow_src (P := P) w t t ty e i _ g1 i1 i4 (some ⟨β r, 0, none⟩) n cap _ hold2 _ m _ hsrc (by omega) (by simp only [maxLen] at hlen; omega) (growslice_fits (by omega) (by rw [i3]; exact hby))
    rw [hrun]
    have hb : Below w.heap.size w.drew (w.drew.alloc (.cells ((((List.range n).flatMap fun j => (f1 j).cells T fun _ => 0) ++ ((List.range m).flatMap fun j => (g j).cells T β)).toArray ++ Builtin.zeroCells (re.zero.val T fun _ => 0).cells (grownCap w (n + m) cap e - (n + m))) e)) := below_alloc w.drew _
    obtain ⟨β', hb', hss⟩ := fin (grownCap w (n + m) cap e) w.heap.size _ _ (heap_alloc_new w.drew _) hge hcm
      (by
        simp only [Array.size_append, List.size_toArray, size_zeroCells, hzc, List.length_append, hol, hnews, hnl]
        rw [← Nat.add_mul, ← Nat.add_mul]; congr 1; omega)
      (fun j hj k v hv => by
        have hq := hom j hj k v hv
        have hql := (List.getElem?_eq_some_iff.1 hq).1
        rw [Array.getElem?_append_left (by simp only [List.size_toArray, List.length_append]; omega), List.getElem?_toArray, List.getElem?_append_left hql]
        exact hq)
      (fun j hj k v hv => by
        have hq := hmid j hj k v hv
        have hql := (List.getElem?_eq_some_iff.1 hq).1
        rw [hnews, Array.getElem?_append_left (by simp only [List.size_toArray, List.length_append, hol, Nat.add_mul]; omega), List.getElem?_toArray, List.getElem?_append_right (by rw [hol, Nat.add_mul]; omega), hol, Nat.add_mul, show n * sz + j * sz + k - n * sz = j * sz + k from by omega]
        exact hq)
      hb.os hb.tape hb.output hb.size (fun c hc _ => hb.block c hc) (.inr (Nat.le_refl _))
    refine ⟨grownCap w (n + m) cap e, β', _, ?_, hss⟩
    have hv' : (D.os r (n + m) (grownCap w (n + m) cap e)).val T β' = .slice (some ⟨w.heap.size, 0, none⟩) (n + m) (grownCap w (n + m) cap e) := by simp [D.val, D.cells, D.isAgg, hb']
    rw [hv']

end Go.CE

/- A small program logic, eighteenth text: calls that are handed blocks, as a walk takes them. -/
namespace Go.CE
open Go.RowKit

variable {P : Program} {T : Tab} {w0 w : World} {pins : Pins} {N : Nat} {env : Env} {gs : List Nat} {L : List Ent} {β : Nat → Nat} {a : Act} {C : Calls'} {ds : List Deferred}

mutual
/-- It holds no slice into memory. -/
def Sl0 : D → Prop
  | .v _ => True
  | .st _ ds => Sl0L ds
  | .ar n _ f => ∀ i, i < n → Sl0 (f i)
  | .sl .. => False
  | .p .. => True
  | .os .. => True
  | .rp .. => False
  | .fn _ cs => Sl0L cs
  | .tup ds => Sl0L ds
def Sl0L : List D → Prop
  | [] => True
  | d :: r => Sl0 d ∧ Sl0L r
end
def SlE : Ent → Prop
  | .var _ d => Sl0 d
  | .row _ _ n f _ => ∀ i, i < n → Sl0 (f i)
  | .dead => True
mutual
theorem Ok.nosl {A A' : Dom} (hn : A.n ≤ A'.n) : ∀ d, Sl0 d → Ok T w A d → Ok T w A' d
  | .v _, _, h => h
  | .st _ ds, hs, h => ⟨h.1, OkL.nosl hn ds hs h.2⟩
  | .ar _ _ f, hs, h => fun i hi => ⟨(h i hi).1, Ok.nosl hn (f i) (hs i hi) (h i hi).2⟩
  | .sl .., hs, _ => hs.elim
  | .p .., _, h => ⟨Nat.lt_of_lt_of_le h.1 hn, h.2⟩
  | .os .., _, h => Nat.lt_of_lt_of_le h hn
  | .rp .., hs, _ => hs.elim
  | .fn _ cs, hs, h => OkL.nosl hn cs hs h
  | .tup _, _, h => h.elim
theorem OkL.nosl {A A' : Dom} (hn : A.n ≤ A'.n) : ∀ ds, Sl0L ds → OkL T w A ds → OkL T w A' ds
  | [], _, h => h
  | d :: r, hs, h => ⟨Ok.nosl hn d hs.1 h.1, OkL.nosl hn r hs.2 h.2⟩
end
theorem OkT.nosl {A A' : Dom} (hn : A.n ≤ A'.n) {d : D} (hs : Sl0 d) (h : OkT T w A d) : OkT T w A' d := by
  cases d with
  | tup ds => exact OkL.nosl hn ds hs h
  | _ => exact (Ok.nosl hn _ hs h).top
theorem MemOk.nosl {G G' : Nat → Prop} (hs : ∀ k e, nth L k = some e → SlE e) (h : MemOk T G L β w) : MemOk T G' L β w := by
  refine ⟨fun k e hk => ?_, h.inj⟩
  have ho := h.ent k e hk
  have hs := hs k e hk
  cases e with
  | var t d => exact ⟨ho.1, ho.2.1, Ok.nosl (A := Own G L β) (A' := Own G' L β) (Nat.le_refl _) d hs ho.2.2⟩
  | row e sz n f cap => obtain ⟨cur, h1, h2, h3, h4, h5, h6, h7, h8⟩ := ho; exact ⟨cur, h1, h2, h3, h4, h5, h6, fun i hi => ⟨(h7 i hi).1, Ok.nosl (A := Own G L β) (A' := Own G' L β) (Nat.le_refl _) _ (hs i hi) (h7 i hi).2⟩, h8⟩
  | dead => exact ho

mutual
theorem Ok.back {A A' : Dom} {r : Nat → Nat} (hA : ∀ b, A.ok b → A'.ok b) : ∀ d, Idx (· < A'.n) d → Ok T w A (d.ren r) → Ok T w A' d
  | .v _, _, h => h
  | .st s ds, hi, h => ⟨by obtain ⟨⟨fs, b, z, h1, h2⟩, _⟩ := h; exact ⟨fs, b, z, h1, by rw [D.renL_size] at h2; exact h2⟩, OkL.back hA ds hi h.2⟩
  | .ar _ _ f, hi, h => fun i hl => ⟨by have := (h i hl).1; rw [D.ren_size] at this; exact this, Ok.back hA (f i) (hi i hl) (h i hl).2⟩
  | .sl _ _ _ f, _, h => ⟨h.1.wide hA, fun i hi => ⟨(h.2 i hi).1, Ok.cl hA (f i) (h.2 i hi).2.2 (h.2 i hi).2.1, (h.2 i hi).2.2⟩⟩
  | .p .., hi, h => ⟨hi, h.2⟩
  | .os .., hi, _ => hi
  | .rp _ _ _ f _ _, _, h => ⟨⟨h.1.1.wide hA, fun i hi => ⟨(h.1.2 i hi).1, Ok.cl hA (f i) (h.1.2 i hi).2.2 (h.1.2 i hi).2.1, (h.1.2 i hi).2.2⟩⟩, h.2⟩
  | .fn _ cs, hi, h => OkL.back hA cs hi h
  | .tup _, _, h => h.elim
theorem OkL.back {A A' : Dom} {r : Nat → Nat} (hA : ∀ b, A.ok b → A'.ok b) : ∀ ds, IdxL (· < A'.n) ds → OkL T w A (D.renL r ds) → OkL T w A' ds
  | [], _, h => h
  | d :: q, hi, h => ⟨Ok.back hA d hi.1 h.1, OkL.back hA q hi.2 h.2⟩
end

/-- The entries that are handed over are those that the callee speaks of. -/
def HandE (L : List Ent) (r : Nat → Nat) (n : Nat) : List Nat → List Ent → Prop
  | [], [] => True
  | k :: ρ, e :: L0 => (∃ e', nth L k = some e' ∧ SameE e' (e.ren r)) ∧ IdxE (· < n) e ∧ e.alive = true ∧ HandE L r n ρ L0
  | _, _ => False
theorem HandE.get {L : List Ent} {r : Nat → Nat} {n : Nat} : ∀ {ρ : List Nat} {L0 : List Ent}, HandE L r n ρ L0 → L0.length = ρ.length ∧ ∀ j e, nth L0 j = some e → ∃ k e', nth ρ j = some k ∧ nth L k = some e' ∧ SameE e' (e.ren r) ∧ IdxE (· < n) e ∧ e.alive = true
  | [], [], _ => ⟨rfl, fun j e h => by cases h⟩
  | k :: ρ, e :: L0, h => by
    obtain ⟨⟨e', h1, h2⟩, h3, h4, h5⟩ := h
    obtain ⟨g1, g2⟩ := h5.get
    refine ⟨by simp [g1], fun j y hy => ?_⟩
    cases j with
    | zero => simp only [nth, Option.some.injEq] at hy; subst hy; exact ⟨k, e', rfl, h1, h2, h3, h4⟩
    | succ j => simp only [nth] at hy; obtain ⟨k', e2, q⟩ := g2 j y hy; exact ⟨k', e2, by simpa [nth] using q.1, q.2⟩
  | [], _ :: _, h => h.elim
  | _ :: _, [], h => h.elim
theorem SameE.alive {e e' : Ent} (h : SameE e e') : e.alive = true := by cases e <;> cases e' <;> first | rfl | exact h.elim

/-- Entries that are not handed over lead to none of those that are given away. -/
def IdxM (S : Nat → Prop) (ρ : List Nat) : Nat → List Ent → Prop
  | _, [] => True
  | k, e :: r => (elemN k ρ = true ∨ IdxE S e) ∧ IdxM S ρ (k + 1) r
theorem IdxM.get {S : Nat → Prop} {ρ : List Nat} : ∀ {l : List Ent} {k0 : Nat}, IdxM S ρ k0 l → ∀ k e, nth l k = some e → (∀ i ∈ ρ, i ≠ k0 + k) → IdxE S e
  | e :: r, k0, h, 0, y, hy, hn => by
    simp only [nth, Option.some.injEq] at hy
    subst hy
    rcases h.1 with h1 | h1
    · rw [elemN_iff] at h1; exact absurd rfl (hn _ h1)
    · exact h1
  | e :: r, k0, h, k + 1, y, hy, hn => h.2.get k y (by simpa [nth] using hy) fun i hi => by have := hn i hi; omega
/-- What is known of the temporaries leads to none of those that are given away. -/
def IdxN (S : Nat → Prop) : Env → Prop
  | [] => True
  | (_, .d x) :: r => Idx S x ∧ IdxN S r
  | (_, .g ..) :: _ => False
theorem IdxN.get {S : Nat → Prop} : ∀ {env : Env}, IdxN S env → ∀ t b, look t env = some b → ∃ x, b = .d x ∧ Idx S x
  | (s, .d x) :: r, h, t, b, hb => by
    by_cases e : s = t
    · subst e
      rw [look_cons_eq] at hb
      simp only [Option.some.injEq] at hb
      subst hb
      exact ⟨x, rfl, h.1⟩
    · rw [look_cons_ne e] at hb
      exact h.2.get t b hb
  | (_, .g ..) :: _, h, _, _, _ => h.elim
  | [], _, _, _, hb => by simp [look] at hb

/-- A call's answer, put down. -/
def dstE (dst : Option Nat) (y : D) (env : Env) : Env := match dst with
  | some d => (d, .d y) :: env
  | none => env

theorem Act.put_none (a : Act) (v : Value) : a.put none v = a := rfl

theorem SS.dst (h : SS T w0 pins N env [] L β a.tmps w) {dst : Option Nat} {y : D} {v : Value} (hd : ∀ d, dst = some d → d < N) (hy : OkT T w (Own pins.G L β) y) (hv : v = y.val T β) : SS T w0 pins N (dstE dst y env) [] L β (a.put dst v).tmps w := by
  cases dst with
  | none => exact h
  | some d => exact h.set (hd d rfl) rfl hy hv

theorem execOp_call {f : Nat} {cv : Operand} {args : List Operand} {ty : Array TypeId} {vs cs : Array Value} {o : Oper} (hE : Enters P f) (hop : o.op = .call ⟨.value cv, ⟨args⟩, ty⟩) (hcv : a.eval cv = .func (.func f) #[] cs) (hx : (⟨args⟩ : Array Operand).map a.eval = vs) :
    (execOp a.eval o).run P w = .ok (.enter f (vs ++ cs)) w := by
  have := hE (vs ++ cs) w
  simp only [execOp, hop, resolve, hcv, hx, Deferred.ofValue, Sem.run_bind, Sem.run_pure, Result.andThen_ok, invoke, Array.empty_append]
  exact this

/-- A place for an answer is one of the frame's. -/
def dstB (N : Nat) : Option Nat → Bool
  | some d => !(Nat.ble N d)
  | none => true
theorem dstB_lt {N : Nat} {dst : Option Nat} (h : dstB N dst = true) : ∀ d, dst = some d → d < N := fun d hd => by
  subst hd
  refine Nat.lt_of_not_le fun hle => ?_
  simp [dstB, Nat.ble_eq_true_of_le hle] at h

/-- A call that is handed the blocks ρ, and that sees the blocks vs. -/
theorem callv {f : Nat} {xs0 : List D} {L0 : List Ent} {m : Nat} {R : D → List Ent → Prop} (hE : Enters P f) (hc : Con P T f xs0 L0 m R) (hS : Ste T w0 pins N ds env gs L β a w) {l rest : List Oper} {Q : Exit → Act → World → Prop} {o : Oper} {cv : Operand} {args : List Operand} {ty : Array TypeId} {caps xs : List D}
    (hg : o.guard = none) (hop : o.op = .call ⟨.value cv, ⟨args⟩, ty⟩) (hcv : opd (lkU env) cv = some (.fn f caps)) (hx : opds (lkU env) args = some xs) (hdst : dstB N o.dst = true)
    (ρ vs : List Nat) (hn : ρ.Nodup) (hvs : ∀ k ∈ vs, k ∉ ρ ∧ ∃ e, nth L k = some e ∧ e.alive = true)
    (hxv : (xs ++ caps).map (D.val T β) = (D.renL (rn ρ L.length) xs0).map (D.val T β)) (hxi : IdxL (· < L0.length) xs0) (hxo : OkL T w ⟨fun b => (Own pins.G L β).ok b ∨ ∃ k ∈ vs, β k = b, L.length⟩ (D.renL (rn ρ L.length) xs0))
    (hH : HandE L (rn ρ L.length) L0.length ρ L0) (hm : ∀ k ∈ ρ.drop m, pins.fix.length ≤ k) (hml : m ≤ L0.length)
    (ts : List Nat) {env2 : Env} (he : keepE env ts [] = some env2) (hI : IdxN (fun k => k ∉ ρ.drop m) env2) (hM : IdxM (fun k => k ∉ ρ.drop m) ρ 0 L)
    (hN : vs = [] ∨ ∀ y L1, R y L1 → Sl0 y ∧ ∀ k e, nth L1 k = some e → SlE e)
    (hk : ∀ y L1, R y L1 → ∀ β' a' w', Ste T w0 pins N ds (dstE o.dst (y.ren (rn ρ L.length)) env2) [] (putE (rn ρ L.length) ρ L1 L) β' a' w' → wpList P l.toArray Q rest a' w') : wpList P l.toArray Q (o :: rest) a w := by
  obtain ⟨hHl, hHg⟩ := hH.get
  have hρL : ∀ k ∈ ρ, k < L.length := fun k hk => by
    obtain ⟨j, hj⟩ := List.mem_iff_getElem?.1 hk
    have hjl : j < L0.length := by rw [hHl]; exact (List.getElem?_eq_some_iff.1 hj).1
    obtain ⟨e, he⟩ := nth_of_lt L0 j hjl
    obtain ⟨k', e', h1, h2, _⟩ := hHg j e he
    rw [nth_get, hj] at h1
    cases h1
    exact nth_lt _ _ _ h2
  have hb0 : ∀ j, j < L0.length → ∃ k e e', nth L0 j = some e ∧ nth ρ j = some k ∧ nth L k = some e' ∧ SameE e' (e.ren (rn ρ L.length)) ∧ IdxE (· < L0.length) e ∧ rn ρ L.length j = k := fun j hj => by
    obtain ⟨e, he⟩ := nth_of_lt L0 j hj
    obtain ⟨k, e', h1, h2, h3, h4, _⟩ := hHg j e he
    exact ⟨k, e, e', he, h1, h2, h3, h4, by simp only [rn, h1]⟩
  have hmemρ : ∀ j k, nth ρ j = some k → k ∈ ρ := fun j k h => by rw [nth_get] at h; exact List.mem_of_getElem? h
  obtain ⟨G', hG'⟩ : ∃ G' : Nat → Prop, G' = fun b => pins.G b ∧ ∀ k e, nth L k = some e → e.alive = true → (∀ i ∈ ρ, i ≠ k) → β k ≠ b := ⟨_, rfl⟩
  obtain ⟨V, hV⟩ : ∃ V : Nat → Prop, V = fun b => ∃ k ∈ vs, β k = b := ⟨_, rfl⟩
  have hA : ∀ b, (Own pins.G L β).ok b ∨ V b → (Own (fun b => G' b ∨ V b) L0 fun j => β (rn ρ L.length j)).ok b := fun b hb => by
    refine ⟨?_, fun j e he ha heq => ?_⟩
    · rcases hb with hb | hb
      · left; rw [hG']; exact ⟨hb.1, fun k e hk ha _ => hb.2 k e hk ha⟩
      · exact .inr hb
    · obtain ⟨k, _, e', _, h1, h2, h3, _, h4⟩ := hb0 j (nth_lt _ _ _ he)
      simp only [h4] at heq
      rcases hb with hb | hb
      · exact hb.2 k e' h2 h3.alive heq
      · rw [hV] at hb
        obtain ⟨kv, hkv, hkb⟩ := hb
        obtain ⟨g1, ev, g2, g3⟩ := hvs kv hkv
        have := hS.ss.mem.inj kv k ev e' g2 h2 g3 h3.alive (hkb.trans heq.symm)
        exact g1 (this ▸ hmemρ _ _ h1)
  have hmem0 : MemOk T (fun b => G' b ∨ V b) L0 (fun j => β (rn ρ L.length j)) w := by
    refine ⟨fun j e hj => ?_, fun i j d e hi hj _ _ hij => ?_⟩
    · obtain ⟨k, e0, e', h0, h1, h2, h3, h5, h4⟩ := hb0 j (nth_lt _ _ _ hj)
      rw [hj] at h0
      cases h0
      have ho := hS.ss.mem.ent k e' h2
      have hA2 : ∀ b, (Own pins.G L β).ok b → (Own (fun b => G' b ∨ V b) L0 fun j => β (rn ρ L.length j)).ok b := fun b hb => hA b (.inl hb)
      cases e with
      | var t d =>
        cases e' with
        | var t' d' =>
          obtain ⟨rfl, rfl⟩ := h3
          obtain ⟨o1, o2, o3⟩ := ho
          refine ⟨?_, by rw [D.ren_size] at o2; exact o2, Ok.back hA2 d h5 o3⟩
          rw [D.ren_cells] at o1
          simp only [h4]
          exact o1
        | _ => exact h3.elim
      | row e sz n f cap =>
        cases e' with
        | row e2 sz' n' f' cap' =>
          obtain ⟨rfl, rfl, rfl, rfl, hff⟩ := h3
          obtain ⟨cur, o1, o2, o3, o4, o5, o6, o7, o8⟩ := ho
          refine ⟨cur, by simp only [h4]; exact o1, o2, o3, o4, o5, o6, fun i hi => ?_, fun i hi j' v hv => ?_⟩
          · have := o7 i hi
            rw [hff i hi] at this
            exact ⟨by rw [D.ren_size] at this; exact this.1, Ok.back hA2 (f i) (h5 i hi) this.2⟩
          · refine o8 i hi j' v ?_
            rw [hff i hi, D.ren_cells]
            exact hv
        | _ => exact h3.elim
      | dead => obtain ⟨_, _, _, _, _, _, hd⟩ := hHg j _ hj; cases hd
    · obtain ⟨k1, _, e1, _, _, h2, h3, _, h4⟩ := hb0 i (nth_lt _ _ _ hi)
      obtain ⟨k2, _, e2, _, _, g2, g3, _, g4⟩ := hb0 j (nth_lt _ _ _ hj)
      have := hS.ss.mem.inj k1 k2 e1 e2 h2 g2 h3.alive g3.alive (by simpa only [h4, g4] using hij)
      exact rn_inj hn hρL (h4.trans (this.trans g4.symm))
  have hlk := hS.ss.lkU
  obtain ⟨x1, x2⟩ := opds_ok hlk hx
  obtain ⟨c1, c2⟩ := opd_ok hlk hcv
  have hcall := hc (fun b => G' b ∨ V b) (fun j => β (rn ρ L.length j)) w hmem0 (OkL_iff.1 (OkL.back (A' := Own (fun b => G' b ∨ V b) L0 fun j => β (rn ρ L.length j)) (fun b hb => hA b (by rw [hV]; exact hb)) xs0 hxi hxo))
    (fun b hb => .inl (by
      rw [hG']
      exact ⟨hS.ss.good b (.inl (Nat.le_trans hS.ss.keep.size hb)), fun k e hk _ _ heq => by have := hS.ss.mem.lt (nth_lt _ _ _ hk); omega⟩))
    (fun j hj hjl => .inl (by
      obtain ⟨k, _, e', _, h1, h2, h3, _, h4⟩ := hb0 j hjl
      simp only [h4]
      rw [hG']
      refine ⟨?_, fun k' e2 hk' ha' hi heq => hi k (hmemρ _ _ h1) (hS.ss.mem.inj k' k e2 e' hk' h2 ha' h3.alive heq).symm⟩
      have hkd : k ∈ ρ.drop m := List.mem_iff_getElem?.2 ⟨j - m, by rw [List.getElem?_drop, show m + (j - m) = j from by omega, ← nth_get]; exact h1⟩
      rcases hS.ss.new k (hm k hkd) (nth_lt _ _ _ h2) with q | q
      · exact hS.ss.good _ (.inl q)
      · exact hS.ss.good _ (.inr q)))
  have hvals : (⟨args⟩ : Array Operand).map a.eval = (xs.map (D.val T β)).toArray := by
    rw [← x1]; simp
  have hcs : a.eval cv = .func (.func f) #[] (caps.map (D.val T β)).toArray := by
    rw [c1]; simp [D.val, D.cells, D.isAgg, valL_map]
  have hent := execOp_call (w := w) (o := o) hE hop hcs hvals
  have harg : (xs.map (D.val T β)).toArray ++ (caps.map (D.val T β)).toArray = (xs0.map (D.val T fun j => β (rn ρ L.length j))).toArray := by
    have h1 : (xs.map (D.val T β)).toArray ++ (caps.map (D.val T β)).toArray = ((xs ++ caps).map (D.val T β)).toArray := by simp
    rw [h1, hxv, ← valL_map, D.renL_vals, valL_map]
  rw [harg] at hent
  unfold wpList
  rw [if_pos (by simp [Region.wanted, hg])]
  left
  unfold Oper.wp
  rw [hent]
  refine hcall.mono ?_
  rintro e w' ⟨y, L1, β1, hR, rfl, hM1, hy1, hK1, hl1, hb1, hn1⟩
  have hM2 : MemOk T G' L1 β1 w' ∧ OkT T w' (Own G' L1 β1) y := by
    rcases hN with hN | hN
    · subst hN
      have : (fun b => G' b ∨ V b) = G' := by
        funext b
        rw [hV]
        simp
      rw [this] at hM1 hy1
      exact ⟨hM1, hy1⟩
    · obtain ⟨q1, q2⟩ := hN y L1 hR
      exact ⟨hM1.nosl q2, OkT.nosl (A := Own (fun b => G' b ∨ V b) L1 β1) (A' := Own G' L1 β1) (Nat.le_refl _) q1 hy1⟩
  have hK2 : Keep w (pinsOf (fun j => β (rn ρ L.length j)) m L0.length G') w' := ⟨hK1.os, hK1.tape, hK1.output, hK1.size, hK1.block⟩
  have hS1 : Ste T w0 pins N ds env2 [] L β a w := Ste.keepE ⟨hS.ss, hS.df⟩ he
  obtain ⟨s1, s2, s3⟩ := hS1.ss.called (ρ := ρ) (L0 := L0) (m := m) hn hρL hHl (fun j hj => by
      obtain ⟨k, _, e', _, h1, h2, h3, _⟩ := hb0 j hj
      exact ⟨k, e', h1, h2, h3.alive⟩) (fun j k hj hjk => hm k (List.mem_iff_getElem?.2 ⟨j - m, by rw [List.getElem?_drop, show m + (j - m) = j from by omega, ← nth_get]; exact hjk⟩))
    (S := fun k => k < L.length ∧ k ∉ ρ.drop m) (fun k hk => hk.1) (fun j k hj hjk hs => hs.2 (List.mem_iff_getElem?.2 ⟨j - m, by rw [List.getElem?_drop, show m + (j - m) = j from by omega, ← nth_get]; exact hjk⟩))
    (env2 := env2) (fun t b hb => by
      obtain ⟨x, rfl, hix⟩ := hI.get t b hb
      have hox := (hS1.ss.tmp t _ hb).2
      exact ⟨x, rfl, hb, Idx.both _ (OkT.idx hox) hix⟩) (fun k e hk hnr => IdxE.both (EntOk.idx (hS.ss.mem.ent k e hk)) (hM.get k e hk (by simpa using hnr)))
    G' hG' hM2.1 hM2.2 hK2 hl1 (fun k hk => hb1 k hk) hml hn1
  have hput : (a.put o.dst (y.val T β1)).defers = ds := by rw [Act.put_defers]; exact hS.df
  exact hk y L1 hR _ _ w' ⟨SS.dst s1 (dstB_lt hdst) s3 s2, hput⟩

end Go.CE

/- A small program logic, nineteenth text: contracts: how they are entered, left and used. -/
namespace Go.CE
open Go.RowKit

variable {P : Program} {T : Tab} {w0 w : World} {pins : Pins} {N : Nat} {env : Env} {gs : List Nat} {L : List Ent} {β : Nat → Nat} {a : Act} {C : Calls'} {ds : List Deferred}

theorem Idx.all {S : Nat → Prop} (hS : ∀ k, S k) : ∀ d, Idx S d := by
  intro d
  refine D.rec (motive_1 := fun d => Idx S d) (motive_2 := fun ds => IdxL S ds) ?_ ?_ ?_ ?_ ?_ ?_ ?_ ?_ ?_ ?_ ?_ d
  · intro x; trivial
  · intro s ds h; exact h
  · intro n sz f h i _; exact h i
  · intros; trivial
  · intro k π; exact hS k
  · intro k n cap; exact hS k
  · intros; trivial
  · intro f cs h; exact h
  · intro ds h; exact h
  · trivial
  · intro d r h1 h2; exact ⟨h1, h2⟩
theorem IdxM.all {S : Nat → Prop} (hS : ∀ k, S k) {ρ : List Nat} : ∀ (l : List Ent) (k : Nat), IdxM S ρ k l
  | [], _ => trivial
  | e :: r, k => ⟨.inr (by cases e with | var t d => exact Idx.all hS d | row e sz n f cap => exact fun i _ => Idx.all hS (f i) | dead => trivial), IdxM.all hS r (k + 1)⟩
theorem keepE_d : ∀ (ts : List Nat) (acc e : Env), keepE env ts acc = some e → (∀ q ∈ acc, ∃ x, q.2 = .d x) → ∀ q ∈ e, ∃ x, q.2 = .d x
  | [], acc, e, h, ha => by simp only [keepE, Option.some.injEq] at h; subst h; exact ha
  | s :: r, acc, e, h, ha => by
    simp only [keepE] at h
    split at h
    · exact keepE_d r _ e h fun q hq => by rcases List.mem_cons.1 hq with rfl | hq; exact ⟨_, rfl⟩; exact ha q hq
    · exact keepE_d r acc e h ha
theorem IdxN.all {S : Nat → Prop} (hS : ∀ k, S k) : ∀ {e : Env}, (∀ q ∈ e, ∃ x, q.2 = .d x) → IdxN S e
  | [], _ => trivial
  | (t, b) :: r, h => by
    obtain ⟨x, hx⟩ := h (t, b) (by simp)
    simp only at hx
    subst hx
    exact ⟨Idx.all hS x, IdxN.all hS fun q hq => h q (by simp [hq])⟩

/-- A contract of a function that is handed no block: what is known of its answer. -/
def Fun (P : Program) (T : Tab) (f : Nat) (xs : List D) (R : D → Prop) : Prop := Con P T f xs [] 0 fun y L1 => R y ∧ Cl y ∧ L1 = []

theorem nodup_nil : ([] : List Nat).Nodup := List.nodup_nil

theorem closed_ren {d : D} (r : Nat → Nat) (β β' : Nat → Nat) (h : Cl d) : (d.ren r).val T β = d.val T β' := by unfold D.val; rw [D.ren_isAgg, Cl.ren_cells r β β' h]

theorem OkT.unren {A : Dom} {r : Nat → Nat} {d : D} (hc : Cl d) (h : OkT T w A (d.ren r)) : OkT T w A d := by
  cases d with
  | tup ds => exact OkL.unren ds hc h
  | _ => exact (Ok.unren (r := r) _ hc h).top

/-- A temporary told in other words. -/
theorem SS.retold {t : Nat} {x : D} (h : SS T w0 pins N ((t, .d x) :: env) [] L β a.tmps w) {y : D} (hv : x.val T β = y.val T β) (ho : OkT T w (Own pins.G L β) x → OkT T w (Own pins.G L β) y) : SS T w0 pins N ((t, .d y) :: env) [] L β a.tmps w := by
  refine ⟨h.n, fun s b hb => ?_, h.mem, h.keep, h.new, h.pin, h.good⟩
  by_cases e : t = s
  · subst e
    rw [look_cons_eq] at hb
    simp only [Option.some.injEq] at hb
    subst hb
    have := h.tmp t _ look_cons_eq
    exact ⟨by rw [← hv]; exact this.1, ho this.2⟩
  · rw [look_cons_ne e] at hb
    have h1 := h.tmp s b (by rw [look_cons_ne e]; exact hb)
    cases b with
    | d y => exact h1
    | g tc wb y => exact absurd h1.1 (by simp [elemN])

/-- A call that is handed no block; it may see the blocks vs. -/
theorem callw {f : Nat} {xs0 : List D} {R : D → Prop} (hE : Enters P f) (hc : Fun P T f xs0 R) (hS : Ste T w0 pins N ds env gs L β a w) {l rest : List Oper} {Q : Exit → Act → World → Prop} {o : Oper} {cv : Operand} {args : List Operand} {ty : Array TypeId} {caps xs : List D}
    (hg : o.guard = none) (hop : o.op = .call ⟨.value cv, ⟨args⟩, ty⟩) (hcv : opd (lkU env) cv = some (.fn f caps)) (hx : opds (lkU env) args = some xs) (hdst : dstB N o.dst = true)
    (vs : List Nat) (hvs : ∀ k ∈ vs, ∃ e, nth L k = some e ∧ e.alive = true) (hxv : (xs ++ caps).map (D.val T β) = xs0.map (D.val T β)) (hxc : ClL xs0) (hxo : OkL T w ⟨fun b => (Own pins.G L β).ok b ∨ ∃ k ∈ vs, β k = b, L.length⟩ xs0)
    (ts : List Nat) {env2 : Env} (he : keepE env ts [] = some env2) (hN : vs = [] ∨ ∀ y, R y → Sl0 y)
    (hk : ∀ y, R y → ∀ β' a' w', Ste T w0 pins N ds (dstE o.dst y env2) [] L β' a' w' → wpList P l.toArray Q rest a' w') : wpList P l.toArray Q (o :: rest) a w := by
  have hS0 : ∀ k : Nat, k ∉ ([] : List Nat).drop 0 := fun k => by simp
  refine callv hE hc hS hg hop hcv hx hdst [] vs nodup_nil (fun k hk => ⟨by simp, hvs k hk⟩) ?_ (ClL.idx _ _ hxc) (OkL.ren (r := rn [] L.length) (A := ⟨fun b => (Own pins.G L β).ok b ∨ ∃ k ∈ vs, β k = b, 0⟩) (A' := ⟨fun b => (Own pins.G L β).ok b ∨ ∃ k ∈ vs, β k = b, L.length⟩) (fun _ h => h) (fun k hk => absurd hk (Nat.not_lt_zero _)) _ ?_) trivial (by simp) (Nat.zero_le _) ts he (IdxN.all hS0 (keepE_d ts [] env2 he (by simp))) (IdxM.all hS0 L 0) ?_ ?_
  · rw [hxv, ← valL_map, ← valL_map, D.renL_vals]
    exact (ClL.vals _ _ _ hxc)
  · exact OkL.cl (A := ⟨fun b => (Own pins.G L β).ok b ∨ ∃ k ∈ vs, β k = b, L.length⟩) (A' := ⟨fun b => (Own pins.G L β).ok b ∨ ∃ k ∈ vs, β k = b, 0⟩) (fun _ h => h) _ hxc hxo
  · rcases hN with h | h
    · exact .inl h
    · exact .inr fun y L1 ⟨h1, h2, h3⟩ => ⟨h y h1, fun k e hk => by subst h3; cases hk⟩
  · rintro y L1 ⟨h1, h2, rfl⟩ β' a' w' hS'
    simp only [putE, List.map_nil, List.append_nil] at hS'
    refine hk y h1 β' a' w' ?_
    cases hd : o.dst with
    | none => rw [hd] at hS'; exact hS'
    | some d => rw [hd] at hS'; exact ⟨SS.retold hS'.ss (closed_ren _ _ _ h2) (OkT.unren h2), hS'.df⟩

/-- A call of plain arguments. -/
theorem call0 {f : Nat} {xs : List D} {R : D → Prop} (hE : Enters P f) (hc : Fun P T f xs R) (hS : Ste T w0 pins N ds env gs L β a w) {l rest : List Oper} {Q : Exit → Act → World → Prop} {o : Oper} {cv : Operand} {args : List Operand} {ty : Array TypeId}
    (ts : List Nat) (hg : o.guard = none) (hop : o.op = .call ⟨.value cv, ⟨args⟩, ty⟩) (hcv : opd (lkU env) cv = some (.fn f [])) (hx : opds (lkU env) args = some xs) (hdst : dstB N o.dst = true) (hxc : ClL xs)
    {env2 : Env} (he : keepE env ts [] = some env2)
    (hk : ∀ y, R y → ∀ β' a' w', Ste T w0 pins N ds (dstE o.dst y env2) [] L β' a' w' → wpList P l.toArray Q rest a' w') : wpList P l.toArray Q (o :: rest) a w := by
  obtain ⟨x1, x2⟩ := opds_ok hS.ss.lkU hx
  refine callw hE hc hS hg hop hcv hx hdst [] (by simp) (by simp) hxc (OkL.cl (A := Own pins.G L β) (A' := ⟨fun b => (Own pins.G L β).ok b ∨ ∃ k ∈ ([] : List Nat), β k = b, L.length⟩) (fun b hb => Or.inl hb) _ hxc (OkL_iff.2 x2)) ts he (.inl rfl) hk

/-- A call that is handed the blocks ρ. -/
theorem callc {f : Nat} {xs0 : List D} {L0 : List Ent} {m : Nat} {R : D → List Ent → Prop} (hE : Enters P f) (hc : Con P T f xs0 L0 m R) (hS : Ste T w0 pins N ds env gs L β a w) {l rest : List Oper} {Q : Exit → Act → World → Prop} {o : Oper} {cv : Operand} {args : List Operand} {ty : Array TypeId} {caps xs : List D}
    (ts ρ : List Nat) (hg : o.guard = none) (hop : o.op = .call ⟨.value cv, ⟨args⟩, ty⟩) (hcv : opd (lkU env) cv = some (.fn f caps)) (hx : opds (lkU env) args = some xs) (hdst : dstB N o.dst = true)
    (hn : ρ.Nodup) (hxx : xs ++ caps = D.renL (rn ρ L.length) xs0) (hxi : IdxL (· < L0.length) xs0)
    (hH : HandE L (rn ρ L.length) L0.length ρ L0) (hm : ∀ k ∈ ρ.drop m, pins.fix.length ≤ k) (hml : Nat.ble m L0.length = true)
    {env2 : Env} (he : keepE env ts [] = some env2) (hI : IdxN (fun k => k ∉ ρ.drop m) env2) (hM : IdxM (fun k => k ∉ ρ.drop m) ρ 0 L)
    (hk : ∀ y L1, R y L1 → ∀ β' a' w', Ste T w0 pins N ds (dstE o.dst (y.ren (rn ρ L.length)) env2) [] (putE (rn ρ L.length) ρ L1 L) β' a' w' → wpList P l.toArray Q rest a' w') : wpList P l.toArray Q (o :: rest) a w := by
  obtain ⟨x1, x2⟩ := opds_ok hS.ss.lkU hx
  obtain ⟨c1, c2⟩ := opd_ok hS.ss.lkU hcv
  have hall : OkL T w (Own pins.G L β) (xs ++ caps) := OkL_iff.2 fun d hd => by
    rcases List.mem_append.1 hd with hd | hd
    · exact x2 d hd
    · exact OkL_iff.1 c2 d hd
  refine callv hE hc hS hg hop hcv hx hdst ρ [] hn (by simp) (by rw [hxx]) hxi ?_ hH hm (Nat.le_of_ble_eq_true hml) ts he hI hM (.inl rfl) hk
  rw [← hxx]
  have : (⟨fun b => (Own pins.G L β).ok b ∨ ∃ k ∈ ([] : List Nat), β k = b, L.length⟩ : Dom) = Own pins.G L β := by
    simp [Own]
  rw [this]
  exact hall

/-- A call that is handed the blocks ρ, all of which stay where they are. -/
theorem callf {f : Nat} {xs0 : List D} {L0 : List Ent} {m : Nat} {R : D → List Ent → Prop} (hE : Enters P f) (hc : Con P T f xs0 L0 m R) (hS : Ste T w0 pins N ds env gs L β a w) {l rest : List Oper} {Q : Exit → Act → World → Prop} {o : Oper} {cv : Operand} {args : List Operand} {ty : Array TypeId} {caps xs : List D}
    (ts ρ : List Nat) (hg : o.guard = none) (hop : o.op = .call ⟨.value cv, ⟨args⟩, ty⟩) (hcv : opd (lkU env) cv = some (.fn f caps)) (hx : opds (lkU env) args = some xs) (hdst : dstB N o.dst = true)
    (hn : ρ.Nodup) (hxx : xs ++ caps = D.renL (rn ρ L.length) xs0) {env2 : Env} (he : keepE env ts [] = some env2) (hml : L0.length = m) (hxi : IdxL (· < L0.length) xs0)
    (hH : HandE L (rn ρ L.length) L0.length ρ L0)
    (hk : ∀ y L1, R y L1 → ∀ β' a' w', Ste T w0 pins N ds (dstE o.dst (y.ren (rn ρ L.length)) env2) [] (putE (rn ρ L.length) ρ L1 L) β' a' w' → wpList P l.toArray Q rest a' w') : wpList P l.toArray Q (o :: rest) a w := by
  have hd : ρ.drop m = [] := by rw [← hml, hH.get.1]; exact List.drop_length
  exact callc hE hc hS ts ρ hg hop hcv hx hdst hn hxx hxi hH (by rw [hd]; simp) (by rw [hml]; exact Nat.ble_eq_true_of_le (Nat.le_refl _)) he
    (by rw [hd]; exact IdxN.all (fun k => by simp) (keepE_d ts [] env2 he (by simp))) (by rw [hd]; exact IdxM.all (fun k => by simp) L 0) hk

/-! ### In and out -/

/-- What a contract asks of a run's end. -/
def CPost (T : Tab) (w : World) (β : Nat → Nat) (n m : Nat) (G : Nat → Prop) (R : D → List Ent → Prop) : Ending → World → Prop := fun e w' =>
  ∃ y L1 β1, R y L1 ∧ e = .returned (y.val T β1) ∧ MemOk T G L1 β1 w' ∧ OkT T w' (Own G L1 β1) y ∧ Keep w (pinsOf β m n G) w' ∧
    n ≤ L1.length ∧ (∀ k, k < m → β1 k = β k) ∧ (∀ k, m ≤ k → k < L1.length → w.heap.size ≤ β1 k ∨ ∃ j, m ≤ j ∧ j < n ∧ β1 k = β j)

theorem Con.intro {f : Nat} {fn : Func} {c : Code} {xs : List D} {L0 : List Ent} {m : Nat} {R : D → List Ent → Prop} (hf : P.funcs[f]? = some fn) (hb : fn.body = some c) (hl : Nat.ble xs.length fn.ntmps = true) (he : argE 0 xs [] = some env) (hml : Nat.ble m L0.length = true)
    (h : ∀ G w0 β0 β a w, Ste T w0 (pinsOf β0 m L0.length G) fn.ntmps [] env [] L0 β a w → c.wp P (bodyPost P fn (CPost T w0 β0 L0.length m G R)) a w) : Con P T f xs L0 m R := by
  intro G β w hM ho hg1 hg2
  exact calls_of_wp hf hb (h G w β β _ w ⟨SS.init hM (Nat.le_of_ble_eq_true hml) hg1 hg2 ho (Nat.le_of_ble_eq_true hl) he, rfl⟩)

mutual
theorem Ok.down {A A' : Dom} (hA : ∀ b, A.ok b → A'.ok b) : ∀ d, Idx (· < A'.n) d → Ok T w A d → Ok T w A' d
  | .v _, _, h => h
  | .st _ ds, hi, h => ⟨h.1, OkL.down hA ds hi h.2⟩
  | .ar _ _ f, hi, h => fun i hl => ⟨(h i hl).1, Ok.down hA (f i) (hi i hl) (h i hl).2⟩
  | .sl _ _ _ f, _, h => ⟨h.1.wide hA, fun i hi => ⟨(h.2 i hi).1, Ok.cl hA (f i) (h.2 i hi).2.2 (h.2 i hi).2.1, (h.2 i hi).2.2⟩⟩
  | .p .., hi, h => ⟨hi, h.2⟩
  | .os .., hi, _ => hi
  | .rp _ _ _ f _ _, _, h => ⟨⟨h.1.1.wide hA, fun i hi => ⟨(h.1.2 i hi).1, Ok.cl hA (f i) (h.1.2 i hi).2.2 (h.1.2 i hi).2.1, (h.1.2 i hi).2.2⟩⟩, h.2⟩
  | .fn _ cs, hi, h => OkL.down hA cs hi h
  | .tup _, _, h => h.elim
theorem OkL.down {A A' : Dom} (hA : ∀ b, A.ok b → A'.ok b) : ∀ ds, IdxL (· < A'.n) ds → OkL T w A ds → OkL T w A' ds
  | [], _, h => h
  | d :: r, hi, h => ⟨Ok.down hA d hi.1 h.1, OkL.down hA r hi.2 h.2⟩
end
theorem OkT.down {A A' : Dom} (hA : ∀ b, A.ok b → A'.ok b) {d : D} (hi : Idx (· < A'.n) d) (h : OkT T w A d) : OkT T w A' d := by
  cases d with
  | tup ds => exact OkL.down hA ds hi h
  | _ => exact (Ok.down hA _ hi h).top

theorem Own.front {G : Nat → Prop} {L1 J : List Ent} {b : Nat} (h : (Own G (L1 ++ J) β).ok b) : (Own G L1 β).ok b :=
  ⟨h.1, fun k e hk ha => h.2 k e (by rw [nth_append_if, if_pos (nth_lt _ _ _ hk)]; exact hk) ha⟩

def IdxF (S : Nat → Prop) : List Ent → Prop
  | [] => True
  | e :: r => IdxE S e ∧ IdxF S r
theorem IdxF.get {S : Nat → Prop} : ∀ {l : List Ent}, IdxF S l → ∀ k e, nth l k = some e → IdxE S e
  | e :: r, h, 0, y, hy => by simp only [nth, Option.some.injEq] at hy; subst hy; exact h.1
  | e :: r, h, k + 1, y, hy => h.2.get k y (by simpa [nth] using hy)

/-- What is left of the blocks at the end. -/
theorem SS.front {w0 : World} {β0 : Nat → Nat} {m n : Nat} {G : Nat → Prop} {L1 J : List Ent} {R : D → List Ent → Prop} {y : D} (hS : SS T w0 (pinsOf β0 m n G) N env gs (L1 ++ J) β a.tmps w) (hR : R y L1) (hn : n ≤ L1.length) (hI : IdxF (· < L1.length) L1)
    (hy : OkT T w (Own G L1 β) y) : CPost T w0 β0 n m G R (.returned (y.val T β)) w := by
  have hfix : (pinsOf β0 m n G).fix.length = m := by simp [pinsOf]
  have hnth : ∀ k e, nth L1 k = some e → nth (L1 ++ J) k = some e := fun k e hk => by rw [nth_append_if, if_pos (nth_lt _ _ _ hk)]; exact hk
  refine ⟨y, L1, β, hR, rfl, ⟨fun k e hk => ?_, fun i j d e hi hj hd he hij => hS.mem.inj i j d e (hnth i d hi) (hnth j e hj) hd he hij⟩, hy, hS.keep, hn, fun k hk => ?_, fun k h1 h2 => ?_⟩
  · have ho := hS.mem.ent k e (hnth k e hk)
    have hi := hI.get k e hk
    cases e with
    | var t d => exact ⟨ho.1, ho.2.1, Ok.down (A := Own G (L1 ++ J) β) (A' := Own G L1 β) (fun _ h => Own.front h) d hi ho.2.2⟩
    | row e sz n f cap => obtain ⟨cur, g1, g2, g3, g4, g5, g6, g7, g8⟩ := ho; exact ⟨cur, g1, g2, g3, g4, g5, g6, fun i hl => ⟨(g7 i hl).1, Ok.down (A := Own G (L1 ++ J) β) (A' := Own G L1 β) (fun _ h => Own.front h) _ (hi i hl) (g7 i hl).2⟩, g8⟩
    | dead => exact ho
  · have : nth (pinsOf β0 m n G).fix k = some (β0 k) := by
      rw [nth_get]; simp [pinsOf, List.getElem?_map, List.getElem?_range hk]
    exact (hS.pin k _ this).2
  · rcases hS.new k (by rw [hfix]; exact h1) (by rw [List.length_append]; omega) with q | q
    · exact .inl q
    · obtain ⟨j, g1, g2, g3⟩ := pinsOf_more.1 q
      exact .inr ⟨j, g1, g2, g3.symm⟩

end Go.CE

/- A small program logic, twentieth text: answers; 'append', slices, guards that are known, as a walk takes them. -/
namespace Go.CE
open Go.RowKit

variable {P : Program} {T : Tab} {w0 w : World} {pins : Pins} {N : Nat} {env : Env} {gs : List Nat} {L : List Ent} {β : Nat → Nat} {a : Act} {C : Calls'} {ds : List Deferred}

/-! ### Answers -/

/-- What stands in a place for an answer. -/
def resD (T : Tab) (env : Env) (L : List Ent) : ResultVar → Option D
  | .tmp t => lkU env t
  | .cell t ty => match lkU env t with
    | some (.p k π) => (match loadD L (.p k π) with | some (d, .t) => if Nat.beq (d.size T) (sizeT T ty) && bEq d.isAgg (isAggT T ty) then some d else none | _ => none)
    | _ => none

def resS (tmps : Array Value) : ResultVar → Sem Value
  | .tmp t => pure (tmps.getD t undef)
  | .cell p t => do loadVar t (← asAddr (tmps.getD p undef))

theorem res_ok (hT : TabOk P T) (hS : SS T w0 pins N env gs L β a.tmps w) {r : ResultVar} {d : D} (h : resD T env L r = some d) :
    (resS a.tmps r).run P w = .ok (d.val T β) w ∧ OkT T w (Own pins.G L β) d := by
  cases r with
  | tmp t => obtain ⟨h1, h2⟩ := hS.lkU t d h; exact ⟨by simp [resS, h1], h2⟩
  | cell t ty =>
    simp only [resD] at h
    split at h
    · rename_i k π hp
      obtain ⟨h1, h2⟩ := hS.lkU t _ hp
      split at h
      · rename_i d' hl
        split at h
        · rename_i hc
          simp only [Bool.and_eq_true] at hc
          simp only [Option.some.injEq] at h
          subst h
          obtain ⟨g1, g2⟩ := loadD_ok hT hS.mem hl trivial h2 (Nat.eq_of_beq_eq_true hc.1) (bEq_eq hc.2)
          refine ⟨?_, g2.top⟩
          have hv : (D.p k π).val T β = .pointer (some ⟨β k, offs T π, none⟩) := rfl
          rw [hv] at g1
          simp only [resS, h1, hv, Sem.run_bind, asAddr, Sem.run_pure, Result.andThen_ok]
          simpa [Instr.loadAt, Instr.sureAddr] using g1
        · cases h
      · cases h
    · cases h

theorem res_run1 {fn : Func} {r : ResultVar} {d : D} (hT : TabOk P T) (hf : fn.results = #[r]) (hS : SS T w0 pins N env gs L β a.tmps w) (h : resD T env L r = some d) :
    (results fn a.tmps).run P w = .ok (d.val T β) w := by
  have g := (res_ok hT hS h).1
  have : (results fn a.tmps).run P w = ((resS a.tmps r).run P w).andThen fun v w => .ok v w := by
    simp only [results, hf]
    cases r <;> simp [resS, Sem.run_bind, Result.andThen] <;> (repeat' split) <;> simp_all
  rw [this, g]; rfl
theorem res_run2 {fn : Func} {r s : ResultVar} {d e : D} (hT : TabOk P T) (hf : fn.results = #[r, s]) (hS : SS T w0 pins N env gs L β a.tmps w) (h : resD T env L r = some d) (h2 : resD T env L s = some e) (hd : d.isTup = false) (he : e.isTup = false) :
    (results fn a.tmps).run P w = .ok ((D.tup [d, e]).val T β) w ∧ OkT T w (Own pins.G L β) (.tup [d, e]) := by
  obtain ⟨g1, g3⟩ := res_ok hT hS h
  obtain ⟨g2, g4⟩ := res_ok hT hS h2
  refine ⟨?_, ⟨g3.ok hd, g4.ok he, trivial⟩⟩
  have hv : (D.tup [d, e]).val T β = .tuple #[d.val T β, e.val T β] := by simp [D.val, D.cells, D.isAgg, D.valL]
  rw [hv]
  have : (results fn a.tmps).run P w = ((resS a.tmps r).run P w).andThen fun v w => ((resS a.tmps s).run P w).andThen fun u w => .ok (.tuple #[v, u]) w := by
    simp only [results, hf]
    cases r <;> cases s <;> simp [resS, Sem.run_bind, Result.andThen] <;> (repeat' split) <;> simp_all
  rw [this, g1]
  simp only [Result.andThen]
  rw [g2]

/-- The end of a contract's function. -/
theorem cret1 {fn : Func} {r : ResultVar} {x : D} {β0 : Nat → Nat} {m n : Nat} {G : Nat → Prop} {R : D → List Ent → Prop} (K : Kit P T C) (hf : fn.results = #[r]) (hS : Ste T w0 (pinsOf β0 m n G) N [] env [] L β a w) (h : resD T env L r = some x)
    (L1 J : List Ent) (hL : L = L1 ++ J) (hn : Nat.ble n L1.length = true) (hI : IdxF (· < L1.length) L1) (y : D) (hv : x.val T β = y.val T β) (hy : OkT T w (Own G L1 β) y) (hR : R y L1) :
    bodyPost P fn (CPost T w0 β0 n m G R) .ret a w := by
  refine bodyPost_ret (res_run1 K.tab hf hS.ss h) hS.df ?_
  subst hL
  rw [hv]
  exact SS.front hS.ss hR (Nat.le_of_ble_eq_true hn) hI hy
theorem cret2 {fn : Func} {r s : ResultVar} {d e : D} {β0 : Nat → Nat} {m n : Nat} {G : Nat → Prop} {R : D → List Ent → Prop} (K : Kit P T C) (hf : fn.results = #[r, s]) (hS : Ste T w0 (pinsOf β0 m n G) N [] env [] L β a w) (h : resD T env L r = some d) (h2 : resD T env L s = some e) (hd : d.isTup = false) (he : e.isTup = false)
    (L1 J : List Ent) (hL : L = L1 ++ J) (hn : Nat.ble n L1.length = true) (hI : IdxF (· < L1.length) L1) (y : D) (hv : (D.tup [d, e]).val T β = y.val T β) (hy : OkT T w (Own G L1 β) y) (hR : R y L1) :
    bodyPost P fn (CPost T w0 β0 n m G R) .ret a w := by
  refine bodyPost_ret (res_run2 K.tab hf hS.ss h h2 hd he).1 hS.df ?_
  subst hL
  rw [hv]
  exact SS.front hS.ss hR (Nat.le_of_ble_eq_true hn) hI hy
theorem cret0 {fn : Func} {β0 : Nat → Nat} {m n : Nat} {G : Nat → Prop} {R : D → List Ent → Prop} (hf : fn.results = #[]) (hS : Ste T w0 (pinsOf β0 m n G) N [] env [] L β a w)
    (L1 J : List Ent) (hL : L = L1 ++ J) (hn : Nat.ble n L1.length = true) (hI : IdxF (· < L1.length) L1) (hR : R (.tup []) L1) :
    bodyPost P fn (CPost T w0 β0 n m G R) .ret a w := by
  refine bodyPost_ret (results_none hf _ _ _) hS.df ?_
  subst hL
  have hv : (Value.tuple #[]) = (D.tup []).val T β := by simp [D.val, D.cells, D.isAgg, D.valL]
  rw [hv]
  exact SS.front hS.ss hR (Nat.le_of_ble_eq_true hn) hI trivial
theorem cend0 {fn : Func} {β0 : Nat → Nat} {m n : Nat} {G : Nat → Prop} {R : D → List Ent → Prop} (hf : fn.results = #[]) (hS : Ste T w0 (pinsOf β0 m n G) N [] env [] L β a w)
    (L1 J : List Ent) (hL : L = L1 ++ J) (hn : Nat.ble n L1.length = true) (hI : IdxF (· < L1.length) L1) (hR : R (.tup []) L1) :
    bodyPost P fn (CPost T w0 β0 n m G R) .normal a w := by
  refine bodyPost_end (results_none hf _ _ _) hS.df ?_
  subst hL
  have hv : (Value.tuple #[]) = (D.tup []).val T β := by simp [D.val, D.cells, D.isAgg, D.valL]
  rw [hv]
  exact SS.front hS.ss hR (Nat.le_of_ble_eq_true hn) hI trivial

/-- The end of a function that is handed nothing and whose answer is a closed tree of its temporaries. -/
theorem fret1 {fn : Func} {r : ResultVar} {x : D} {β0 : Nat → Nat} {G : Nat → Prop} {R : D → Prop} (K : Kit P T C) (hf : fn.results = #[r]) (hS : Ste T w0 (pinsOf β0 0 0 G) N [] env [] L β a w) (h : resD T env L r = some x) (hc : Cl x) (hR : R x) :
    bodyPost P fn (CPost T w0 β0 0 0 G fun y L1 => R y ∧ Cl y ∧ L1 = []) .ret a w := by
  refine cret1 K hf hS h [] L rfl rfl trivial x rfl ?_ ⟨hR, hc, rfl⟩
  exact OkT.down (A := Own G L β) (A' := Own G [] β) (fun b hb => ⟨hb.1, fun k e hk => by cases hk⟩) (Cl.idx _ _ hc) (res_ok K.tab hS.ss h).2
theorem fret2 {fn : Func} {r s : ResultVar} {d e : D} {β0 : Nat → Nat} {G : Nat → Prop} {R : D → Prop} (K : Kit P T C) (hf : fn.results = #[r, s]) (hS : Ste T w0 (pinsOf β0 0 0 G) N [] env [] L β a w) (h : resD T env L r = some d) (h2 : resD T env L s = some e) (hd : d.isTup = false) (he : e.isTup = false)
    (hc : Cl d ∧ Cl e) (hR : R (.tup [d, e])) : bodyPost P fn (CPost T w0 β0 0 0 G fun y L1 => R y ∧ Cl y ∧ L1 = []) .ret a w := by
  have hcc : Cl (.tup [d, e]) := ⟨hc.1, hc.2, trivial⟩
  refine cret2 K hf hS h h2 hd he [] L rfl rfl trivial (.tup [d, e]) rfl ?_ ⟨hR, hcc, rfl⟩
  exact OkT.down (A := Own G L β) (A' := Own G [] β) (fun b hb => ⟨hb.1, fun k e hk => by cases hk⟩) (Cl.idx _ _ hcc) (res_run2 K.tab hf hS.ss h h2 hd he).2

/-- A row of the call's own, which nobody writes any more, as a slice to be read. -/
theorem row_sl {G : Nat → Prop} {L1 : List Ent} (hS : SS T w0 pins N env gs L β a.tmps w) {r e sz n' n cap : Nat} {f : Nat → D} (hr : nth L r = some (.row e sz n f cap)) (hn : n' ≤ n) (hf : ∀ i, i < n → Cl (f i)) (hok : ∀ b, (Own pins.G L β).ok b → (Own G L1 β).ok b) (hb : (Own G L1 β).ok (β r)) :
    Ok T w (Own G L1 β) (.sl sz (.slice (some ⟨β r, 0, none⟩) n' cap) n' f) := by
  obtain ⟨cur, e1, e2, e3, e4, e5, e6, e7, e8⟩ := hS.mem.ent r _ hr
  refine ⟨⟨_, cap, rfl, by omega, e6, ?_⟩, fun i hi => ⟨(e7 i (by omega)).1, Ok.cl hok _ (hf i (by omega)) (e7 i (by omega)).2, hf i (by omega)⟩⟩
  refine .inr ⟨β r, 0, cur, e, (0, 0), rfl, hb, e1, fun i hi j v hv => ?_⟩
  rw [Cl.cells (fun _ => 0) β _ (hf i (by omega))] at hv
  rw [Nat.zero_add]
  exact e8 i (by omega) j v hv

end Go.CE

/- A small program logic, twenty-first text: guards that are known; 'append', slices, calls, as a walk takes them. -/
namespace Go.CE
open Go.RowKit

variable {P : Program} {T : Tab} {w0 w : World} {pins : Pins} {N : Nat} {env : Env} {gs : List Nat} {L : List Ent} {β : Nat → Nat} {a : Act} {C : Calls'} {ds : List Deferred}

/-! ### Guards that are known -/

theorem Ste.putU (hS : Ste T w0 pins N ds env gs L β a w) {d : Nat} (h : look d env = none) (v : Value) : Ste T w0 pins N ds env gs L β (a.put (some d) v) w := by
  refine ⟨⟨by simpa [Act.put] using hS.ss.n, fun t b hb => ?_, hS.ss.mem, hS.ss.keep, hS.ss.new, hS.ss.pin, hS.ss.good⟩, hS.df⟩
  have hne : d ≠ t := fun e => by subst e; rw [h] at hb; cases hb
  have h1 := hS.ss.tmp t b hb
  cases b with
  | d x => exact ⟨by rw [Act.put_some, getD_set_ne' hne]; exact h1.1, h1.2⟩
  | g tc wb x =>
    obtain ⟨k1, c, k2, k3⟩ := h1
    exact ⟨k1, c, k2, fun hc => by rw [Act.put_some, getD_set_ne' hne]; exact k3 hc⟩

def skp (dsts : List (Option Nat)) (env : Env) (tc : Nat) (b : Bool) : List Nat → List Oper → List Oper
  | _, [] => []
  | und, o :: r => match o.guard, o.dst with
    | some (j, wb), some d => (match nth dsts j with
      | some (some t) => if (Nat.beq t tc && !(bEq wb b)) || elemN t und then (match look d env with | none => skp dsts env tc b (d :: und) r | some _ => o :: r) else o :: r
      | _ => o :: r)
    | _, _ => o :: r

/-- Operations that are not wanted, for sure. -/
theorem skips {l : List Oper} {Q : Exit → Act → World → Prop} {tc : Nat} {b : Bool} (h : look tc env = some (.d (.v (.bool b)))) : ∀ (m : List Oper) (und : List Nat) {rest : List Oper} {a : Act}, Ste T w0 pins N ds env gs L β a w → (∀ t ∈ und, a.tmps.getD t undef = undef) → skp (dstsOf l) env tc b und m = rest →
    (∀ a', Ste T w0 pins N ds env gs L β a' w → wpList P l.toArray Q rest a' w) → wpList P l.toArray Q m a w
  | [], und, rest, a, hS, hu, hr, hk => by simp only [skp] at hr; subst hr; exact hk a hS
  | o :: r, und, rest, a, hS, hu, hr, hk => by
    simp only [skp] at hr
    split at hr
    · rename_i j wb d hg hd
      split at hr
      · rename_i t hj
        split at hr
        · rename_i hc
          split at hr
          · rename_i hl
            have hnw : Region.wanted o (yielded l.toArray a.tmps) = false := by
              simp only [Bool.or_eq_true, Bool.and_eq_true, Bool.not_eq_true'] at hc
              rcases hc with ⟨h1, h2⟩ | h1
              · have h1 := Nat.eq_of_beq_eq_true h1
                subst h1
                rw [wanted_of (dstsOf_ok l) hg hj (hS.ss.tmp t _ h).1]
                cases wb <;> cases b <;> simp_all [bEq]
              · have hun := hu t (elemN_iff.1 h1)
                have h3 : (l.toArray[j]?).bind (·.dst) = some t := by
                  have := dstsOf_ok l j
                  rw [hj] at this
                  cases hq : l.toArray[j]? with
                  | none => rw [hq] at this; cases this
                  | some oj => rw [hq] at this; simp only [Option.map_some, Option.some.injEq] at this; simp [← this]
                simp only [Region.wanted, hg, yielded, h3, Option.bind_some]
                cases hq : a.tmps[t]? with
                | none => rfl
                | some v =>
                  simp only [Array.getD_eq_getD_getElem?, hq, Option.getD_some] at hun
                  subst hun
                  rfl
            unfold wpList
            rw [if_neg (by rw [hnw]; simp), hd]
            have hun2 : ∀ t' ∈ d :: und, (a.put (some d) undef).tmps.getD t' undef = undef := fun t' ht' => by
              rw [Act.put_some, Array.getD_eq_getD_getElem?, Array.getElem?_setIfInBounds]
              by_cases e : d = t'
              · subst e; simp; split <;> rfl
              · rw [if_neg e]
                rcases List.mem_cons.1 ht' with rfl | ht'
                · exact absurd rfl e
                · have := hu t' ht'; rwa [Array.getD_eq_getD_getElem?] at this
            exact skips h r (d :: und) (hS.putU hl undef) hun2 hr hk
          · subst hr; exact hk a hS
        · subst hr; exact hk a hS
      · subst hr; exact hk a hS
    · subst hr; exact hk a hS

/-- An operation that is wanted, for sure, is as good as one without a guard. -/
theorem want1 {l rest : List Oper} {Q : Exit → Act → World → Prop} {o : Oper} {j tc : Nat} {wb : Bool} (hS : Ste T w0 pins N ds env gs L β a w) (hg : o.guard = some (j, wb)) (hj : nth (dstsOf l) j = some (some tc)) (h : look tc env = some (.d (.v (.bool wb))))
    (hk : wpList P l.toArray Q ({ o with guard := none } :: rest) a w) : wpList P l.toArray Q (o :: rest) a w := by
  unfold wpList at hk ⊢
  rw [if_pos (by simp [Region.wanted])] at hk
  rw [if_pos (by rw [wanted_of (dstsOf_ok l) hg hj (hS.ss.tmp tc _ h).1]; simp)]
  exact hk

/-- A choice that is known. -/
theorem pick1 {l rest : List Oper} {Q : Exit → Act → World → Prop} {o : Oper} {tc : Nat} {x y : Operand} {b : Bool} (hS : Ste T w0 pins N ds env gs L β a w) (hop : o.op = .pick (.tmp tc) x y) (hg : o.guard = none) (h : look tc env = some (.d (.v (.bool b))))
    (hk : wpList P l.toArray Q ({ o with op := .move (if b then x else y) } :: rest) a w) : wpList P l.toArray Q (o :: rest) a w := by
  have hc : a.tmps.getD tc undef = .bool b := (hS.ss.tmp tc _ h).1
  unfold wpList at hk ⊢
  rw [if_pos (by simp [Region.wanted, hg])] at hk ⊢
  have he : execOp a.eval { o with op := .move (if b then x else y) } = execOp a.eval o := by
    simp only [execOp, hop, Act.eval, hc, asBool]
    cases b <;> rfl
  unfold Oper.wp Oper.asks at hk ⊢
  rw [he] at hk
  exact hk

/-- The temporaries that are still asked for, one guard being known. -/
def knwE (env : Env) (tc : Nat) (b : Bool) : List Nat → Env → Option Env
  | [], acc => some acc
  | t :: r, acc => match look t env with
    | some (.d x) => knwE env tc b r ((t, .d x) :: acc)
    | some (.g tc' wb x) => if Nat.beq tc' tc && bEq wb b then knwE env tc b r ((t, .d x) :: acc) else none
    | none => none
theorem knwE_ok (hS : SS T w0 pins N env gs L β a.tmps w) {tc : Nat} {b : Bool} (h : look tc env = some (.d (.v (.bool b)))) : ∀ (ts : List Nat) (acc e : Env), knwE env tc b ts acc = some e → (∀ t q, look t acc = some q → ∃ x, q = .d x ∧ a.tmps.getD t undef = x.val T β ∧ OkT T w (Own pins.G L β) x) →
    ∀ t q, look t e = some q → ∃ x, q = .d x ∧ a.tmps.getD t undef = x.val T β ∧ OkT T w (Own pins.G L β) x
  | [], acc, e, he, ha => by simp only [knwE, Option.some.injEq] at he; subst he; exact ha
  | s :: r, acc, e, he, ha => by
    have step : ∀ x, a.tmps.getD s undef = x.val T β → OkT T w (Own pins.G L β) x → ∀ t q, look t ((s, .d x) :: acc) = some q → ∃ x, q = .d x ∧ a.tmps.getD t undef = x.val T β ∧ OkT T w (Own pins.G L β) x := fun x h1 h2 t q hq => by
      by_cases e' : s = t
      · subst e'
        rw [look_cons_eq] at hq
        simp only [Option.some.injEq] at hq
        subst hq
        exact ⟨x, rfl, h1, h2⟩
      · rw [look_cons_ne e'] at hq
        exact ha t q hq
    simp only [knwE] at he
    split at he
    · rename_i x hx
      obtain ⟨h1, h2⟩ := hS.tmp s _ hx
      exact knwE_ok hS h r _ e he (step x h1 h2)
    · rename_i tc' wb x hx
      split at he
      · rename_i hc
        simp only [Bool.and_eq_true] at hc
        have e1 := Nat.eq_of_beq_eq_true hc.1
        have e2 := bEq_eq hc.2
        subst e1; subst e2
        obtain ⟨_, c, k1, k2⟩ := hS.tmp s _ hx
        rw [h] at k1
        simp only [Option.some.injEq, B.d.injEq, D.v.injEq, Value.bool.injEq] at k1
        obtain ⟨h1, h2⟩ := k2 k1.symm
        exact knwE_ok hS h r _ e he (step x h1 h2)
      · cases he
    · cases he
theorem Ste.knw (hS : Ste T w0 pins N ds env gs L β a w) {tc : Nat} {b : Bool} (ts : List Nat) {e : Env} (h : look tc env = some (.d (.v (.bool b)))) (he : knwE env tc b ts [] = some e) : Ste T w0 pins N ds e [] L β a w :=
  ⟨⟨hS.ss.n, fun t q hq => by
    obtain ⟨x, rfl, h1, h2⟩ := knwE_ok hS.ss h ts [] e he (fun t q hq => by simp [look] at hq) t q hq
    exact ⟨h1, h2⟩, hS.ss.mem, hS.ss.keep, hS.ss.new, hS.ss.pin, hS.ss.good⟩, hS.df⟩

/-- One operation that does not write: the blocks stay where they are. -/
theorem opq (K : Kit P T C) {l rest : List Oper} {Q : Exit → Act → World → Prop} {o : Oper} {env' : Env} {gs' : List Nat} {O' : Prop}
    (hS : Ste T w0 pins N ds env gs L β a w) (h : run1q T C N (dstsOf l) env gs L True o = some (env', gs', O')) (hO : O')
    (hk : ∀ a' w', Below w.heap.size w w' → Ste T w0 pins N ds env' gs' L β a' w' → wpList P l.toArray Q rest a' w') : wpList P l.toArray Q (o :: rest) a w := by
  obtain ⟨_, x, hx⟩ := run1q_ok (a := a) (w0 := w0) (pins := pins) (β := β) K.tab K.zero K.calls (dstsOf_ok l) h hO
  rcases hx w hS.ss with ⟨hw, hy, hS'⟩ | ⟨hw, hS'⟩
  · exact wpList_yields hw hy fun w' hb => hk _ w' hb ⟨hS'.below hb, by rw [Act.put_defers]; exact hS.df⟩
  · unfold wpList
    rw [if_neg (by rw [hw]; simp)]
    exact hk _ w (Below.refl _ _) ⟨hS', by rw [Act.put_defers]; exact hS.df⟩

/-! ### A part of a region -/

theorem run_listS (hT : TabOk P T) (hZ : ZeroOk T) (hC : COk P T C) {dsts : List (Option Nat)} {ops : Array Oper} (hd : DstsOk dsts ops) {Q : Exit → Act → World → Prop} (sf : List Oper) : ∀ (l : List Oper) {env env' : Env} {gs gs' : List Nat} {L L' : List Ent} {O O' : Prop} {rest : List Oper} {β : Nat → Nat} {a : Act} {w : World},
    run T C N dsts l env gs L O = (env', gs', L', O', rest) → O' → SS T w0 pins N env gs L β a.tmps w →
    (∀ β' a' w', SS T w0 pins N env' gs' L' β' a'.tmps w' → a'.defers = a.defers → wpList P ops Q (rest ++ sf) a' w') → wpList P ops Q (l ++ sf) a w
  | [], env, env', gs, gs', L, L', O, O', rest, β, a, w, h, hO, hS, hk => by
    simp only [run, Prod.mk.injEq] at h; obtain ⟨rfl, rfl, rfl, rfl, rfl⟩ := h
    exact hk β a w hS rfl
  | o :: r, env, env', gs, gs', L, L', O, O', rest, β, a, w, h, hO, hS, hk => by
    simp only [run] at h
    split at h
    · rename_i e1 g1 L1 O1 h1
      have hO1 := run_out r h hO
      have ih := fun (β1 : Nat → Nat) (a1 : Act) (w1 : World) (hS1 : SS T w0 pins N e1 g1 L1 β1 a1.tmps w1) (hd1 : a1.defers = a.defers) =>
        run_listS hT hZ hC hd sf r h hO hS1 (fun β' a' w' hS' hd' => hk β' a' w' hS' (hd'.trans hd1))
      unfold run1 at h1
      split at h1
      · rename_i e2 g2 O2 hq
        simp only [Option.some.injEq, Prod.mk.injEq] at h1
        obtain ⟨rfl, rfl, rfl, rfl⟩ := h1
        obtain ⟨_, x, hx⟩ := run1q_ok (a := a) (w0 := w0) (pins := pins) (β := β) hT hZ hC hd hq hO1
        rcases hx w hS with ⟨hw, hy, hS'⟩ | ⟨hw, hS'⟩
        · exact wpList_yields hw hy fun w' hb => ih β _ w' (hS'.below hb) (Act.put_defers _ _ _)
        · rw [List.cons_append]
          unfold wpList
          rw [if_neg (by rw [hw]; simp)]
          exact ih β _ w hS' (Act.put_defers _ _ _)
      · split at h1
        · rename_i hgd
          have hw : Region.wanted o (yielded ops a.tmps) = true := by simp [Region.wanted, hgd]
          split at h1
          · rename_i e2 L2 q hwr
            have key : q.out ∧ (∀ d, o.dst = some d → elemN d gs = false ∧ d < N) ∧ e1 = e2 ∧ g1 = gs ∧ L1 = L2 := by
              split at h1
              · rename_i d hdst
                split at h1
                · cases h1
                · rename_i hc
                  simp only [Option.some.injEq, Prod.mk.injEq] at h1
                  obtain ⟨rfl, rfl, rfl, rfl⟩ := h1
                  simp only [Bool.or_eq_true, not_or, Bool.not_eq_true] at hc
                  refine ⟨(Ob.and_out hO1).1, fun d' hd' => ?_, rfl, rfl, rfl⟩
                  rw [hdst] at hd'
                  simp only [Option.some.injEq] at hd'
                  subst hd'
                  refine ⟨hc.1, ?_⟩
                  cases hb : Nat.ble N d with
                  | true => rw [hb] at hc; cases hc.2
                  | false => exact Nat.lt_of_not_le fun hle => by rw [Nat.ble_eq_true_of_le hle] at hb; cases hb
              · rename_i hdst
                simp only [Option.some.injEq, Prod.mk.injEq] at h1
                obtain ⟨rfl, rfl, rfl, rfl⟩ := h1
                exact ⟨(Ob.and_out hO1).1, (fun d' hd' => by rw [hdst] at hd'; cases hd'), rfl, rfl, rfl⟩
            obtain ⟨k1, k2, rfl, rfl, rfl⟩ := key
            obtain ⟨β1, v, w1, hr, hS1, _⟩ := writeOp_ok hT hZ hwr k1 k2 hS
            rw [List.cons_append]
            unfold wpList
            rw [if_pos hw]
            left
            unfold Oper.wp
            rcases hr with hr | ⟨hr, rfl⟩
            · rw [hr]; exact ih β1 _ w1 hS1 (Act.put_defers _ _ _)
            · rw [hr]; exact ih β1 _ w1 hS1 (Act.put_defers _ _ _)
          · cases h1
        · cases h1
    · simp only [Prod.mk.injEq] at h; obtain ⟨rfl, rfl, rfl, rfl, rfl⟩ := h
      exact hk β a w hS rfl

/-- The first n operations of a region. -/
theorem regn (K : Kit P T C) {id : Nat} {l : List Oper} {Q : Exit → Act → World → Prop} {env' : Env} {gs' : List Nat} {L' : List Ent} {O' : Prop} (n : Nat)
    (hS : Ste T w0 pins N ds env [] L β a w) (hr : run T C N (dstsOf l) (l.take n) env [] L True = (env', gs', L', O', [])) (hO : O')
    (hk : ∀ β' a' w', Ste T w0 pins N ds env' gs' L' β' a' w' → wpList P l.toArray Q (l.drop n) a' w') : (Code.region id l.toArray false).wp P Q a w := by
  refine wp_region_lit ?_
  have := run_listS K.tab K.zero K.calls (dstsOf_ok l) (Q := Q) (l.drop n) (l.take n) hr hO hS.ss fun β' a' w' hS' hd' => hk β' a' w' ⟨hS', hd'.trans hS.df⟩
  rwa [List.take_append_drop] at this
theorem regon (K : Kit P T C) {l m : List Oper} {Q : Exit → Act → World → Prop} {env' : Env} {gs' : List Nat} {L' : List Ent} {O' : Prop} (n : Nat)
    (hS : Ste T w0 pins N ds env gs L β a w) (hr : run T C N (dstsOf l) (m.take n) env gs L True = (env', gs', L', O', [])) (hO : O')
    (hk : ∀ β' a' w', Ste T w0 pins N ds env' gs' L' β' a' w' → wpList P l.toArray Q (m.drop n) a' w') : wpList P l.toArray Q m a w := by
  have := run_listS K.tab K.zero K.calls (dstsOf_ok l) (Q := Q) (m.drop n) (m.take n) hr hO hS.ss fun β' a' w' hS' hd' => hk β' a' w' ⟨hS', hd'.trans hS.df⟩
  rwa [List.take_append_drop] at this

end Go.CE

/- A small program logic, twenty-second text: 'append' and slices, as a walk takes them. -/
namespace Go.CE
open Go.RowKit

variable {P : Program} {T : Tab} {w0 w : World} {pins : Pins} {N : Nat} {env : Env} {gs : List Nat} {L : List Ent} {β : Nat → Nat} {a : Act} {C : Calls'} {ds : List Deferred}

theorem IdxM.one {r : Nat} (h : IdxM (· ≠ r) [r] 0 L) : ∀ k e, nth L k = some e → k ≠ r → IdxE (· ≠ r) e := fun k e hk hn => h.get k e hk fun i hi => by
  simp only [List.mem_cons, List.not_mem_nil, or_false] at hi
  subst hi
  omega

theorem execOp_append {x y : Operand} {t : Nat} {o : Oper} {v u : Value} (hop : o.op = .call ⟨.builtin .append, ⟨[x, y]⟩, ⟨[t, t]⟩⟩) (hx : a.eval x = v) (hy : a.eval y = u) :
    execOp a.eval o = (do pure (.value (← Builtin.append_ #[t, t] o.type #[v, u]))) := by
  simp [execOp, hop, resolve, invoke, builtin, hx, hy]

/-- 'append' onto a row of the call's own. -/
theorem appo (K : Kit P T C) (hS : Ste T w0 pins N ds env gs L β a w) {l rest : List Oper} {Q : Exit → Act → World → Prop} {o : Oper} {x y : Operand} {t e sz s b dd : Nat} {z : D} {r n cap : Nat} {f : Nat → D} {d : D} {re : Row}
    (ts : List Nat) (m : Nat) (g f1 : Nat → D) (hg : o.guard = none) (hop : o.op = .call ⟨.builtin .append, ⟨[x, y]⟩, ⟨[t, t]⟩⟩) (hd : o.dst = some dd) (hdN : Nat.ble N dd = false) (hx : opd (lkU env) x = some (.os r n cap)) (hy : opd (lkU env) y = some d) (hdt : d.isTup = false)
    (hr : nth L r = some (.row e sz n f cap)) (ht : T t = some ⟨.sl e sz, s, b, z⟩) (hre : T e = some re) {env2 : Env} (he : keepE env ts [] = some env2) (hrp : pins.fix.length ≤ r) (hI : IdxN (· ≠ r) env2) (hM : IdxM (· ≠ r) [r] 0 L)
    (hf : ∀ i, i < n → Cl (f i)) (hs : SrcE T L sz d m g) (hgc : ∀ i, i < m → Cl (g i)) (h1 : ∀ i, i < n → f1 i = f i) (h2 : ∀ i, i < m → f1 (n + i) = g i) (hlen : n + m ≤ maxLen) (hby : (n + m) * re.bytes ≤ 140737488355328)
    (hk : ∀ cap' β' a' w', Ste T w0 pins N ds ((dd, .d (.os r (n + m) cap')) :: env2) [] (setN L r (.row e sz (n + m) f1 cap')) β' a' w' → wpList P l.toArray Q rest a' w') : wpList P l.toArray Q (o :: rest) a w := by
  obtain ⟨x1, _⟩ := opd_ok hS.ss.lkU hx
  obtain ⟨y1, y2⟩ := opd_ok hS.ss.lkU hy
  have hS1 : Ste T w0 pins N ds env2 [] L β a w := Ste.keepE hS he
  obtain ⟨cap', β', w', hrun, hss⟩ := hS1.ss.app K.tab K.zero ht hre hr hrp hf (y2.ok hdt) hs hgc h1 h2 hlen hby (env2 := env2) (fun t q hq => by
    obtain ⟨x, rfl, hix⟩ := hI.get t q hq
    exact ⟨x, rfl, hq, hix⟩) hM.one o.type
  have hex := execOp_append (o := o) hop x1 y1
  unfold wpList
  rw [if_pos (by simp [Region.wanted, hg])]
  left
  unfold Oper.wp
  rw [hex]
  simp only [Sem.run_bind, hrun, Result.andThen_ok, Sem.run_pure]
  refine hk cap' β' _ w' ⟨?_, by rw [Act.put_defers]; exact hS.df⟩
  rw [hd]
  refine hss.set ?_ rfl ?_ rfl
  · exact Nat.lt_of_not_le fun h => by rw [Nat.ble_eq_true_of_le h] at hdN; cases hdN
  · show r < (setN L r _).length
    rw [setN_length]; exact nth_lt _ _ _ hr

/-- 'append' onto nil. -/
theorem appn (K : Kit P T C) (hS : Ste T w0 pins N ds env gs L β a w) {l rest : List Oper} {Q : Exit → Act → World → Prop} {o : Oper} {x y : Operand} {t e sz s b dd : Nat} {z : D} {sz0 : Nat} {f0 : Nat → D} {d : D} {re : Row}
    (ts : List Nat) (m : Nat) (g : Nat → D) (hg : o.guard = none) (hop : o.op = .call ⟨.builtin .append, ⟨[x, y]⟩, ⟨[t, t]⟩⟩) (hd : o.dst = some dd) (hdN : Nat.ble N dd = false) (hx : opd (lkU env) x = some (.sl sz0 (.slice none 0 0) 0 f0)) (hy : opd (lkU env) y = some d) (hdt : d.isTup = false)
    (ht : T t = some ⟨.sl e sz, s, b, z⟩) (hre : T e = some re) {env2 : Env} (he : keepE env ts [] = some env2) (hs : SrcE T L sz d m g) (hm : 0 < m) (hlen : m ≤ maxLen) (hby : m * re.bytes ≤ 140737488355328)
    (hk : ∀ cap' β' a' w', Ste T w0 pins N ds ((dd, .d (.os L.length m cap')) :: env2) [] (snoc L (.row e sz m g cap')) β' a' w' → wpList P l.toArray Q rest a' w') : wpList P l.toArray Q (o :: rest) a w := by
  obtain ⟨x1, _⟩ := opd_ok hS.ss.lkU hx
  obtain ⟨y1, y2⟩ := opd_ok hS.ss.lkU hy
  have y2 := y2.ok hdt
  have hS1 : Ste T w0 pins N ds env2 [] L β a w := Ste.keepE hS he
  obtain ⟨_, g1, g2, g3, g4⟩ := (K.tab t _ ht).2
  obtain ⟨⟨i, i1, i2, i3, i4⟩, _⟩ := K.tab e re hre
  have hrs : re.size = sz := by simpa [sizeT, hre] using g2
  obtain ⟨z1, z2, z3⟩ := K.zero e re hre
  have hsrc := src_of K.tab hS1.ss ht y2 hs
  have hisz : i.size = sz := i2.trans hrs
  rw [← hisz] at hsrc
  have hgok : ∀ j, j < m → (g j).size T = sz ∧ Ok T w (Own pins.G L β) (g j) := fun j hj => by
    rcases hs with ⟨x, rfl⟩ | ⟨k, cp, n', f', c, rfl, ⟨e', hk⟩, hmn, hfg⟩
    · exact ⟨(y2.2 j hj).1, (y2.2 j hj).2.1⟩
    · obtain ⟨_, _, _, _, _, _, _, q, _⟩ := hS.ss.mem.ent k _ hk
      rw [← hfg j hj]
      exact q j (by omega)
  have hnl : ((List.range m).flatMap fun j => (g j).cells T β).length = m * sz := length_flatMap_const _ fun j hj => by rw [Ok.len _ (hgok j hj).2, (hgok j hj).1]
  have hge := grownCap_ge w m 0 e
  have hcm := grownCap_le_maxLen w m 0 e hlen
  have hzc : (re.zero.val T fun _ => 0).cells.size = sz := by
    rw [val_cells (z1 w (Own pins.G L β))]
    simp [Ok.len _ (z1 w (Own pins.G L β)), z3, hrs]
  have hold : (Builtin.firstCells i.size 0 (.slice none 0 0)).run P w.drew = .ok ([] : List Value).toArray w.drew := run_firstCells_none w.drew i.size 0 0 0
  have hrun := run_append_grow_src (P := P) w t t o.type e i _ g1 i1 i4 none 0 0 [] hold _ m _ hsrc (by omega) (by simp only [maxLen] at hlen; omega) (growslice_fits (by omega) (by rw [i3]; simpa using hby))
  simp only [Nat.zero_add] at hrun
  have hb : Below w.heap.size w (w.drew.alloc (.cells ((([] : List Value) ++ ((List.range m).flatMap fun j => (g j).cells T β)).toArray ++ Builtin.zeroCells (re.zero.val T fun _ => 0).cells (grownCap w m 0 e - m)) e)) :=
    ⟨rfl, rfl, rfl, by simp, fun c hc => (below_alloc w.drew _).block c hc⟩
  have hrow := hS1.ss.row (e := e) (sz := sz) (n := m) (cap := grownCap w m 0 e) (f := g) hgok g2 g3 (cur := ((([] : List Value) ++ ((List.range m).flatMap fun j => (g j).cells T β)).toArray ++ Builtin.zeroCells (re.zero.val T fun _ => 0).cells (grownCap w m 0 e - m))) (by
      simp only [Array.size_append, List.size_toArray, size_zeroCells, hzc, List.length_append, hnl, List.length_nil]
      rw [Nat.zero_add, ← Nat.add_mul]; congr 1; omega) hge hcm (fun j hj k v hv => by
      have hq : ((List.range m).flatMap fun j => (g j).cells T β)[j * sz + k]? = some v := by
        rw [range_split m j hj, List.flatMap_append, List.flatMap_cons, ← List.append_assoc]
        have hl : ((List.range j).flatMap fun j => (g j).cells T β).length = j * sz := length_flatMap_const _ fun i hi => by rw [Ok.len _ (hgok i (by omega)).2, (hgok i (by omega)).1]
        rw [← hl]
        exact getElem?_mid hv
      have hql := (List.getElem?_eq_some_iff.1 hq).1
      rw [Array.getElem?_append_left (by simpa using hql), List.getElem?_toArray, List.nil_append]
      exact hq) hb (heap_alloc_new w.drew _)
  have hex := execOp_append (o := o) hop x1 y1
  have hxv : (D.sl sz0 (.slice none 0 0) 0 f0).val T β = .slice none 0 0 := rfl
  rw [hxv] at hex
  unfold wpList
  rw [if_pos (by simp [Region.wanted, hg])]
  left
  unfold Oper.wp
  rw [hex]
  simp only [Sem.run_bind, hrun, Result.andThen_ok, Sem.run_pure]
  refine hk (grownCap w m 0 e) (ext β L.length w.heap.size) _ _ ⟨?_, by rw [Act.put_defers]; exact hS.df⟩
  rw [hd]
  refine hrow.set ?_ rfl ?_ ?_
  · exact Nat.lt_of_not_le fun h => by rw [Nat.ble_eq_true_of_le h] at hdN; cases hdN
  · show L.length < (snoc L _).length
    rw [snoc_length]; omega
  · simp [D.val, D.cells, D.isAgg, ext_eq]

/-- An array of the call's own, seen as a slice. -/
theorem view_ok {G : Nat → Prop} (hm : MemOk T G L β w) {k t n sz : Nat} {π : List Stp} {d : D} {f : Nat → D} {A : Dom} (hk : nth L k = some (.var t d)) (hg : getAt d π = some (.ar n sz f)) (hπ : StepsOk π) (hf : ∀ i, i < n → Cl (f i)) (hn : n ≤ maxLen) (hok : ∀ b, (Own G L β).ok b → A.ok b) (hb : A.ok (β k)) :
    Ok T w A (.sl sz (.slice (some ⟨β k, offs T π, none⟩) n n) n f) := by
  obtain ⟨e1, e2, e3⟩ := hm.ent k _ hk
  obtain ⟨o1, p, r, e4, e5⟩ := getAt_ok (β := β) π d (.ar n sz f) hg e3 hπ
  refine ⟨⟨_, n, rfl, Nat.le_refl _, hn, .inr ⟨β k, offs T π, _, t, (0, 0), rfl, hb, e1, fun i hi j v hv => ?_⟩⟩, fun i hi => ⟨(o1 i hi).1, Ok.cl hok _ (hf i hi) (o1 i hi).2, hf i hi⟩⟩
  have hl : ((List.range i).flatMap fun i => (f i).cells T β).length = i * sz := length_flatMap_const _ fun j hj => by rw [Ok.len _ (o1 j (by omega)).2, (o1 j (by omega)).1]
  rw [e4, ← e5]
  simp only [List.getElem?_toArray, D.cells]
  rw [range_split n i hi, List.flatMap_append, List.flatMap_cons]
  rw [Cl.cells (fun _ => 0) β _ (hf i hi)] at hv
  have h2 := getElem?_mid (p := (List.range i).flatMap fun i => (f i).cells T β) (q := (((List.range (n - i - 1)).map (· + (i + 1))).flatMap fun i => (f i).cells T β)) hv
  rw [hl] at h2
  have h3 := getElem?_mid (p := p) (q := r) h2
  rw [← Nat.add_assoc] at h3
  simpa [List.append_assoc] using h3

/-- 'x[:]' of an array: the value, the world as it was. -/
theorem slv (K : Kit P T C) (hS : Ste T w0 pins N ds env gs L β a w) {l rest : List Oper} {Q : Exit → Act → World → Prop} {o : Oper} {x : Operand} {t n e sz s b dd k : Nat} {z : D} {π : List Stp}
    (hg : o.guard = none) (hop : o.op = .slice t x none none none) (hd : o.dst = some dd) (hdN : Nat.ble N dd = false) (hdg : elemN dd gs = false) (hx : opd (lkU env) x = some (.p k π)) (ht : T t = some ⟨.ar n e sz, s, b, z⟩)
    (hk : ∀ a', Ste T w0 pins N ds ((dd, .d (.v (.slice (some ⟨β k, offs T π, none⟩) n n))) :: env) gs L β a' w → wpList P l.toArray Q rest a' w) : wpList P l.toArray Q (o :: rest) a w := by
  obtain ⟨x1, _⟩ := opd_ok hS.ss.lkU hx
  have hT := (K.tab t _ ht).2
  obtain ⟨_, g1, g2, g3, g4, g5, _⟩ := hT
  obtain ⟨re, hre⟩ := Option.isSome_iff_exists.1 g5
  have hv : (D.p k π).val T β = .pointer (some ⟨β k, offs T π, none⟩) := rfl
  rw [hv] at x1
  have hrun : (execOp a.eval o).run P w = .ok (.value (.slice (some ⟨β k, offs T π, none⟩) n n)) w := by
    have h0 : ¬ (n = 0) := by omega
    simp only [execOp, hop, Option.map_none, Sem.run_bind, x1, Instr.sliceAt, run_underlying g1, Result.andThen_ok, Instr.sureAddr, Sem.run_pure, Instr.sliceBounds, run_sizeOf K.tab hre, h0, if_false, Nat.zero_mul, Nat.sub_zero]
    simp [addr_add]
  unfold wpList
  rw [if_pos (by simp [Region.wanted, hg])]
  left
  unfold Oper.wp
  rw [hrun]
  refine hk _ ⟨?_, by rw [Act.put_defers]; exact hS.df⟩
  rw [hd]
  exact hS.ss.set (x := .v _) (Nat.lt_of_not_le fun h => by rw [Nat.ble_eq_true_of_le h] at hdN; cases hdN) hdg rfl rfl

/-! ### Blocks told in other words, or no longer asked for -/

theorem Ste.swap (h : Ste T w0 pins N ds env gs L β a w) {k : Nat} {e0 e : Ent} (hk : nth L k = some e0) (ha : e0.alive = true) (hae : e.alive = true) (he : EntOk T (Own pins.G L β) β w k e0 → EntOk T (Own pins.G L β) β w k e) : Ste T w0 pins N ds env gs (setN L k e) β a w :=
  ⟨h.ss.swap hk ha hae he, h.df⟩

/-- A struct's variable, one of whose fields is forgotten: its cell alone is known. -/
theorem Ste.forget (h : Ste T w0 pins N ds env gs L β a w) {k t : Nat} {d d' : D} (hk : nth L k = some (.var t d)) (hc : d'.cells T β = d.cells T β) (hs : d'.size T = d.size T) (ho : Ok T w (Own pins.G L β) d → Ok T w (Own pins.G L β) d') : Ste T w0 pins N ds env gs (setN L k (.var t d')) β a w :=
  h.swap hk rfl rfl fun ⟨h1, h2, h3⟩ => ⟨by rw [hc]; exact h1, hs.trans h2, ho h3⟩

theorem Own.drop {G : Nat → Prop} {L1 J : List Ent} {b : Nat} (h : (Own G (L1 ++ J) β).ok b) : (Own G L1 β).ok b := Own.front h

/-- The last blocks are not asked for any more. -/
theorem Ste.drop {L1 J : List Ent} (h : Ste T w0 pins N ds env [] L β a w) (hL : L = L1 ++ J) (hp : pins.fix.length ≤ L1.length) (hI : IdxN (· < L1.length) env) (hF : IdxF (· < L1.length) L1) : Ste T w0 pins N ds env [] L1 β a w := by
  subst hL
  have hnth : ∀ k e, nth L1 k = some e → nth (L1 ++ J) k = some e := fun k e hk => by rw [nth_append_if, if_pos (nth_lt _ _ _ hk)]; exact hk
  refine ⟨⟨h.ss.n, fun t b hb => ?_, ⟨fun k e hk => ?_, fun i j d e hi hj hd he hij => h.ss.mem.inj i j d e (hnth i d hi) (hnth j e hj) hd he hij⟩, h.ss.keep, fun k h1 h2 => h.ss.new k h1 (by rw [List.length_append]; omega), fun k b hb => ?_, h.ss.good⟩, h.df⟩
  · obtain ⟨x, rfl, hix⟩ := hI.get t b hb
    obtain ⟨g1, g2⟩ := h.ss.tmp t _ hb
    exact ⟨g1, OkT.down (A := Own pins.G (L1 ++ J) β) (A' := Own pins.G L1 β) (fun _ h => Own.front h) hix g2⟩
  · have ho := h.ss.mem.ent k e (hnth k e hk)
    have hi := hF.get k e hk
    cases e with
    | var t d => exact ⟨ho.1, ho.2.1, Ok.down (A := Own pins.G (L1 ++ J) β) (A' := Own pins.G L1 β) (fun _ h => Own.front h) d hi ho.2.2⟩
    | row e sz n f cap => obtain ⟨cur, g1, g2, g3, g4, g5, g6, g7, g8⟩ := ho; exact ⟨cur, g1, g2, g3, g4, g5, g6, fun i hl => ⟨(g7 i hl).1, Ok.down (A := Own pins.G (L1 ++ J) β) (A' := Own pins.G L1 β) (fun _ h => Own.front h) _ (hi i hl) (g7 i hl).2⟩, g8⟩
    | dead => exact ho
  · obtain ⟨h1, h2⟩ := h.ss.pin k b hb
    exact ⟨by have := nth_lt _ _ _ hb; omega, h2⟩

/-- What is known of the temporaries, the blocks numbered anew. -/
def RenN (env : Env) (r : Nat → Nat) (n : Nat) : Env → Prop
  | [] => True
  | (t, .d x) :: q => look t env = some (.d (x.ren r)) ∧ Idx (· < n) x ∧ RenN env r n q
  | (_, .g ..) :: _ => False
theorem RenN.get {r : Nat → Nat} {n : Nat} : ∀ {e : Env}, RenN env r n e → ∀ t b, look t e = some b → ∃ x, b = .d x ∧ look t env = some (.d (x.ren r)) ∧ Idx (· < n) x
  | (s, .d x) :: q, h, t, b, hb => by
    by_cases e : s = t
    · subst e
      rw [look_cons_eq] at hb
      simp only [Option.some.injEq] at hb
      subst hb
      exact ⟨x, rfl, h.1, h.2.1⟩
    · rw [look_cons_ne e] at hb
      exact h.2.2.get t b hb
  | (_, .g ..) :: _, h, _, _, _ => h.elim
  | [], _, _, _, hb => by simp [look] at hb
theorem OkT.back {A A' : Dom} {r : Nat → Nat} (hA : ∀ b, A.ok b → A'.ok b) {d : D} (hi : Idx (· < A'.n) d) (h : OkT T w A (d.ren r)) : OkT T w A' d := by
  cases d with
  | tup ds => exact OkL.back hA ds hi h
  | _ => exact (Ok.back (r := r) hA _ hi h).top

/-- The blocks ρ alone are kept, numbered anew. -/
theorem Ste.reidx {env' : Env} {L' : List Ent} (h : Ste T w0 pins N ds env [] L β a w) (ρ : List Nat) (hn : ρ.Nodup) (hH : HandE L (rn ρ L.length) L'.length ρ L') (hE : RenN env (rn ρ L.length) L'.length env')
    (hm : ∀ k, k < pins.fix.length → nth ρ k = some k) (hm2 : ∀ j k, pins.fix.length ≤ j → nth ρ j = some k → pins.fix.length ≤ k) : Ste T w0 pins N ds env' [] L' (fun j => β (rn ρ L.length j)) a w := by
  obtain ⟨hHl, hHg⟩ := hH.get
  have hb0 : ∀ j, j < L'.length → ∃ k e e', nth L' j = some e ∧ nth ρ j = some k ∧ nth L k = some e' ∧ SameE e' (e.ren (rn ρ L.length)) ∧ IdxE (· < L'.length) e ∧ rn ρ L.length j = k := fun j hj => by
    obtain ⟨e, he⟩ := nth_of_lt L' j hj
    obtain ⟨k, e', h1, h2, h3, h4, _⟩ := hHg j e he
    exact ⟨k, e, e', he, h1, h2, h3, h4, by simp only [rn, h1]⟩
  have hρL : ∀ k ∈ ρ, k < L.length := fun k hk => by
    obtain ⟨j, hj⟩ := List.mem_iff_getElem?.1 hk
    have hjl : j < L'.length := by rw [hHl]; exact (List.getElem?_eq_some_iff.1 hj).1
    obtain ⟨k', e, e', _, h1, h2, _⟩ := hb0 j hjl
    rw [nth_get, hj] at h1
    cases h1
    exact nth_lt _ _ _ h2
  have hA : ∀ b, (Own pins.G L β).ok b → (Own pins.G L' fun j => β (rn ρ L.length j)).ok b := fun b hb => ⟨hb.1, fun j e he _ heq => by
    obtain ⟨k, _, e', _, h1, h2, h3, _, h4⟩ := hb0 j (nth_lt _ _ _ he)
    simp only [h4] at heq
    exact hb.2 k e' h2 h3.alive heq⟩
  have hlt : ∀ k, k < pins.fix.length → k < L'.length := fun k hk => by
    have := nth_lt _ _ _ (hm k hk)
    omega
  refine ⟨⟨h.ss.n, fun t b hb => ?_, ⟨fun j e hj => ?_, fun i j d e hi hj _ _ hij => ?_⟩, h.ss.keep, fun j h1 h2 => ?_, fun k b hk => ?_, h.ss.good⟩, h.df⟩
  · obtain ⟨x, rfl, h1, h2⟩ := hE.get t b hb
    obtain ⟨g1, g2⟩ := h.ss.tmp t _ h1
    exact ⟨by rw [g1, D.ren_val], OkT.back hA h2 g2⟩
  · obtain ⟨k, e0, e', h0, h1, h2, h3, h5, h4⟩ := hb0 j (nth_lt _ _ _ hj)
    rw [hj] at h0
    cases h0
    have ho := h.ss.mem.ent k e' h2
    cases e with
    | var t d =>
      cases e' with
      | var t' d' =>
        obtain ⟨rfl, rfl⟩ := h3
        obtain ⟨o1, o2, o3⟩ := ho
        refine ⟨?_, by rw [D.ren_size] at o2; exact o2, Ok.back hA d h5 o3⟩
        rw [D.ren_cells] at o1
        simp only [h4]
        exact o1
      | _ => exact h3.elim
    | row e sz n f cap =>
      cases e' with
      | row e2 sz' n' f' cap' =>
        obtain ⟨rfl, rfl, rfl, rfl, hff⟩ := h3
        obtain ⟨cur, o1, o2, o3, o4, o5, o6, o7, o8⟩ := ho
        refine ⟨cur, by simp only [h4]; exact o1, o2, o3, o4, o5, o6, fun i hi => ?_, fun i hi j' v hv => ?_⟩
        · have := o7 i hi
          rw [hff i hi] at this
          exact ⟨by rw [D.ren_size] at this; exact this.1, Ok.back hA (f i) (h5 i hi) this.2⟩
        · refine o8 i hi j' v ?_
          rw [hff i hi, D.ren_cells]
          exact hv
      | _ => exact h3.elim
    | dead => obtain ⟨_, _, _, _, _, _, hd⟩ := hHg j _ hj; cases hd
  · obtain ⟨k1, _, e1, _, _, h2, h3, _, h4⟩ := hb0 i (nth_lt _ _ _ hi)
    obtain ⟨k2, _, e2, _, _, g2, g3, _, g4⟩ := hb0 j (nth_lt _ _ _ hj)
    have := h.ss.mem.inj k1 k2 e1 e2 h2 g2 h3.alive g3.alive (by simpa only [h4, g4] using hij)
    exact rn_inj hn hρL (h4.trans (this.trans g4.symm))
  · obtain ⟨k, _, e', _, g1, g2, _, _, g4⟩ := hb0 j h2
    simp only [g4]
    exact h.ss.new k (hm2 j k h1 g1) (nth_lt _ _ _ g2)
  · obtain ⟨g1, g2⟩ := h.ss.pin k b hk
    have hkf := nth_lt _ _ _ hk
    refine ⟨hlt k hkf, ?_⟩
    have : rn ρ L.length k = k := by simp only [rn, hm k hkf]
    simp only [this]
    exact g2

theorem pinsOf_len {β : Nat → Nat} {m n : Nat} {G : Nat → Prop} : (pinsOf β m n G).fix.length = m := by simp [pinsOf]

end Go.CE

/- The table of types of this translation (definitions, and closed facts about the loaded program alone). Written by wip/gen/tab.py. -/
namespace Go.CE
open Go.Proofs
def row2 : Row := ⟨.leaf, 1, 8, .v (.int .i64 0)⟩
def row3 : Row := ⟨.leaf, 1, 8, .v (.int .i64 0)⟩
def row4 : Row := ⟨.leaf, 1, 1, .v (.bool false)⟩
def row5 : Row := ⟨.leaf, 1, 1, .v (.int .u8 0)⟩
def row9 : Row := ⟨.leaf, 1, 16, .v (.string ⟨#[]⟩)⟩
def row12 : Row := ⟨.leaf, 1, 8, .v (.int .u64 0)⟩
def row21 : Row := ⟨.leaf, 1, 4, .v (.int .i32 0)⟩
def row22 : Row := ⟨.leaf, 1, 8, .v (.int .u64 0)⟩
def row23 : Row := ⟨.st [(1, 4), (1, 21), (1, 21), (1, 21), (1, 21), (1, 3), (1, 3)], 7, 40, .st 23 [(.v (.bool false)), (.v (.int .i32 0)), (.v (.int .i32 0)), (.v (.int .i32 0)), (.v (.int .i32 0)), (.v (.int .i64 0)), (.v (.int .i64 0))]⟩
def row24 : Row := ⟨.st [(1, 4), (1, 21), (1, 21), (1, 21), (1, 21), (1, 3), (1, 3)], 7, 40, .st 24 [(.v (.bool false)), (.v (.int .i32 0)), (.v (.int .i32 0)), (.v (.int .i32 0)), (.v (.int .i32 0)), (.v (.int .i64 0)), (.v (.int .i64 0))]⟩
def row25 : Row := ⟨.ar 8 24 7, 56, 320, .ar 8 7 fun _ => .st 24 [(.v (.bool false)), (.v (.int .i32 0)), (.v (.int .i32 0)), (.v (.int .i32 0)), (.v (.int .i32 0)), (.v (.int .i64 0)), (.v (.int .i64 0))]⟩
def row26 : Row := ⟨.sl 72 6, 1, 24, .sl 6 (.slice none 0 0) 0 fun _ => .st 72 [(.v (.int .i64 0)), (.v (.int .i32 0)), (.v (.int .i32 0)), (.v (.int .i32 0)), (.v (.int .i32 0)), (.v (.int .i64 0))]⟩
def row27 : Row := ⟨.st [(1, 3), (1, 22), (56, 25), (1, 26)], 59, 360, .st 27 [(.v (.int .i64 0)), (.v (.int .u64 0)), (.ar 8 7 fun _ => .st 24 [(.v (.bool false)), (.v (.int .i32 0)), (.v (.int .i32 0)), (.v (.int .i32 0)), (.v (.int .i32 0)), (.v (.int .i64 0)), (.v (.int .i64 0))]), (.sl 6 (.slice none 0 0) 0 fun _ => .st 72 [(.v (.int .i64 0)), (.v (.int .i32 0)), (.v (.int .i32 0)), (.v (.int .i32 0)), (.v (.int .i32 0)), (.v (.int .i64 0))])]⟩
def row28 : Row := ⟨.st [(1, 3), (1, 22), (56, 25), (1, 26)], 59, 360, .st 28 [(.v (.int .i64 0)), (.v (.int .u64 0)), (.ar 8 7 fun _ => .st 24 [(.v (.bool false)), (.v (.int .i32 0)), (.v (.int .i32 0)), (.v (.int .i32 0)), (.v (.int .i32 0)), (.v (.int .i64 0)), (.v (.int .i64 0))]), (.sl 6 (.slice none 0 0) 0 fun _ => .st 72 [(.v (.int .i64 0)), (.v (.int .i32 0)), (.v (.int .i32 0)), (.v (.int .i32 0)), (.v (.int .i32 0)), (.v (.int .i64 0))])]⟩
def row29 : Row := ⟨.st [(1, 3), (1, 3)], 2, 16, .st 29 [(.v (.int .i64 0)), (.v (.int .i64 0))]⟩
def row30 : Row := ⟨.st [(1, 3), (1, 3)], 2, 16, .st 30 [(.v (.int .i64 0)), (.v (.int .i64 0))]⟩
def row31 : Row := ⟨.ar 8 30 2, 16, 128, .ar 8 2 fun _ => .st 30 [(.v (.int .i64 0)), (.v (.int .i64 0))]⟩
def row32 : Row := ⟨.st [(1, 3), (16, 31)], 17, 136, .st 32 [(.v (.int .i64 0)), (.ar 8 2 fun _ => .st 30 [(.v (.int .i64 0)), (.v (.int .i64 0))])]⟩
def row33 : Row := ⟨.st [(1, 3), (16, 31)], 17, 136, .st 33 [(.v (.int .i64 0)), (.ar 8 2 fun _ => .st 30 [(.v (.int .i64 0)), (.v (.int .i64 0))])]⟩
def row34 : Row := ⟨.st [(59, 28), (17, 33)], 76, 496, .st 34 [(.st 28 [(.v (.int .i64 0)), (.v (.int .u64 0)), (.ar 8 7 fun _ => .st 24 [(.v (.bool false)), (.v (.int .i32 0)), (.v (.int .i32 0)), (.v (.int .i32 0)), (.v (.int .i32 0)), (.v (.int .i64 0)), (.v (.int .i64 0))]), (.sl 6 (.slice none 0 0) 0 fun _ => .st 72 [(.v (.int .i64 0)), (.v (.int .i32 0)), (.v (.int .i32 0)), (.v (.int .i32 0)), (.v (.int .i32 0)), (.v (.int .i64 0))])]), (.st 33 [(.v (.int .i64 0)), (.ar 8 2 fun _ => .st 30 [(.v (.int .i64 0)), (.v (.int .i64 0))])])]⟩
def row35 : Row := ⟨.st [(59, 28), (17, 33)], 76, 496, .st 35 [(.st 28 [(.v (.int .i64 0)), (.v (.int .u64 0)), (.ar 8 7 fun _ => .st 24 [(.v (.bool false)), (.v (.int .i32 0)), (.v (.int .i32 0)), (.v (.int .i32 0)), (.v (.int .i32 0)), (.v (.int .i64 0)), (.v (.int .i64 0))]), (.sl 6 (.slice none 0 0) 0 fun _ => .st 72 [(.v (.int .i64 0)), (.v (.int .i32 0)), (.v (.int .i32 0)), (.v (.int .i32 0)), (.v (.int .i32 0)), (.v (.int .i64 0))])]), (.st 33 [(.v (.int .i64 0)), (.ar 8 2 fun _ => .st 30 [(.v (.int .i64 0)), (.v (.int .i64 0))])])]⟩
def row36 : Row := ⟨.sl 5 1, 1, 24, .sl 1 (.slice none 0 0) 0 fun _ => default⟩
def row51 : Row := ⟨.leaf, 1, 8, .v (.int .u64 0)⟩
def row54 : Row := ⟨.leaf, 1, 1, .v (.int .i8 0)⟩
def row55 : Row := ⟨.st [(1, 54), (1, 54), (1, 5)], 3, 3, .st 55 [(.v (.int .i8 0)), (.v (.int .i8 0)), (.v (.int .u8 0))]⟩
def row56 : Row := ⟨.st [(1, 54), (1, 54), (1, 5)], 3, 3, .st 56 [(.v (.int .i8 0)), (.v (.int .i8 0)), (.v (.int .u8 0))]⟩
def row58 : Row := ⟨.sl 64 4, 1, 24, .sl 4 (.slice none 0 0) 0 fun _ => .st 64 [(.v (.int .i64 0)), (.v (.int .i64 0)), (.v (.int .i64 0)), (.v (.int .i64 0))]⟩
def row59 : Row := ⟨.ar 8 56 3, 24, 24, .ar 8 3 fun _ => .st 56 [(.v (.int .i8 0)), (.v (.int .i8 0)), (.v (.int .u8 0))]⟩
def row60 : Row := ⟨.st [(1, 3), (1, 58), (24, 59)], 26, 56, .st 60 [(.v (.int .i64 0)), (.sl 4 (.slice none 0 0) 0 fun _ => .st 64 [(.v (.int .i64 0)), (.v (.int .i64 0)), (.v (.int .i64 0)), (.v (.int .i64 0))]), (.ar 8 3 fun _ => .st 56 [(.v (.int .i8 0)), (.v (.int .i8 0)), (.v (.int .u8 0))])]⟩
def row61 : Row := ⟨.st [(1, 3), (1, 58), (24, 59)], 26, 56, .st 61 [(.v (.int .i64 0)), (.sl 4 (.slice none 0 0) 0 fun _ => .st 64 [(.v (.int .i64 0)), (.v (.int .i64 0)), (.v (.int .i64 0)), (.v (.int .i64 0))]), (.ar 8 3 fun _ => .st 56 [(.v (.int .i8 0)), (.v (.int .i8 0)), (.v (.int .u8 0))])]⟩
def row63 : Row := ⟨.st [(1, 3), (1, 3), (1, 3), (1, 3)], 4, 32, .st 63 [(.v (.int .i64 0)), (.v (.int .i64 0)), (.v (.int .i64 0)), (.v (.int .i64 0))]⟩
def row64 : Row := ⟨.st [(1, 3), (1, 3), (1, 3), (1, 3)], 4, 32, .st 64 [(.v (.int .i64 0)), (.v (.int .i64 0)), (.v (.int .i64 0)), (.v (.int .i64 0))]⟩
def row66 : Row := ⟨.leaf, 1, 8, .v (.pointer none)⟩
def row67 : Row := ⟨.st [(1, 36)], 1, 24, .st 67 [(.sl 1 (.slice none 0 0) 0 fun _ => default)]⟩
def row68 : Row := ⟨.st [(1, 36)], 1, 24, .st 68 [(.sl 1 (.slice none 0 0) 0 fun _ => default)]⟩
def row71 : Row := ⟨.st [(1, 3), (1, 21), (1, 21), (1, 21), (1, 21), (1, 3)], 6, 32, .st 71 [(.v (.int .i64 0)), (.v (.int .i32 0)), (.v (.int .i32 0)), (.v (.int .i32 0)), (.v (.int .i32 0)), (.v (.int .i64 0))]⟩
def row72 : Row := ⟨.st [(1, 3), (1, 21), (1, 21), (1, 21), (1, 21), (1, 3)], 6, 32, .st 72 [(.v (.int .i64 0)), (.v (.int .i32 0)), (.v (.int .i32 0)), (.v (.int .i32 0)), (.v (.int .i32 0)), (.v (.int .i64 0))]⟩
def row79 : Row := ⟨.leaf, 1, 8, .v (.pointer none)⟩
def row80 : Row := ⟨.st [(1, 36)], 1, 24, .st 80 [(.sl 1 (.slice none 0 0) 0 fun _ => default)]⟩
def row84 : Row := ⟨.leaf, 1, 8, .v (.pointer none)⟩
def row85 : Row := ⟨.st [(1, 9), (1, 4)], 2, 24, .st 85 [(.v (.string ⟨#[]⟩)), (.v (.bool false))]⟩
def row86 : Row := ⟨.st [(1, 9), (1, 4)], 2, 24, .st 86 [(.v (.string ⟨#[]⟩)), (.v (.bool false))]⟩
def row90 : Row := ⟨.sl 61 26, 1, 24, .sl 1 (.slice none 0 0) 0 fun _ => default⟩
def row96 : Row := ⟨.sl 21 1, 1, 24, .sl 1 (.slice none 0 0) 0 fun _ => default⟩
def row97 : Row := ⟨.leaf, 1, 4, .v (.int .u32 0)⟩
def row100 : Row := ⟨.st [(1, 3)], 1, 8, .st 100 [(.v (.int .i64 0))]⟩
def row101 : Row := ⟨.st [(1, 3)], 1, 8, .st 101 [(.v (.int .i64 0))]⟩
def row109 : Row := ⟨.sl 24 7, 1, 24, .sl 7 (.slice none 0 0) 0 fun _ => .st 24 [(.v (.bool false)), (.v (.int .i32 0)), (.v (.int .i32 0)), (.v (.int .i32 0)), (.v (.int .i32 0)), (.v (.int .i64 0)), (.v (.int .i64 0))]⟩
def row114 : Row := ⟨.sl 30 2, 1, 24, .sl 2 (.slice none 0 0) 0 fun _ => .st 30 [(.v (.int .i64 0)), (.v (.int .i64 0))]⟩
def row119 : Row := ⟨.sl 56 3, 1, 24, .sl 3 (.slice none 0 0) 0 fun _ => .st 56 [(.v (.int .i8 0)), (.v (.int .i8 0)), (.v (.int .u8 0))]⟩
def row126 : Row := ⟨.leaf, 1, 8, .v (.pointer none)⟩
def row128 : Row := ⟨.leaf, 1, 8, .v (.pointer none)⟩
def row140 : Row := ⟨.leaf, 1, 8, .v (.pointer none)⟩
def row167 : Row := ⟨.leaf, 1, 8, .v (.pointer none)⟩
def tabL : List (Option Row) := [none, none, some row2, some row3, some row4, some row5, none, none, none, some row9, none, none, some row12, none, none, none, none, none, none, none, none, some row21, some row22, some row23, some row24, some row25, some row26, some row27, some row28, some row29, some row30, some row31, some row32, some row33, some row34, some row35, some row36, none, none, none, none, none, none, none, none, none, none, none, none, none, none, some row51, none, none, some row54, some row55, some row56, none, some row58, some row59, some row60, some row61, none, some row63, some row64, none, some row66, some row67, some row68, none, none, some row71, some row72, none, none, none, none, none, none, some row79, some row80, none, none, none, some row84, some row85, some row86, none, none, none, some row90, none, none, none, none, none, some row96, some row97, none, none, some row100, some row101, none, none, none, none, none, none, none, some row109, none, none, none, none, some row114, none, none, none, none, some row119, none, none, none, none, none, none, some row126, none, some row128, none, none, none, none, none, none, none, none, none, none, none, some row140, none, none, none, none, none, none, none, none, none, none, none, none, none, none, none, none, none, none, none, none, none, none, none, none, none, none, some row167]
def T : Tab := fun t => match nth tabL t with | some r => r | none => none
def fieldsB (P : Program) (T : Tab) (t : Nat) (fs : List (Nat × Nat)) : Bool := Nat.beq (P.fieldsOf t).size fs.length && tyB.allR (fun f => match (P.fieldsOf t)[f]?, nth fs f with
  | some fd, some (s, e) => (fd.name != "_") && Nat.beq fd.offset (offF fs f) && Nat.beq fd.type e && Nat.beq (sizeT T e) s && Nat.ble 1 s && (T e).isSome
  | _, _ => false) fs.length
theorem fields_of {P : Program} {T : Tab} {t : Nat} {fs : List (Nat × Nat)} (hu : P.underlying t = some (.struct (P.fieldsOf t))) (h : fieldsB P T t fs = true) : ∃ fields : Array Field, P.underlying t = some (.struct fields) ∧ fields.size = fs.length ∧
      (∀ f s e, nth fs f = some (s, e) → ∃ fd, fields[f]? = some fd ∧ fd.name ≠ "_" ∧ fd.offset = offF fs f ∧ fd.type = e ∧ sizeT T e = s ∧ 0 < s ∧ (T e).isSome = true) := by
  simp only [fieldsB, Bool.and_eq_true] at h
  refine ⟨P.fieldsOf t, hu, Nat.eq_of_beq_eq_true h.1, fun f s e hf => ?_⟩
  have h1 := allR_ok h.2 f (nth_lt _ _ _ hf)
  simp only [hf] at h1
  split at h1
  · rename_i fd s' e' h2 h3
    simp only [Option.some.injEq, Prod.mk.injEq] at h3
    obtain ⟨rfl, rfl⟩ := h3
    simp only [Bool.and_eq_true, bne_iff_ne, ne_eq] at h1
    exact ⟨fd, h2, h1.1.1.1.1.1, Nat.eq_of_beq_eq_true h1.1.1.1.1.2, Nat.eq_of_beq_eq_true h1.1.1.1.2, Nat.eq_of_beq_eq_true h1.1.1.2, Nat.le_of_ble_eq_true h1.1.2, h1.2⟩
  · cases h1
theorem info_of {P : Program} {t : Nat} {z : Value} {s b : Nat} (h : (P.info? t).map (fun i => (i.zero, i.size, i.bytes)) = some (some z, s, b)) : ∃ i, P.info? t = some i ∧ i.size = s ∧ i.bytes = b ∧ i.zero = some z := by
  cases hi : P.info? t with
  | none => simp [hi] at h
  | some i => simp only [hi, Option.map_some, Option.some.injEq, Prod.mk.injEq] at h; exact ⟨i, rfl, h.2.1, h.2.2, h.1⟩
theorem ok2 : RowOk Try.prog T 2 row2 := ⟨info_of (by kernel_rfl), (have hu : Try.prog.underlying 2 = some (.int .i64) := (by kernel_rfl); ⟨rfl, ⟨_, hu, rfl⟩, hu⟩)⟩
theorem ok3 : RowOk Try.prog T 3 row3 := ⟨info_of (by kernel_rfl), (have hu : Try.prog.underlying 3 = some (.int .i64) := (by kernel_rfl); ⟨rfl, ⟨_, hu, rfl⟩, hu⟩)⟩
theorem ok4 : RowOk Try.prog T 4 row4 := ⟨info_of (by kernel_rfl), (have hu : Try.prog.underlying 4 = some .bool := (by kernel_rfl); ⟨rfl, ⟨_, hu, rfl⟩, hu⟩)⟩
theorem ok5 : RowOk Try.prog T 5 row5 := ⟨info_of (by kernel_rfl), (have hu : Try.prog.underlying 5 = some (.int .u8) := (by kernel_rfl); ⟨rfl, ⟨_, hu, rfl⟩, hu⟩)⟩
theorem ok9 : RowOk Try.prog T 9 row9 := ⟨info_of (by kernel_rfl), (have hu : Try.prog.underlying 9 = some .string := (by kernel_rfl); ⟨rfl, ⟨_, hu, rfl⟩, hu⟩)⟩
theorem ok12 : RowOk Try.prog T 12 row12 := ⟨info_of (by kernel_rfl), (have hu : Try.prog.underlying 12 = some (.int .u64) := (by kernel_rfl); ⟨rfl, ⟨_, hu, rfl⟩, hu⟩)⟩
theorem ok21 : RowOk Try.prog T 21 row21 := ⟨info_of (by kernel_rfl), (have hu : Try.prog.underlying 21 = some (.int .i32) := (by kernel_rfl); ⟨rfl, ⟨_, hu, rfl⟩, hu⟩)⟩
theorem ok22 : RowOk Try.prog T 22 row22 := ⟨info_of (by kernel_rfl), (have hu : Try.prog.underlying 22 = some (.int .u64) := (by kernel_rfl); ⟨rfl, ⟨_, hu, rfl⟩, hu⟩)⟩
theorem ok23 : RowOk Try.prog T 23 row23 := ⟨info_of (by kernel_rfl), (⟨rfl, fields_of (by kernel_rfl) (by kernel_rfl), (by kernel_rfl), (by kernel_rfl)⟩)⟩
theorem ok24 : RowOk Try.prog T 24 row24 := ⟨info_of (by kernel_rfl), (⟨rfl, fields_of (by kernel_rfl) (by kernel_rfl), (by kernel_rfl), (by kernel_rfl)⟩)⟩
theorem ok25 : RowOk Try.prog T 25 row25 := ⟨info_of (by kernel_rfl), (⟨rfl, (by kernel_rfl), rfl, (by decide), (by decide), rfl, (by kernel_rfl)⟩)⟩
theorem ok26 : RowOk Try.prog T 26 row26 := ⟨info_of (by kernel_rfl), (⟨rfl, (by kernel_rfl), rfl, (by decide), rfl⟩)⟩
theorem ok27 : RowOk Try.prog T 27 row27 := ⟨info_of (by kernel_rfl), (⟨rfl, fields_of (by kernel_rfl) (by kernel_rfl), (by kernel_rfl), (by kernel_rfl)⟩)⟩
theorem ok28 : RowOk Try.prog T 28 row28 := ⟨info_of (by kernel_rfl), (⟨rfl, fields_of (by kernel_rfl) (by kernel_rfl), (by kernel_rfl), (by kernel_rfl)⟩)⟩
theorem ok29 : RowOk Try.prog T 29 row29 := ⟨info_of (by kernel_rfl), (⟨rfl, fields_of (by kernel_rfl) (by kernel_rfl), (by kernel_rfl), (by kernel_rfl)⟩)⟩
theorem ok30 : RowOk Try.prog T 30 row30 := ⟨info_of (by kernel_rfl), (⟨rfl, fields_of (by kernel_rfl) (by kernel_rfl), (by kernel_rfl), (by kernel_rfl)⟩)⟩
theorem ok31 : RowOk Try.prog T 31 row31 := ⟨info_of (by kernel_rfl), (⟨rfl, (by kernel_rfl), rfl, (by decide), (by decide), rfl, (by kernel_rfl)⟩)⟩
theorem ok32 : RowOk Try.prog T 32 row32 := ⟨info_of (by kernel_rfl), (⟨rfl, fields_of (by kernel_rfl) (by kernel_rfl), (by kernel_rfl), (by kernel_rfl)⟩)⟩
theorem ok33 : RowOk Try.prog T 33 row33 := ⟨info_of (by kernel_rfl), (⟨rfl, fields_of (by kernel_rfl) (by kernel_rfl), (by kernel_rfl), (by kernel_rfl)⟩)⟩
theorem ok34 : RowOk Try.prog T 34 row34 := ⟨info_of (by kernel_rfl), (⟨rfl, fields_of (by kernel_rfl) (by kernel_rfl), (by kernel_rfl), (by kernel_rfl)⟩)⟩
theorem ok35 : RowOk Try.prog T 35 row35 := ⟨info_of (by kernel_rfl), (⟨rfl, fields_of (by kernel_rfl) (by kernel_rfl), (by kernel_rfl), (by kernel_rfl)⟩)⟩
theorem ok36 : RowOk Try.prog T 36 row36 := ⟨info_of (by kernel_rfl), (⟨rfl, (by kernel_rfl), rfl, (by decide), rfl⟩)⟩
theorem ok51 : RowOk Try.prog T 51 row51 := ⟨info_of (by kernel_rfl), (have hu : Try.prog.underlying 51 = some (.int .u64) := (by kernel_rfl); ⟨rfl, ⟨_, hu, rfl⟩, hu⟩)⟩
theorem ok54 : RowOk Try.prog T 54 row54 := ⟨info_of (by kernel_rfl), (have hu : Try.prog.underlying 54 = some (.int .i8) := (by kernel_rfl); ⟨rfl, ⟨_, hu, rfl⟩, hu⟩)⟩
theorem ok55 : RowOk Try.prog T 55 row55 := ⟨info_of (by kernel_rfl), (⟨rfl, fields_of (by kernel_rfl) (by kernel_rfl), (by kernel_rfl), (by kernel_rfl)⟩)⟩
theorem ok56 : RowOk Try.prog T 56 row56 := ⟨info_of (by kernel_rfl), (⟨rfl, fields_of (by kernel_rfl) (by kernel_rfl), (by kernel_rfl), (by kernel_rfl)⟩)⟩
theorem ok58 : RowOk Try.prog T 58 row58 := ⟨info_of (by kernel_rfl), (⟨rfl, (by kernel_rfl), rfl, (by decide), rfl⟩)⟩
theorem ok59 : RowOk Try.prog T 59 row59 := ⟨info_of (by kernel_rfl), (⟨rfl, (by kernel_rfl), rfl, (by decide), (by decide), rfl, (by kernel_rfl)⟩)⟩
theorem ok60 : RowOk Try.prog T 60 row60 := ⟨info_of (by kernel_rfl), (⟨rfl, fields_of (by kernel_rfl) (by kernel_rfl), (by kernel_rfl), (by kernel_rfl)⟩)⟩
theorem ok61 : RowOk Try.prog T 61 row61 := ⟨info_of (by kernel_rfl), (⟨rfl, fields_of (by kernel_rfl) (by kernel_rfl), (by kernel_rfl), (by kernel_rfl)⟩)⟩
theorem ok63 : RowOk Try.prog T 63 row63 := ⟨info_of (by kernel_rfl), (⟨rfl, fields_of (by kernel_rfl) (by kernel_rfl), (by kernel_rfl), (by kernel_rfl)⟩)⟩
theorem ok64 : RowOk Try.prog T 64 row64 := ⟨info_of (by kernel_rfl), (⟨rfl, fields_of (by kernel_rfl) (by kernel_rfl), (by kernel_rfl), (by kernel_rfl)⟩)⟩
theorem ok66 : RowOk Try.prog T 66 row66 := ⟨info_of (by kernel_rfl), (have hu : Try.prog.underlying 66 = some (.pointer (Try.prog.pointee 66)) := (by kernel_rfl); ⟨rfl, ⟨_, hu, rfl⟩, hu⟩)⟩
theorem ok67 : RowOk Try.prog T 67 row67 := ⟨info_of (by kernel_rfl), (⟨rfl, fields_of (by kernel_rfl) (by kernel_rfl), (by kernel_rfl), (by kernel_rfl)⟩)⟩
theorem ok68 : RowOk Try.prog T 68 row68 := ⟨info_of (by kernel_rfl), (⟨rfl, fields_of (by kernel_rfl) (by kernel_rfl), (by kernel_rfl), (by kernel_rfl)⟩)⟩
theorem ok71 : RowOk Try.prog T 71 row71 := ⟨info_of (by kernel_rfl), (⟨rfl, fields_of (by kernel_rfl) (by kernel_rfl), (by kernel_rfl), (by kernel_rfl)⟩)⟩
theorem ok72 : RowOk Try.prog T 72 row72 := ⟨info_of (by kernel_rfl), (⟨rfl, fields_of (by kernel_rfl) (by kernel_rfl), (by kernel_rfl), (by kernel_rfl)⟩)⟩
theorem ok79 : RowOk Try.prog T 79 row79 := ⟨info_of (by kernel_rfl), (have hu : Try.prog.underlying 79 = some (.pointer (Try.prog.pointee 79)) := (by kernel_rfl); ⟨rfl, ⟨_, hu, rfl⟩, hu⟩)⟩
theorem ok80 : RowOk Try.prog T 80 row80 := ⟨info_of (by kernel_rfl), (⟨rfl, fields_of (by kernel_rfl) (by kernel_rfl), (by kernel_rfl), (by kernel_rfl)⟩)⟩
theorem ok84 : RowOk Try.prog T 84 row84 := ⟨info_of (by kernel_rfl), (have hu : Try.prog.underlying 84 = some (.pointer (Try.prog.pointee 84)) := (by kernel_rfl); ⟨rfl, ⟨_, hu, rfl⟩, hu⟩)⟩
theorem ok85 : RowOk Try.prog T 85 row85 := ⟨info_of (by kernel_rfl), (⟨rfl, fields_of (by kernel_rfl) (by kernel_rfl), (by kernel_rfl), (by kernel_rfl)⟩)⟩
theorem ok86 : RowOk Try.prog T 86 row86 := ⟨info_of (by kernel_rfl), (⟨rfl, fields_of (by kernel_rfl) (by kernel_rfl), (by kernel_rfl), (by kernel_rfl)⟩)⟩
theorem ok90 : RowOk Try.prog T 90 row90 := ⟨info_of (by kernel_rfl), (⟨rfl, (by kernel_rfl), rfl, (by decide), rfl⟩)⟩
theorem ok96 : RowOk Try.prog T 96 row96 := ⟨info_of (by kernel_rfl), (⟨rfl, (by kernel_rfl), rfl, (by decide), rfl⟩)⟩
theorem ok97 : RowOk Try.prog T 97 row97 := ⟨info_of (by kernel_rfl), (have hu : Try.prog.underlying 97 = some (.int .u32) := (by kernel_rfl); ⟨rfl, ⟨_, hu, rfl⟩, hu⟩)⟩
theorem ok100 : RowOk Try.prog T 100 row100 := ⟨info_of (by kernel_rfl), (⟨rfl, fields_of (by kernel_rfl) (by kernel_rfl), (by kernel_rfl), (by kernel_rfl)⟩)⟩
theorem ok101 : RowOk Try.prog T 101 row101 := ⟨info_of (by kernel_rfl), (⟨rfl, fields_of (by kernel_rfl) (by kernel_rfl), (by kernel_rfl), (by kernel_rfl)⟩)⟩
theorem ok109 : RowOk Try.prog T 109 row109 := ⟨info_of (by kernel_rfl), (⟨rfl, (by kernel_rfl), rfl, (by decide), rfl⟩)⟩
theorem ok114 : RowOk Try.prog T 114 row114 := ⟨info_of (by kernel_rfl), (⟨rfl, (by kernel_rfl), rfl, (by decide), rfl⟩)⟩
theorem ok119 : RowOk Try.prog T 119 row119 := ⟨info_of (by kernel_rfl), (⟨rfl, (by kernel_rfl), rfl, (by decide), rfl⟩)⟩
theorem ok126 : RowOk Try.prog T 126 row126 := ⟨info_of (by kernel_rfl), (have hu : Try.prog.underlying 126 = some (.pointer (Try.prog.pointee 126)) := (by kernel_rfl); ⟨rfl, ⟨_, hu, rfl⟩, hu⟩)⟩
theorem ok128 : RowOk Try.prog T 128 row128 := ⟨info_of (by kernel_rfl), (have hu : Try.prog.underlying 128 = some (.pointer (Try.prog.pointee 128)) := (by kernel_rfl); ⟨rfl, ⟨_, hu, rfl⟩, hu⟩)⟩
theorem ok140 : RowOk Try.prog T 140 row140 := ⟨info_of (by kernel_rfl), (have hu : Try.prog.underlying 140 = some (.pointer (Try.prog.pointee 140)) := (by kernel_rfl); ⟨rfl, ⟨_, hu, rfl⟩, hu⟩)⟩
theorem ok167 : RowOk Try.prog T 167 row167 := ⟨info_of (by kernel_rfl), (have hu : Try.prog.underlying 167 = some (.pointer (Try.prog.pointee 167)) := (by kernel_rfl); ⟨rfl, ⟨_, hu, rfl⟩, hu⟩)⟩
def ZRow (T : Tab) (r : Row) : Prop := (∀ w A, Ok T w A r.zero) ∧ Cl r.zero ∧ r.zero.size T = r.size
theorem zsl {T : Tab} {w : World} {A : Dom} {sz : Nat} {f : Nat → D} : Ok T w A (.sl sz (.slice none 0 0) 0 f) := ⟨⟨none, 0, rfl, Nat.le_refl _, Nat.zero_le _, .inl rfl⟩, fun _ h => absurd h (Nat.not_lt_zero _)⟩
theorem z2 : ZRow T row2 := ⟨fun _ _ => rfl, trivial, rfl⟩
theorem z3 : ZRow T row3 := ⟨fun _ _ => rfl, trivial, rfl⟩
theorem z4 : ZRow T row4 := ⟨fun _ _ => rfl, trivial, rfl⟩
theorem z5 : ZRow T row5 := ⟨fun _ _ => rfl, trivial, rfl⟩
theorem z9 : ZRow T row9 := ⟨fun _ _ => rfl, trivial, rfl⟩
theorem z12 : ZRow T row12 := ⟨fun _ _ => rfl, trivial, rfl⟩
theorem z21 : ZRow T row21 := ⟨fun _ _ => rfl, trivial, rfl⟩
theorem z22 : ZRow T row22 := ⟨fun _ _ => rfl, trivial, rfl⟩
theorem z26 : ZRow T row26 := ⟨fun _ _ => zsl, (fun _ h => absurd h (Nat.not_lt_zero _)), rfl⟩
theorem z36 : ZRow T row36 := ⟨fun _ _ => zsl, (fun _ h => absurd h (Nat.not_lt_zero _)), rfl⟩
theorem z51 : ZRow T row51 := ⟨fun _ _ => rfl, trivial, rfl⟩
theorem z54 : ZRow T row54 := ⟨fun _ _ => rfl, trivial, rfl⟩
theorem z58 : ZRow T row58 := ⟨fun _ _ => zsl, (fun _ h => absurd h (Nat.not_lt_zero _)), rfl⟩
theorem z66 : ZRow T row66 := ⟨fun _ _ => rfl, trivial, rfl⟩
theorem z79 : ZRow T row79 := ⟨fun _ _ => rfl, trivial, rfl⟩
theorem z84 : ZRow T row84 := ⟨fun _ _ => rfl, trivial, rfl⟩
theorem z90 : ZRow T row90 := ⟨fun _ _ => zsl, (fun _ h => absurd h (Nat.not_lt_zero _)), rfl⟩
theorem z96 : ZRow T row96 := ⟨fun _ _ => zsl, (fun _ h => absurd h (Nat.not_lt_zero _)), rfl⟩
theorem z97 : ZRow T row97 := ⟨fun _ _ => rfl, trivial, rfl⟩
theorem z109 : ZRow T row109 := ⟨fun _ _ => zsl, (fun _ h => absurd h (Nat.not_lt_zero _)), rfl⟩
theorem z114 : ZRow T row114 := ⟨fun _ _ => zsl, (fun _ h => absurd h (Nat.not_lt_zero _)), rfl⟩
theorem z119 : ZRow T row119 := ⟨fun _ _ => zsl, (fun _ h => absurd h (Nat.not_lt_zero _)), rfl⟩
theorem z126 : ZRow T row126 := ⟨fun _ _ => rfl, trivial, rfl⟩
theorem z128 : ZRow T row128 := ⟨fun _ _ => rfl, trivial, rfl⟩
theorem z140 : ZRow T row140 := ⟨fun _ _ => rfl, trivial, rfl⟩
theorem z167 : ZRow T row167 := ⟨fun _ _ => rfl, trivial, rfl⟩
theorem z23 : ZRow T row23 := ⟨fun w A => ⟨⟨_, _, _, rfl, rfl⟩, ⟨z4.1 w A, z21.1 w A, z21.1 w A, z21.1 w A, z21.1 w A, z3.1 w A, z3.1 w A, trivial⟩⟩, ⟨z4.2.1, z21.2.1, z21.2.1, z21.2.1, z21.2.1, z3.2.1, z3.2.1, trivial⟩, rfl⟩
theorem z24 : ZRow T row24 := ⟨fun w A => ⟨⟨_, _, _, rfl, rfl⟩, ⟨z4.1 w A, z21.1 w A, z21.1 w A, z21.1 w A, z21.1 w A, z3.1 w A, z3.1 w A, trivial⟩⟩, ⟨z4.2.1, z21.2.1, z21.2.1, z21.2.1, z21.2.1, z3.2.1, z3.2.1, trivial⟩, rfl⟩
theorem z25 : ZRow T row25 := ⟨fun w A _ _ => ⟨z24.2.2, z24.1 w A⟩, (fun _ _ => z24.2.1), rfl⟩
theorem z27 : ZRow T row27 := ⟨fun w A => ⟨⟨_, _, _, rfl, rfl⟩, ⟨z3.1 w A, z22.1 w A, z25.1 w A, z26.1 w A, trivial⟩⟩, ⟨z3.2.1, z22.2.1, z25.2.1, z26.2.1, trivial⟩, rfl⟩
theorem z28 : ZRow T row28 := ⟨fun w A => ⟨⟨_, _, _, rfl, rfl⟩, ⟨z3.1 w A, z22.1 w A, z25.1 w A, z26.1 w A, trivial⟩⟩, ⟨z3.2.1, z22.2.1, z25.2.1, z26.2.1, trivial⟩, rfl⟩
theorem z29 : ZRow T row29 := ⟨fun w A => ⟨⟨_, _, _, rfl, rfl⟩, ⟨z3.1 w A, z3.1 w A, trivial⟩⟩, ⟨z3.2.1, z3.2.1, trivial⟩, rfl⟩
theorem z30 : ZRow T row30 := ⟨fun w A => ⟨⟨_, _, _, rfl, rfl⟩, ⟨z3.1 w A, z3.1 w A, trivial⟩⟩, ⟨z3.2.1, z3.2.1, trivial⟩, rfl⟩
theorem z31 : ZRow T row31 := ⟨fun w A _ _ => ⟨z30.2.2, z30.1 w A⟩, (fun _ _ => z30.2.1), rfl⟩
theorem z32 : ZRow T row32 := ⟨fun w A => ⟨⟨_, _, _, rfl, rfl⟩, ⟨z3.1 w A, z31.1 w A, trivial⟩⟩, ⟨z3.2.1, z31.2.1, trivial⟩, rfl⟩
theorem z33 : ZRow T row33 := ⟨fun w A => ⟨⟨_, _, _, rfl, rfl⟩, ⟨z3.1 w A, z31.1 w A, trivial⟩⟩, ⟨z3.2.1, z31.2.1, trivial⟩, rfl⟩
theorem z34 : ZRow T row34 := ⟨fun w A => ⟨⟨_, _, _, rfl, rfl⟩, ⟨z28.1 w A, z33.1 w A, trivial⟩⟩, ⟨z28.2.1, z33.2.1, trivial⟩, rfl⟩
theorem z35 : ZRow T row35 := ⟨fun w A => ⟨⟨_, _, _, rfl, rfl⟩, ⟨z28.1 w A, z33.1 w A, trivial⟩⟩, ⟨z28.2.1, z33.2.1, trivial⟩, rfl⟩
theorem z55 : ZRow T row55 := ⟨fun w A => ⟨⟨_, _, _, rfl, rfl⟩, ⟨z54.1 w A, z54.1 w A, z5.1 w A, trivial⟩⟩, ⟨z54.2.1, z54.2.1, z5.2.1, trivial⟩, rfl⟩
theorem z56 : ZRow T row56 := ⟨fun w A => ⟨⟨_, _, _, rfl, rfl⟩, ⟨z54.1 w A, z54.1 w A, z5.1 w A, trivial⟩⟩, ⟨z54.2.1, z54.2.1, z5.2.1, trivial⟩, rfl⟩
theorem z59 : ZRow T row59 := ⟨fun w A _ _ => ⟨z56.2.2, z56.1 w A⟩, (fun _ _ => z56.2.1), rfl⟩
theorem z60 : ZRow T row60 := ⟨fun w A => ⟨⟨_, _, _, rfl, rfl⟩, ⟨z3.1 w A, z58.1 w A, z59.1 w A, trivial⟩⟩, ⟨z3.2.1, z58.2.1, z59.2.1, trivial⟩, rfl⟩
theorem z61 : ZRow T row61 := ⟨fun w A => ⟨⟨_, _, _, rfl, rfl⟩, ⟨z3.1 w A, z58.1 w A, z59.1 w A, trivial⟩⟩, ⟨z3.2.1, z58.2.1, z59.2.1, trivial⟩, rfl⟩
theorem z63 : ZRow T row63 := ⟨fun w A => ⟨⟨_, _, _, rfl, rfl⟩, ⟨z3.1 w A, z3.1 w A, z3.1 w A, z3.1 w A, trivial⟩⟩, ⟨z3.2.1, z3.2.1, z3.2.1, z3.2.1, trivial⟩, rfl⟩
theorem z64 : ZRow T row64 := ⟨fun w A => ⟨⟨_, _, _, rfl, rfl⟩, ⟨z3.1 w A, z3.1 w A, z3.1 w A, z3.1 w A, trivial⟩⟩, ⟨z3.2.1, z3.2.1, z3.2.1, z3.2.1, trivial⟩, rfl⟩
theorem z67 : ZRow T row67 := ⟨fun w A => ⟨⟨_, _, _, rfl, rfl⟩, ⟨z36.1 w A, trivial⟩⟩, ⟨z36.2.1, trivial⟩, rfl⟩
theorem z68 : ZRow T row68 := ⟨fun w A => ⟨⟨_, _, _, rfl, rfl⟩, ⟨z36.1 w A, trivial⟩⟩, ⟨z36.2.1, trivial⟩, rfl⟩
theorem z71 : ZRow T row71 := ⟨fun w A => ⟨⟨_, _, _, rfl, rfl⟩, ⟨z3.1 w A, z21.1 w A, z21.1 w A, z21.1 w A, z21.1 w A, z3.1 w A, trivial⟩⟩, ⟨z3.2.1, z21.2.1, z21.2.1, z21.2.1, z21.2.1, z3.2.1, trivial⟩, rfl⟩
theorem z72 : ZRow T row72 := ⟨fun w A => ⟨⟨_, _, _, rfl, rfl⟩, ⟨z3.1 w A, z21.1 w A, z21.1 w A, z21.1 w A, z21.1 w A, z3.1 w A, trivial⟩⟩, ⟨z3.2.1, z21.2.1, z21.2.1, z21.2.1, z21.2.1, z3.2.1, trivial⟩, rfl⟩
theorem z80 : ZRow T row80 := ⟨fun w A => ⟨⟨_, _, _, rfl, rfl⟩, ⟨z36.1 w A, trivial⟩⟩, ⟨z36.2.1, trivial⟩, rfl⟩
theorem z85 : ZRow T row85 := ⟨fun w A => ⟨⟨_, _, _, rfl, rfl⟩, ⟨z9.1 w A, z4.1 w A, trivial⟩⟩, ⟨z9.2.1, z4.2.1, trivial⟩, rfl⟩
theorem z86 : ZRow T row86 := ⟨fun w A => ⟨⟨_, _, _, rfl, rfl⟩, ⟨z9.1 w A, z4.1 w A, trivial⟩⟩, ⟨z9.2.1, z4.2.1, trivial⟩, rfl⟩
theorem z100 : ZRow T row100 := ⟨fun w A => ⟨⟨_, _, _, rfl, rfl⟩, ⟨z3.1 w A, trivial⟩⟩, ⟨z3.2.1, trivial⟩, rfl⟩
theorem z101 : ZRow T row101 := ⟨fun w A => ⟨⟨_, _, _, rfl, rfl⟩, ⟨z3.1 w A, trivial⟩⟩, ⟨z3.2.1, trivial⟩, rfl⟩
theorem tabL_all (Q : Nat → Row → Prop) (h : ∀ k, (hk : k < tabL.length) → ∀ r, tabL[k] = some r → Q k r) : ∀ t r, T t = some r → Q t r := by
  intro t r ht
  unfold T at ht
  split at ht
  · rename_i q hq
    subst ht
    have hk := nth_lt _ _ _ hq
    refine h t hk r ?_
    rw [nth_get, List.getElem?_eq_getElem hk] at hq
    exact Option.some.inj hq
  · cases ht
theorem tab_ok : ∀ t r, T t = some r → RowOk Try.prog T t r := by
  refine tabL_all _ fun k hk r h => ?_
  match k, hk, r, h with
  | 0, _, r, h => cases h
  | 1, _, r, h => cases h
  | 2, _, r, h => cases h; exact ok2
  | 3, _, r, h => cases h; exact ok3
  | 4, _, r, h => cases h; exact ok4
  | 5, _, r, h => cases h; exact ok5
  | 6, _, r, h => cases h
  | 7, _, r, h => cases h
  | 8, _, r, h => cases h
  | 9, _, r, h => cases h; exact ok9
  | 10, _, r, h => cases h
  | 11, _, r, h => cases h
  | 12, _, r, h => cases h; exact ok12
  | 13, _, r, h => cases h
  | 14, _, r, h => cases h
  | 15, _, r, h => cases h
  | 16, _, r, h => cases h
  | 17, _, r, h => cases h
  | 18, _, r, h => cases h
  | 19, _, r, h => cases h
  | 20, _, r, h => cases h
  | 21, _, r, h => cases h; exact ok21
  | 22, _, r, h => cases h; exact ok22
  | 23, _, r, h => cases h; exact ok23
  | 24, _, r, h => cases h; exact ok24
  | 25, _, r, h => cases h; exact ok25
  | 26, _, r, h => cases h; exact ok26
  | 27, _, r, h => cases h; exact ok27
  | 28, _, r, h => cases h; exact ok28
  | 29, _, r, h => cases h; exact ok29
  | 30, _, r, h => cases h; exact ok30
  | 31, _, r, h => cases h; exact ok31
  | 32, _, r, h => cases h; exact ok32
  | 33, _, r, h => cases h; exact ok33
  | 34, _, r, h => cases h; exact ok34
  | 35, _, r, h => cases h; exact ok35
  | 36, _, r, h => cases h; exact ok36
  | 37, _, r, h => cases h
  | 38, _, r, h => cases h
  | 39, _, r, h => cases h
  | 40, _, r, h => cases h
  | 41, _, r, h => cases h
  | 42, _, r, h => cases h
  | 43, _, r, h => cases h
  | 44, _, r, h => cases h
  | 45, _, r, h => cases h
  | 46, _, r, h => cases h
  | 47, _, r, h => cases h
  | 48, _, r, h => cases h
  | 49, _, r, h => cases h
  | 50, _, r, h => cases h
  | 51, _, r, h => cases h; exact ok51
  | 52, _, r, h => cases h
  | 53, _, r, h => cases h
  | 54, _, r, h => cases h; exact ok54
  | 55, _, r, h => cases h; exact ok55
  | 56, _, r, h => cases h; exact ok56
  | 57, _, r, h => cases h
  | 58, _, r, h => cases h; exact ok58
  | 59, _, r, h => cases h; exact ok59
  | 60, _, r, h => cases h; exact ok60
  | 61, _, r, h => cases h; exact ok61
  | 62, _, r, h => cases h
  | 63, _, r, h => cases h; exact ok63
  | 64, _, r, h => cases h; exact ok64
  | 65, _, r, h => cases h
  | 66, _, r, h => cases h; exact ok66
  | 67, _, r, h => cases h; exact ok67
  | 68, _, r, h => cases h; exact ok68
  | 69, _, r, h => cases h
  | 70, _, r, h => cases h
  | 71, _, r, h => cases h; exact ok71
  | 72, _, r, h => cases h; exact ok72
  | 73, _, r, h => cases h
  | 74, _, r, h => cases h
  | 75, _, r, h => cases h
  | 76, _, r, h => cases h
  | 77, _, r, h => cases h
  | 78, _, r, h => cases h
  | 79, _, r, h => cases h; exact ok79
  | 80, _, r, h => cases h; exact ok80
  | 81, _, r, h => cases h
  | 82, _, r, h => cases h
  | 83, _, r, h => cases h
  | 84, _, r, h => cases h; exact ok84
  | 85, _, r, h => cases h; exact ok85
  | 86, _, r, h => cases h; exact ok86
  | 87, _, r, h => cases h
  | 88, _, r, h => cases h
  | 89, _, r, h => cases h
  | 90, _, r, h => cases h; exact ok90
  | 91, _, r, h => cases h
  | 92, _, r, h => cases h
  | 93, _, r, h => cases h
  | 94, _, r, h => cases h
  | 95, _, r, h => cases h
  | 96, _, r, h => cases h; exact ok96
  | 97, _, r, h => cases h; exact ok97
  | 98, _, r, h => cases h
  | 99, _, r, h => cases h
  | 100, _, r, h => cases h; exact ok100
  | 101, _, r, h => cases h; exact ok101
  | 102, _, r, h => cases h
  | 103, _, r, h => cases h
  | 104, _, r, h => cases h
  | 105, _, r, h => cases h
  | 106, _, r, h => cases h
  | 107, _, r, h => cases h
  | 108, _, r, h => cases h
  | 109, _, r, h => cases h; exact ok109
  | 110, _, r, h => cases h
  | 111, _, r, h => cases h
  | 112, _, r, h => cases h
  | 113, _, r, h => cases h
  | 114, _, r, h => cases h; exact ok114
  | 115, _, r, h => cases h
  | 116, _, r, h => cases h
  | 117, _, r, h => cases h
  | 118, _, r, h => cases h
  | 119, _, r, h => cases h; exact ok119
  | 120, _, r, h => cases h
  | 121, _, r, h => cases h
  | 122, _, r, h => cases h
  | 123, _, r, h => cases h
  | 124, _, r, h => cases h
  | 125, _, r, h => cases h
  | 126, _, r, h => cases h; exact ok126
  | 127, _, r, h => cases h
  | 128, _, r, h => cases h; exact ok128
  | 129, _, r, h => cases h
  | 130, _, r, h => cases h
  | 131, _, r, h => cases h
  | 132, _, r, h => cases h
  | 133, _, r, h => cases h
  | 134, _, r, h => cases h
  | 135, _, r, h => cases h
  | 136, _, r, h => cases h
  | 137, _, r, h => cases h
  | 138, _, r, h => cases h
  | 139, _, r, h => cases h
  | 140, _, r, h => cases h; exact ok140
  | 141, _, r, h => cases h
  | 142, _, r, h => cases h
  | 143, _, r, h => cases h
  | 144, _, r, h => cases h
  | 145, _, r, h => cases h
  | 146, _, r, h => cases h
  | 147, _, r, h => cases h
  | 148, _, r, h => cases h
  | 149, _, r, h => cases h
  | 150, _, r, h => cases h
  | 151, _, r, h => cases h
  | 152, _, r, h => cases h
  | 153, _, r, h => cases h
  | 154, _, r, h => cases h
  | 155, _, r, h => cases h
  | 156, _, r, h => cases h
  | 157, _, r, h => cases h
  | 158, _, r, h => cases h
  | 159, _, r, h => cases h
  | 160, _, r, h => cases h
  | 161, _, r, h => cases h
  | 162, _, r, h => cases h
  | 163, _, r, h => cases h
  | 164, _, r, h => cases h
  | 165, _, r, h => cases h
  | 166, _, r, h => cases h
  | 167, _, r, h => cases h; exact ok167
  | k + 168, hk, _, _ => exact absurd hk (by have e : tabL.length = 168 := rfl; omega)
theorem zero_ok : ∀ t r, T t = some r → ZRow T r := by
  refine tabL_all _ fun k hk r h => ?_
  match k, hk, r, h with
  | 0, _, r, h => cases h
  | 1, _, r, h => cases h
  | 2, _, r, h => cases h; exact z2
  | 3, _, r, h => cases h; exact z3
  | 4, _, r, h => cases h; exact z4
  | 5, _, r, h => cases h; exact z5
  | 6, _, r, h => cases h
  | 7, _, r, h => cases h
  | 8, _, r, h => cases h
  | 9, _, r, h => cases h; exact z9
  | 10, _, r, h => cases h
  | 11, _, r, h => cases h
  | 12, _, r, h => cases h; exact z12
  | 13, _, r, h => cases h
  | 14, _, r, h => cases h
  | 15, _, r, h => cases h
  | 16, _, r, h => cases h
  | 17, _, r, h => cases h
  | 18, _, r, h => cases h
  | 19, _, r, h => cases h
  | 20, _, r, h => cases h
  | 21, _, r, h => cases h; exact z21
  | 22, _, r, h => cases h; exact z22
  | 23, _, r, h => cases h; exact z23
  | 24, _, r, h => cases h; exact z24
  | 25, _, r, h => cases h; exact z25
  | 26, _, r, h => cases h; exact z26
  | 27, _, r, h => cases h; exact z27
  | 28, _, r, h => cases h; exact z28
  | 29, _, r, h => cases h; exact z29
  | 30, _, r, h => cases h; exact z30
  | 31, _, r, h => cases h; exact z31
  | 32, _, r, h => cases h; exact z32
  | 33, _, r, h => cases h; exact z33
  | 34, _, r, h => cases h; exact z34
  | 35, _, r, h => cases h; exact z35
  | 36, _, r, h => cases h; exact z36
  | 37, _, r, h => cases h
  | 38, _, r, h => cases h
  | 39, _, r, h => cases h
  | 40, _, r, h => cases h
  | 41, _, r, h => cases h
  | 42, _, r, h => cases h
  | 43, _, r, h => cases h
  | 44, _, r, h => cases h
  | 45, _, r, h => cases h
  | 46, _, r, h => cases h
  | 47, _, r, h => cases h
  | 48, _, r, h => cases h
  | 49, _, r, h => cases h
  | 50, _, r, h => cases h
  | 51, _, r, h => cases h; exact z51
  | 52, _, r, h => cases h
  | 53, _, r, h => cases h
  | 54, _, r, h => cases h; exact z54
  | 55, _, r, h => cases h; exact z55
  | 56, _, r, h => cases h; exact z56
  | 57, _, r, h => cases h
  | 58, _, r, h => cases h; exact z58
  | 59, _, r, h => cases h; exact z59
  | 60, _, r, h => cases h; exact z60
  | 61, _, r, h => cases h; exact z61
  | 62, _, r, h => cases h
  | 63, _, r, h => cases h; exact z63
  | 64, _, r, h => cases h; exact z64
  | 65, _, r, h => cases h
  | 66, _, r, h => cases h; exact z66
  | 67, _, r, h => cases h; exact z67
  | 68, _, r, h => cases h; exact z68
  | 69, _, r, h => cases h
  | 70, _, r, h => cases h
  | 71, _, r, h => cases h; exact z71
  | 72, _, r, h => cases h; exact z72
  | 73, _, r, h => cases h
  | 74, _, r, h => cases h
  | 75, _, r, h => cases h
  | 76, _, r, h => cases h
  | 77, _, r, h => cases h
  | 78, _, r, h => cases h
  | 79, _, r, h => cases h; exact z79
  | 80, _, r, h => cases h; exact z80
  | 81, _, r, h => cases h
  | 82, _, r, h => cases h
  | 83, _, r, h => cases h
  | 84, _, r, h => cases h; exact z84
  | 85, _, r, h => cases h; exact z85
  | 86, _, r, h => cases h; exact z86
  | 87, _, r, h => cases h
  | 88, _, r, h => cases h
  | 89, _, r, h => cases h
  | 90, _, r, h => cases h; exact z90
  | 91, _, r, h => cases h
  | 92, _, r, h => cases h
  | 93, _, r, h => cases h
  | 94, _, r, h => cases h
  | 95, _, r, h => cases h
  | 96, _, r, h => cases h; exact z96
  | 97, _, r, h => cases h; exact z97
  | 98, _, r, h => cases h
  | 99, _, r, h => cases h
  | 100, _, r, h => cases h; exact z100
  | 101, _, r, h => cases h; exact z101
  | 102, _, r, h => cases h
  | 103, _, r, h => cases h
  | 104, _, r, h => cases h
  | 105, _, r, h => cases h
  | 106, _, r, h => cases h
  | 107, _, r, h => cases h
  | 108, _, r, h => cases h
  | 109, _, r, h => cases h; exact z109
  | 110, _, r, h => cases h
  | 111, _, r, h => cases h
  | 112, _, r, h => cases h
  | 113, _, r, h => cases h
  | 114, _, r, h => cases h; exact z114
  | 115, _, r, h => cases h
  | 116, _, r, h => cases h
  | 117, _, r, h => cases h
  | 118, _, r, h => cases h
  | 119, _, r, h => cases h; exact z119
  | 120, _, r, h => cases h
  | 121, _, r, h => cases h
  | 122, _, r, h => cases h
  | 123, _, r, h => cases h
  | 124, _, r, h => cases h
  | 125, _, r, h => cases h
  | 126, _, r, h => cases h; exact z126
  | 127, _, r, h => cases h
  | 128, _, r, h => cases h; exact z128
  | 129, _, r, h => cases h
  | 130, _, r, h => cases h
  | 131, _, r, h => cases h
  | 132, _, r, h => cases h
  | 133, _, r, h => cases h
  | 134, _, r, h => cases h
  | 135, _, r, h => cases h
  | 136, _, r, h => cases h
  | 137, _, r, h => cases h
  | 138, _, r, h => cases h
  | 139, _, r, h => cases h
  | 140, _, r, h => cases h; exact z140
  | 141, _, r, h => cases h
  | 142, _, r, h => cases h
  | 143, _, r, h => cases h
  | 144, _, r, h => cases h
  | 145, _, r, h => cases h
  | 146, _, r, h => cases h
  | 147, _, r, h => cases h
  | 148, _, r, h => cases h
  | 149, _, r, h => cases h
  | 150, _, r, h => cases h
  | 151, _, r, h => cases h
  | 152, _, r, h => cases h
  | 153, _, r, h => cases h
  | 154, _, r, h => cases h
  | 155, _, r, h => cases h
  | 156, _, r, h => cases h
  | 157, _, r, h => cases h
  | 158, _, r, h => cases h
  | 159, _, r, h => cases h
  | 160, _, r, h => cases h
  | 161, _, r, h => cases h
  | 162, _, r, h => cases h
  | 163, _, r, h => cases h
  | 164, _, r, h => cases h
  | 165, _, r, h => cases h
  | 166, _, r, h => cases h
  | 167, _, r, h => cases h; exact z167
  | k + 168, hk, _, _ => exact absurd hk (by have e : tabL.length = 168 := rfl; omega)
end Go.CE

/- Contracts of the smallest functions: for every argument the answer is the one that is written. -/
namespace Go.CE
open Go.RowKit Go.Proofs

theorem mixed : Try.prog.follows .mixedOrders = true := by kernel_rfl
def Cnil : Calls' := fun _ _ => none
theorem K0 : Kit Try.prog T Cnil := ⟨tab_ok, zero_ok, fun _ _ _ _ h => (by cases h), mixed⟩

theorem scalar_ok {ds : List D} {w : World} {A : Dom} (h : ∀ x ∈ ds, Ok T w A x) (hc : ClL ds) : ∀ x ∈ ds, Ok T w A x ∧ Cl x := by
  intro x hx
  refine ⟨h x hx, ?_⟩
  clear h
  induction ds with
  | nil => cases hx
  | cons d r ih =>
    rcases List.mem_cons.1 hx with rfl | hx
    · exact hc.1
    · exact ih hc.2 hx

/-- 'game.on'. -/
def onB (x : Int) : Bool := decide (x ≥ 0) && decide (x < 16777216)
theorem c_on (x : Int) : PureOk Try.prog T 82 [.v (.int .i32 x)] (.v (.bool (onB x))) := by
  intro β w A ho
  refine enter [.v (.int .i32 x)] Try.func82 rfl rfl rfl (scalar_ok ho ⟨trivial, trivial⟩) fun a hS => ?_
  refine regS K0 [0, 1] hS rfl rfl trivial fun β a w hS => ?_
  refine regS K0 [2] hS rfl rfl trivial fun β a w hS => ?_
  exact wp_ret (ret1 rfl hS rfl ⟨rfl, hS.ss.keep.toBelow⟩)

def sizeB (x m : Int) : Bool := decide (x ≥ IntKind.i32.wrap (0 - m)) && decide (x ≤ m)
theorem c_size (x m : Int) : PureOk Try.prog T 83 [.v (.int .i32 x), .v (.int .i32 m)] (.v (.bool (sizeB x m))) := by
  intro β w A ho
  refine enter [.v (.int .i32 x), .v (.int .i32 m)] Try.func83 rfl rfl rfl (scalar_ok ho ⟨trivial, trivial, trivial⟩) fun a hS => ?_
  refine regS K0 [0, 1] hS rfl rfl trivial fun β a w hS => ?_
  refine regS K0 [4] hS rfl rfl trivial fun β a w hS => ?_
  exact wp_ret (ret1 rfl hS rfl ⟨rfl, hS.ss.keep.toBelow⟩)

end Go.CE

/- Plain contracts: how they are made and turned into one another; states of the game as trees; searching a slice. -/
namespace Go.CE
open Go.RowKit Go.Proofs

section
variable {P : Program} {T : Tab} {w0 w : World} {pins : Pins} {N : Nat} {env : Env} {gs : List Nat} {L : List Ent} {β : Nat → Nat} {a : Act} {C : Calls'} {ds : List Deferred}

theorem Fun.pure {f : Nat} {xs : List D} {d : D} (h : Fun P T f xs fun y => y = d) (hc : ClL xs) : PureOk P T f xs d := by
  intro β w A ho
  have hx : ∀ x ∈ xs, Ok T w (Own (fun _ => True) [] β) x := OkL_iff.1 (OkL.cl (A := A) (A' := Own (fun _ => True) [] β) (fun b _ => ⟨trivial, fun k e hk => by cases hk⟩) xs hc (OkL_iff.2 ho))
  refine (h (fun _ => True) β w MemOk.nil hx (fun _ _ => trivial) (fun _ _ _ => trivial)).mono ?_
  rintro e w' ⟨y, L1, β1, ⟨rfl, hcl, rfl⟩, rfl, _, _, hK, _⟩
  refine ⟨?_, ⟨hK.os, hK.tape, hK.output, hK.size, fun k hk => hK.block k hk rfl⟩⟩
  rw [Cl.val β1 β _ hcl]
theorem PureOk.fun {f : Nat} {xs : List D} {d : D} (h : PureOk P T f xs d) (hc : Cl d) (ho : ∀ w A, OkT T w A d) : Fun P T f xs fun y => y = d := by
  intro G β w hM hx hg1 hg2
  refine (h β w (Own G [] β) hx).mono ?_
  rintro e w' ⟨rfl, hb⟩
  refine ⟨d, [], β, ⟨rfl, hc, rfl⟩, rfl, ⟨(fun k e h => by cases h), (fun j k d e h => by cases h)⟩, ho _ _, ⟨hb.os, hb.tape, hb.output, hb.size, fun k hk _ => hb.block k hk⟩, Nat.le_refl _, fun k hk => absurd hk (Nat.not_lt_zero _), fun k _ hk => absurd hk (Nat.not_lt_zero _)⟩

end

/-! ### The game's states as trees -/

structure Ship where
  on : Bool
  x : Int
  y : Int
  vx : Int
  vy : Int
  cool : Int
  score : Int
deriving Inhabited
structure Shot where
  owner : Int
  x : Int
  y : Int
  vx : Int
  vy : Int
  life : Int
deriving Inhabited
structure Seat where
  peer : Int
  gen : Int
deriving Inhabited

def i32 (n : Int) : D := .v (.int .i32 n)
def i64 (n : Int) : D := .v (.int .i64 n)
def u64 (n : Int) : D := .v (.int .u64 n)
def bol (b : Bool) : D := .v (.bool b)
def shipD (s : Ship) : D := .st 24 [bol s.on, i32 s.x, i32 s.y, i32 s.vx, i32 s.vy, i64 s.cool, i64 s.score]
def shotD (s : Shot) : D := .st 72 [i64 s.owner, i32 s.x, i32 s.y, i32 s.vx, i32 s.vy, i64 s.life]
def seatD (s : Seat) : D := .st 30 [i64 s.peer, i64 s.gen]

theorem ship_cl (s : Ship) : Cl (shipD s) := ⟨trivial, trivial, trivial, trivial, trivial, trivial, trivial, trivial⟩
theorem shot_cl (s : Shot) : Cl (shotD s) := ⟨trivial, trivial, trivial, trivial, trivial, trivial, trivial⟩
theorem seat_cl (s : Seat) : Cl (seatD s) := ⟨trivial, trivial, trivial⟩

/-- One more. -/
theorem up1 {i n : Nat} (h : i < n) (hn : n ≤ maxLen) : IntKind.i64.wrap ((i : Int) + 1) = ((i + 1 : Nat) : Int) := by
  have : maxLen = 9223372036854775807 := rfl
  rw [IntWalk.i64_in _ ⟨by omega, by omega⟩]
  omega
theorem up1d {i n : Nat} (h : i < n) (hn : n ≤ maxLen) : some (B.d (.v (.int .i64 (IntKind.i64.wrap ((i : Int) + 1))))) = some (B.d (i64 (i + 1 : Nat))) := by rw [up1 h hn]; rfl
theorem sl_len {T : Tab} {w : World} {A : Dom} {sz n : Nat} {x : Value} {f : Nat → D} (h : OkT T w A (.sl sz x n f)) : n ≤ maxLen := by
  obtain ⟨⟨a, cap, _, h1, h2, _⟩, _⟩ := h
  omega

/-- The first place of n at which p holds; -1: there is none. -/
def fi (p : Nat → Bool) (n : Nat) : Int := match (List.range n).find? p with
  | some i => i
  | none => -1
theorem fi_at {p : Nat → Bool} {n i : Nat} (h : i < n) (hp : p i = true) (hb : ∀ j, j < i → p j = false) : fi p n = i := by
  have : (List.range n).find? p = some i := by
    rw [List.find?_range_eq_some]
    exact ⟨hp, by simpa using h, fun j hj => by simp [hb j hj]⟩
  simp [fi, this]
theorem fi_no {p : Nat → Bool} {n : Nat} (hb : ∀ j, j < n → p j = false) : fi p n = -1 := by
  have : (List.range n).find? p = none := by
    rw [List.find?_eq_none]
    intro j hj
    simp [hb j (by simpa using hj)]
  simp [fi, this]

theorem c_index_ship {fc n : Nat} {l : Nat → Ship} {p : Nat → Bool} {x : Value} (hE : Enters Try.prog fc) (hc : ∀ i, i < n → Fun Try.prog T fc [shipD (l i)] fun y => y = bol (p i)) :
    Fun Try.prog T 81 [.sl 7 x n fun i => shipD (l i), .fn fc []] fun y => y = i64 (fi p n) := by
  refine Con.intro Try.func81 rfl rfl rfl rfl fun G w0 β0 β a w hS => ?_
  have hn : n ≤ maxLen := sl_len (hS.ss.tmp 0 _ rfl).2
  refine regS K0 [0, 1] hS rfl rfl trivial fun β a w hS => ?_
  refine wp_seq (regS K0 [0, 1, 7, 8] hS rfl rfl trivial fun β a w hS => ?_)
  refine wp_block (lop (fun i : Nat => n - i) (fun i => i ≤ n ∧ ∀ j, j < i → p j = false) (fun i => [(0, .d (.sl 7 x n fun i => shipD (l i))), (1, .d (.fn fc [])), (7, .d (i64 n)), (8, .d (i64 i))]) (fun _ => []) 0 ⟨Nat.zero_le _, fun j hj => absurd hj (Nat.not_lt_zero _)⟩ (Ste.sub hS ⟨rfl, rfl, rfl, rfl, trivial⟩) ?_)
  rintro i ⟨hi, hp⟩ β a w hS
  refine regS K0 [0, 1, 7, 8, 9] hS rfl rfl trivial fun β a w hS => ?_
  refine wp_seq (cnd hS rfl (fun hlt => wp_skip ?_) (fun hge => wp_exit ?_))
  · have hlt : i < n := by simpa using hlt
    refine wp_seq (wp_block ?_)
    refine regS K0 [0, 1, 5, 7, 8] hS rfl rfl trivial fun β a w hS => ?_
    refine wp_seq (regp K0 hS rfl ⟨⟨by omega, by omega, rfl⟩, trivial⟩ fun β a w hS => ?_)
    refine call0 hE (hc i hlt) hS [0, 1, 5, 7, 8] rfl rfl rfl rfl rfl ⟨ship_cl _, trivial⟩ rfl ?_
    rintro y rfl β a w hS
    refine wpList_nil ?_
    refine cnd hS rfl (fun hpi => ?_) (fun hpi => wp_skip ?_)
    · refine regS K0 [4] hS rfl rfl trivial fun β a w hS => ?_
      refine wp_ret (fret1 K0 rfl hS rfl trivial ?_)
      rw [fi_at hlt hpi hp]
    · refine reg K0 [0, 1, 7, 8] hS rfl rfl trivial fun β a w hS => ?_
      exact ⟨i + 1, β, ⟨by omega, fun j hj => by rcases Nat.lt_succ_iff_lt_or_eq.1 hj with h | rfl; exact hp j h; exact hpi⟩, by omega, Ste.sub hS ⟨rfl, rfl, rfl, up1d hlt hn, trivial⟩⟩
  · have hge : i = n := by have : ¬ ((i : Int) < n) := by simpa using hge
                           omega
    refine regS K0 [4] hS rfl rfl trivial fun β a w hS => ?_
    refine wp_ret (fret1 K0 rfl hS rfl trivial ?_)
    rw [fi_no (hge ▸ hp)]
    rfl
theorem c_index_shot {fc n : Nat} {l : Nat → Shot} {p : Nat → Bool} {x : Value} (hE : Enters Try.prog fc) (hc : ∀ i, i < n → Fun Try.prog T fc [shotD (l i)] fun y => y = bol (p i)) :
    Fun Try.prog T 84 [.sl 6 x n fun i => shotD (l i), .fn fc []] fun y => y = i64 (fi p n) := by
  refine Con.intro Try.func84 rfl rfl rfl rfl fun G w0 β0 β a w hS => ?_
  have hn : n ≤ maxLen := sl_len (hS.ss.tmp 0 _ rfl).2
  refine regS K0 [0, 1] hS rfl rfl trivial fun β a w hS => ?_
  refine wp_seq (regS K0 [0, 1, 7, 8] hS rfl rfl trivial fun β a w hS => ?_)
  refine wp_block (lop (fun i : Nat => n - i) (fun i => i ≤ n ∧ ∀ j, j < i → p j = false) (fun i => [(0, .d (.sl 6 x n fun i => shotD (l i))), (1, .d (.fn fc [])), (7, .d (i64 n)), (8, .d (i64 i))]) (fun _ => []) 0 ⟨Nat.zero_le _, fun j hj => absurd hj (Nat.not_lt_zero _)⟩ (Ste.sub hS ⟨rfl, rfl, rfl, rfl, trivial⟩) ?_)
  rintro i ⟨hi, hp⟩ β a w hS
  refine regS K0 [0, 1, 7, 8, 9] hS rfl rfl trivial fun β a w hS => ?_
  refine wp_seq (cnd hS rfl (fun hlt => wp_skip ?_) (fun hge => wp_exit ?_))
  · have hlt : i < n := by simpa using hlt
    refine wp_seq (wp_block ?_)
    refine regS K0 [0, 1, 5, 7, 8] hS rfl rfl trivial fun β a w hS => ?_
    refine wp_seq (regp K0 hS rfl ⟨⟨by omega, by omega, rfl⟩, trivial⟩ fun β a w hS => ?_)
    refine call0 hE (hc i hlt) hS [0, 1, 5, 7, 8] rfl rfl rfl rfl rfl ⟨shot_cl _, trivial⟩ rfl ?_
    rintro y rfl β a w hS
    refine wpList_nil ?_
    refine cnd hS rfl (fun hpi => ?_) (fun hpi => wp_skip ?_)
    · refine regS K0 [4] hS rfl rfl trivial fun β a w hS => ?_
      refine wp_ret (fret1 K0 rfl hS rfl trivial ?_)
      rw [fi_at hlt hpi hp]
    · refine reg K0 [0, 1, 7, 8] hS rfl rfl trivial fun β a w hS => ?_
      exact ⟨i + 1, β, ⟨by omega, fun j hj => by rcases Nat.lt_succ_iff_lt_or_eq.1 hj with h | rfl; exact hp j h; exact hpi⟩, by omega, Ste.sub hS ⟨rfl, rfl, rfl, up1d hlt hn, trivial⟩⟩
  · have hge : i = n := by have : ¬ ((i : Int) < n) := by simpa using hge
                           omega
    refine regS K0 [4] hS rfl rfl trivial fun β a w hS => ?_
    refine wp_ret (fret1 K0 rfl hS rfl trivial ?_)
    rw [fi_no (hge ▸ hp)]
    rfl

theorem e_index_ship : Enters Try.prog 81 := enters_of Try.func81 rfl (by kernel_rfl)

theorem e_index_shot : Enters Try.prog 84 := enters_of Try.func84 rfl (by kernel_rfl)

/-- Is there one? -/
def anyI (p : Nat → Bool) (n : Nat) : Bool := decide (fi p n ≥ 0)

theorem c_has_ship {fc n : Nat} {l : Nat → Ship} {p : Nat → Bool} {x : Value} (hE : Enters Try.prog fc) (hc : ∀ i, i < n → Fun Try.prog T fc [shipD (l i)] fun y => y = bol (p i)) :
    Fun Try.prog T 62 [.sl 7 x n fun i => shipD (l i), .fn fc []] fun y => y = bol (anyI p n) := by
  refine Con.intro Try.func62 rfl rfl rfl rfl fun G w0 β0 β a w hS => ?_
  refine regS K0 [0, 1] hS rfl rfl trivial fun β a w hS => ?_
  refine wp_seq (regp K0 hS rfl trivial fun β a w hS => ?_)
  refine call0 e_index_ship (c_index_ship hE hc) hS [] rfl rfl rfl rfl rfl ⟨fun i _ => ship_cl _, trivial, trivial⟩ rfl ?_
  rintro y rfl β a w hS
  refine rege K0 [4] hS rfl rfl trivial fun β a w hS => ?_
  exact wp_ret (fret1 K0 rfl hS rfl trivial rfl)


theorem c_has_shot {fc n : Nat} {l : Nat → Shot} {p : Nat → Bool} {x : Value} (hE : Enters Try.prog fc) (hc : ∀ i, i < n → Fun Try.prog T fc [shotD (l i)] fun y => y = bol (p i)) :
    Fun Try.prog T 65 [.sl 6 x n fun i => shotD (l i), .fn fc []] fun y => y = bol (anyI p n) := by
  refine Con.intro Try.func65 rfl rfl rfl rfl fun G w0 β0 β a w hS => ?_
  refine regS K0 [0, 1] hS rfl rfl trivial fun β a w hS => ?_
  refine wp_seq (regp K0 hS rfl trivial fun β a w hS => ?_)
  refine call0 e_index_shot (c_index_shot hE hc) hS [] rfl rfl rfl rfl rfl ⟨fun i _ => shot_cl _, trivial, trivial⟩ rfl ?_
  rintro y rfl β a w hS
  refine rege K0 [4] hS rfl rfl trivial fun β a w hS => ?_
  exact wp_ret (fret1 K0 rfl hS rfl trivial rfl)

end Go.CE

/- Contracts: which ships, shots, games may be. -/
namespace Go.CE
open Go.RowKit Go.Proofs

theorem e_on : Enters Try.prog 82 := enters_of Try.func82 rfl (by kernel_rfl)
theorem e_size : Enters Try.prog 83 := enters_of Try.func83 rfl (by kernel_rfl)

def C1 : Calls' := fun f ds => match ds with
  | [.v (.int .i32 x)] => if Nat.beq f 82 then some (bol (onB x), .t) else none
  | [.v (.int .i32 x), .v (.int .i32 m)] => if Nat.beq f 83 then some (bol (sizeB x m), .t) else none
  | _ => none
theorem C1_ok : COk Try.prog T C1 := by
  intro f ds d q h _
  unfold C1 at h
  split at h
  · split at h
    · rename_i hf
      have hf := Nat.eq_of_beq_eq_true hf
      subst hf
      simp only [Option.some.injEq, Prod.mk.injEq] at h
      obtain ⟨rfl, rfl⟩ := h
      exact ⟨e_on, c_on _, fun _ _ => rfl⟩
    · cases h
  · split at h
    · rename_i hf
      have hf := Nat.eq_of_beq_eq_true hf
      subst hf
      simp only [Option.some.injEq, Prod.mk.injEq] at h
      obtain ⟨rfl, rfl⟩ := h
      exact ⟨e_size, c_size _ _, fun _ _ => rfl⟩
    · cases h
  · cases h
theorem K1 : Kit Try.prog T C1 := ⟨tab_ok, zero_ok, C1_ok, mixed⟩

def ship0 : Ship := ⟨false, 0, 0, 0, 0, 0, 0⟩
def mayShipB (s : Ship) : Bool := if s.on = true then
    (((((((onB s.x && onB s.y) && sizeB s.vx 524288) && sizeB s.vy 524288) && decide (s.cool ≥ 0)) && decide (s.cool ≤ 10)) && decide (s.score ≥ 0)) && decide (s.score ≤ 1073741824))
  else D.eqb (shipD s) (shipD ship0)
def mayShotB (s : Shot) : Bool := (((((((decide (s.owner ≥ 0) && decide (s.owner < 8)) && onB s.x) && onB s.y) && sizeB s.vx 393216) && sizeB s.vy 393216) && decide (s.life ≥ 1)) && decide (s.life ≤ 24))

theorem c_mayShip (s : Ship) : Fun Try.prog T 64 [shipD s] fun y => y = bol (mayShipB s) := by
  refine Con.intro Try.func64 rfl rfl rfl rfl fun G w0 β0 β a w hS => ?_
  refine regS K1 [1] hS rfl rfl trivial fun β a w hS => ?_
  refine wp_seq (regS K1 [1, 5] hS rfl rfl trivial fun β a w hS => ?_)
  refine cnd hS rfl (fun h => ?_) (fun h => wp_skip ?_)
  · refine regS K1 [2] hS rfl rfl trivial fun β a w hS => ?_
    refine wp_ret (fret1 K1 rfl hS rfl trivial ?_)
    have h : s.on = false := by simpa using h
    simp only [mayShipB, h, Bool.false_eq_true, if_false]
    rfl
  · refine regS K1 [2] hS rfl rfl trivial fun β a w hS => ?_
    refine wp_ret (fret1 K1 rfl hS rfl trivial ?_)
    have h : s.on = true := by simpa using h
    simp only [mayShipB, h, if_true]
    rfl

theorem c_mayShot (s : Shot) : Fun Try.prog T 67 [shotD s] fun y => y = bol (mayShotB s) := by
  refine Con.intro Try.func67 rfl rfl rfl rfl fun G w0 β0 β a w hS => ?_
  refine regS K1 [1] hS rfl rfl trivial fun β a w hS => ?_
  refine regS K1 [2] hS rfl rfl trivial fun β a w hS => ?_
  exact wp_ret (fret1 K1 rfl hS rfl trivial rfl)

theorem e_mayShip : Enters Try.prog 64 := enters_of Try.func64 rfl (by kernel_rfl)
theorem e_mayShot : Enters Try.prog 67 := enters_of Try.func67 rfl (by kernel_rfl)
theorem e_may1 : Enters Try.prog 63 := enters_of Try.func63 rfl (by kernel_rfl)
theorem e_may2 : Enters Try.prog 66 := enters_of Try.func66 rfl (by kernel_rfl)
theorem e_has_ship : Enters Try.prog 62 := enters_of Try.func62 rfl (by kernel_rfl)
theorem e_has_shot : Enters Try.prog 65 := enters_of Try.func65 rfl (by kernel_rfl)

theorem c_may1 (s : Ship) : Fun Try.prog T 63 [shipD s] fun y => y = bol (!mayShipB s) := by
  refine Con.intro Try.func63 rfl rfl rfl rfl fun G w0 β0 β a w hS => ?_
  refine regS K0 [1] hS rfl rfl trivial fun β a w hS => ?_
  refine wp_seq (regp K0 hS rfl trivial fun β a w hS => ?_)
  refine call0 e_mayShip (c_mayShip s) hS [] rfl rfl rfl rfl rfl ⟨ship_cl _, trivial⟩ rfl ?_
  rintro y rfl β a w hS
  refine rege K0 [2] hS rfl rfl trivial fun β a w hS => ?_
  exact wp_ret (fret1 K0 rfl hS rfl trivial rfl)
theorem c_may2 (s : Shot) : Fun Try.prog T 66 [shotD s] fun y => y = bol (!mayShotB s) := by
  refine Con.intro Try.func66 rfl rfl rfl rfl fun G w0 β0 β a w hS => ?_
  refine regS K0 [1] hS rfl rfl trivial fun β a w hS => ?_
  refine wp_seq (regp K0 hS rfl trivial fun β a w hS => ?_)
  refine call0 e_mayShot (c_mayShot s) hS [] rfl rfl rfl rfl rfl ⟨shot_cl _, trivial⟩ rfl ?_
  rintro y rfl β a w hS
  refine rege K0 [2] hS rfl rfl trivial fun β a w hS => ?_
  exact wp_ret (fret1 K0 rfl hS rfl trivial rfl)

structure Game where
  frame : Int
  dice : Int
  ships : Nat → Ship
  n : Nat
  shots : Nat → Shot
structure Roster where
  version : Int
  seats : Nat → Seat
structure State where
  game : Game
  roster : Roster
def gameD (x : Value) (g : Game) : D := .st 28 [i64 g.frame, u64 g.dice, .ar 8 7 fun i => shipD (g.ships i), .sl 6 x g.n fun i => shotD (g.shots i)]
def rosterD (r : Roster) : D := .st 33 [i64 r.version, .ar 8 2 fun i => seatD (r.seats i)]
def stateD (x : Value) (s : State) : D := .st 35 [gameD x s.game, rosterD s.roster]
theorem game_cl (x : Value) (g : Game) : Cl (gameD x g) := ⟨trivial, trivial, fun _ _ => ship_cl _, fun _ _ => shot_cl _, trivial⟩
theorem roster_cl (r : Roster) : Cl (rosterD r) := ⟨trivial, fun _ _ => seat_cl _, trivial⟩
theorem state_cl (x : Value) (s : State) : Cl (stateD x s) := ⟨game_cl x s.game, roster_cl s.roster, trivial⟩

def mayGameB (g : Game) : Bool := !((decide (g.frame < 0) || decide (g.frame > 1048576)) || decide ((g.n : Int) > 32)) && ((!anyI (fun i => !mayShipB (g.ships i)) 8) && (!anyI (fun i => !mayShotB (g.shots i)) g.n))

theorem c_mayGame (x : Value) (g : Game) : Fun Try.prog T 51 [gameD x g] fun y => y = bol (mayGameB g) := by
  refine Con.intro Try.func51 rfl rfl rfl rfl fun G w0 β0 β a w hS => ?_
  refine regS K0 [1] hS rfl rfl trivial fun β a w hS => ?_
  refine wp_seq (regS K0 [1, 17] hS rfl rfl trivial fun β a w hS => ?_)
  refine cnd hS rfl (fun h => ?_) (fun h => wp_skip ?_)
  · refine regS K0 [2] hS rfl rfl trivial fun β a w hS => ?_
    refine wp_ret (fret1 K0 rfl hS rfl trivial ?_)
    simp only [mayGameB, h]
    rfl
  · refine wp_seq (regp K0 hS rfl trivial fun β a w hS => ?_)
    refine slv K0 hS rfl rfl rfl rfl rfl rfl rfl fun a hS => ?_
    refine callw e_has_ship (c_has_ship (x := .slice (some ⟨β 0, offs T [.fld 28 2], none⟩) 8 8) (l := g.ships) e_may1 fun i _ => c_may1 (g.ships i)) hS rfl rfl rfl rfl rfl [0] (by simpa using ⟨_, rfl, rfl⟩) rfl ⟨fun i _ => ship_cl _, trivial, trivial⟩
      ⟨view_ok hS.ss.mem (k := 0) rfl rfl trivial (fun i _ => ship_cl _) (by decide) (fun b hb => .inl hb) (.inr ⟨0, by simp, rfl⟩), trivial, trivial⟩ [1] rfl (.inr fun y hy => by subst hy; trivial) ?_
    rintro y rfl β a w hS
    refine rege K0 [1, 3] hS rfl rfl trivial fun β a w hS => ?_
    refine wp_seq (regp K0 hS rfl trivial fun β a w hS => ?_)
    cases hb : !anyI (fun i => !mayShipB (g.ships i)) 8 with
    | true =>
      refine want1 hS rfl rfl (tc := 23) (by rw [← hb]; rfl) ?_
      have hS := hS.knw (tc := 23) (b := true) [23, 25] (by rw [← hb]; rfl) rfl
      refine call0 e_has_shot (c_has_shot (x := x) (l := g.shots) e_may2 fun i _ => c_may2 (g.shots i)) hS [23] rfl rfl rfl rfl rfl ⟨fun i _ => shot_cl _, trivial, trivial⟩ rfl ?_
      rintro y rfl β a w hS
      refine rege K0 [2] hS rfl rfl trivial fun β a w hS => ?_
      refine wp_ret (fret1 K0 rfl hS rfl trivial ?_)
      simp only [mayGameB, h]
      rfl
    | false =>
      refine skips (tc := 23) (b := false) (by rw [← hb]; rfl) _ [] hS (by simp) rfl fun a hS => ?_
      refine pick1 hS rfl rfl (b := false) (by rw [← hb]; rfl) ?_
      refine rege K0 [2] hS rfl rfl trivial fun β a w hS => ?_
      refine wp_ret (fret1 K0 rfl hS rfl trivial ?_)
      simp only [mayGameB, h, hb]
      rfl

end Go.CE

/- Contracts: which rosters, which states may be. -/
namespace Go.CE
open Go.RowKit Go.Proofs

def bitOf (p : Int) : Int := bitI .and .i64 (shlI .i64 1 (IntKind.u64.wrap (IntKind.i64.wrap (p + 1)))) (-2)
def seatA (s : Seat) : Bool := (((decide (s.peer < -1) || decide (s.peer ≥ 12)) || decide (s.gen < 0)) || decide (s.gen > 60000))
def seatB (s : Seat) (seen : Int) : Bool := if seatA s = true then true else ((bitI .and .i64 (bitOf s.peer) seen != 0) || ((bitOf s.peer != 0) && (s.gen == 0)))
def seatS (s : Seat) (seen : Int) : Int := if seatA s = true then seen else bitI .or .i64 seen (bitOf s.peer)

theorem u64_nn (n : Int) : 0 ≤ IntKind.u64.wrap n := by rw [IntKind.wrap_u64]; omega

theorem c_rmay1 (s : Seat) (seen : Int) : Con Try.prog T 69 [seatD s, .p 0 []] [.var 3 (i64 seen)] 1 fun y L1 => y = bol (seatB s seen) ∧ L1 = [.var 3 (i64 (seatS s seen))] := by
  refine Con.intro Try.func69 rfl rfl rfl rfl fun G w0 β0 β a w hS => ?_
  refine regS K0 [1, 2] hS rfl rfl trivial fun β a w hS => ?_
  refine wp_seq (regS K0 [1, 2, 23] hS rfl rfl trivial fun β a w hS => ?_)
  refine cnd hS rfl (fun h => ?_) (fun h => wp_skip ?_)
  · refine regS K0 [3] hS rfl rfl trivial fun β a w hS => ?_
    refine wp_ret (cret1 K0 rfl hS rfl [_] [_] rfl rfl ⟨trivial, trivial⟩ _ rfl rfl ?_)
    have h : seatA s = true := h
    exact ⟨by simp only [seatB, h, if_true]; rfl, by simp only [seatS, h, if_true]⟩
  · have h : seatA s = false := h
    refine regS K0 [1, 2, 4] hS rfl rfl ⟨u64_nn _, trivial⟩ fun β a w hS => ?_
    refine wp_seq (regn K0 5 hS rfl trivial fun β a w hS => ?_)
    cases hb : (bitI .and .i64 (bitOf s.peer) seen != 0) with
    | true =>
      refine skips (tc := 34) (b := true) (by rw [← hb]; rfl) _ [] hS (by simp) rfl fun a hS => ?_
      refine pick1 hS rfl rfl (b := true) (by rw [← hb]; rfl) ?_
      refine rege K0 [1, 4, 5] hS rfl rfl trivial fun β a w hS => ?_
      refine regS K0 [5] hS rfl rfl trivial fun β a w hS => ?_
      refine regS K0 [3] hS rfl rfl trivial fun β a w hS => ?_
      refine wp_ret (cret1 K0 rfl hS rfl [_] [_] rfl rfl ⟨trivial, trivial⟩ _ rfl rfl ?_)
      simp only [seatB, seatS, h, hb]
      exact ⟨rfl, rfl⟩
    | false =>
      refine regon K0 3 hS rfl trivial fun β a w hS => ?_
      have hS := hS.knw (tc := 34) (b := false) [1, 2, 4, 34, 37] (by rw [← hb]; rfl) rfl
      refine regon K0 3 hS rfl trivial fun β a w hS => ?_
      refine want1 hS rfl rfl (tc := 34) (by rw [← hb]; rfl) ?_
      refine rego K0 hS rfl trivial fun β a w hS => ?_
      refine pick1 hS rfl rfl (b := false) (by rw [← hb]; rfl) ?_
      refine rege K0 [1, 4, 5] hS rfl rfl trivial fun β a w hS => ?_
      refine regS K0 [5] hS rfl rfl trivial fun β a w hS => ?_
      refine regS K0 [3] hS rfl rfl trivial fun β a w hS => ?_
      refine wp_ret (cret1 K0 rfl hS rfl [_] [_] rfl rfl ⟨trivial, trivial⟩ _ rfl rfl ?_)
      simp only [seatB, seatS, h, hb]
      exact ⟨rfl, rfl⟩

/-- What a search that goes on turning a number makes of it. -/
def run1s (q : Nat → Int → Int) (s0 : Int) : Nat → Int
  | 0 => s0
  | i + 1 => q i (run1s q s0 i)

theorem c_index_seat {fc n : Nat} {l : Nat → Seat} {p : Nat → Int → Bool} {q : Nat → Int → Int} {x : Value} {s0 : Int} (hE : Enters Try.prog fc) (hc : ∀ i, i < n → ∀ s, Con Try.prog T fc [seatD (l i), .p 0 []] [.var 3 (i64 s)] 1 fun y L1 => y = bol (p i s) ∧ L1 = [.var 3 (i64 (q i s))]) :
    Con Try.prog T 85 [.sl 2 x n fun i => seatD (l i), .fn fc [.p 0 []]] [.var 3 (i64 s0)] 1 fun y L1 => y = i64 (fi (fun i => p i (run1s q s0 i)) n) ∧ ∃ s, L1 = [.var 3 (i64 s)] := by
  refine Con.intro Try.func85 rfl rfl rfl rfl fun G w0 β0 β a w hS => ?_
  have hn : n ≤ maxLen := sl_len (hS.ss.tmp 0 _ rfl).2
  refine regS K0 [0, 1] hS rfl rfl trivial fun β a w hS => ?_
  refine wp_seq (regS K0 [0, 1, 7, 8] hS rfl rfl trivial fun β a w hS => ?_)
  refine wp_block (lop (fun i : Nat => n - i) (fun i => i ≤ n ∧ ∀ j, j < i → p j (run1s q s0 j) = false) (fun i => [(0, .d (.sl 2 x n fun i => seatD (l i))), (1, .d (.fn fc [.p 0 []])), (7, .d (i64 n)), (8, .d (i64 i))]) (fun i => [.var 3 (i64 (run1s q s0 i))]) 0 ⟨Nat.zero_le _, fun j hj => absurd hj (Nat.not_lt_zero _)⟩ (Ste.sub hS ⟨rfl, rfl, rfl, rfl, trivial⟩) ?_)
  rintro i ⟨hi, hp⟩ β a w hS
  refine regS K0 [0, 1, 7, 8, 9] hS rfl rfl trivial fun β a w hS => ?_
  refine wp_seq (cnd hS rfl (fun hlt => wp_skip ?_) (fun hge => wp_exit ?_))
  · have hlt : i < n := by simpa using hlt
    refine wp_seq (wp_block ?_)
    refine regS K0 [0, 1, 5, 7, 8] hS rfl rfl trivial fun β a w hS => ?_
    refine wp_seq (regp K0 hS rfl ⟨⟨by omega, by omega, rfl⟩, trivial⟩ fun β a w hS => ?_)
    refine callf hE (hc i hlt (run1s q s0 i)) hS [0, 1, 5, 7, 8] [0] rfl rfl rfl rfl rfl (by simp) rfl rfl rfl ⟨Cl.idx _ _ (seat_cl _), Nat.zero_lt_one, trivial⟩ ⟨⟨_, rfl, rfl, rfl⟩, trivial, rfl, trivial⟩ ?_
    rintro y L1 ⟨rfl, rfl⟩ β a w hS
    refine wpList_nil ?_
    refine cnd hS rfl (fun hpi => ?_) (fun hpi => wp_skip ?_)
    · refine regS K0 [4] hS rfl rfl trivial fun β a w hS => ?_
      refine wp_ret (cret1 K0 rfl hS rfl [_] [] rfl rfl ⟨trivial, trivial⟩ _ rfl rfl ⟨?_, _, rfl⟩)
      rw [fi_at (p := fun i => p i (run1s q s0 i)) hlt hpi hp]
    · refine reg K0 [0, 1, 7, 8] hS rfl rfl trivial fun β a w hS => ?_
      exact ⟨i + 1, β, ⟨by omega, fun j hj => by rcases Nat.lt_succ_iff_lt_or_eq.1 hj with h | rfl; exact hp j h; exact hpi⟩, by omega, Ste.sub hS ⟨rfl, rfl, rfl, up1d hlt hn, trivial⟩⟩
  · have hge : i = n := by have : ¬ ((i : Int) < n) := by simpa using hge
                           omega
    refine regS K0 [4] hS rfl rfl trivial fun β a w hS => ?_
    refine wp_ret (cret1 K0 rfl hS rfl [_] [] rfl rfl ⟨trivial, trivial⟩ _ rfl rfl ⟨?_, _, rfl⟩)
    rw [fi_no (p := fun i => p i (run1s q s0 i)) (hge ▸ hp)]
    rfl

theorem e_index_seat : Enters Try.prog 85 := enters_of Try.func85 rfl (by kernel_rfl)
theorem e_has_seat : Enters Try.prog 68 := enters_of Try.func68 rfl (by kernel_rfl)
theorem e_rmay1 : Enters Try.prog 69 := enters_of Try.func69 rfl (by kernel_rfl)

theorem c_has_seat {fc n : Nat} {l : Nat → Seat} {p : Nat → Int → Bool} {q : Nat → Int → Int} {x : Value} {s0 : Int} (hE : Enters Try.prog fc) (hc : ∀ i, i < n → ∀ s, Con Try.prog T fc [seatD (l i), .p 0 []] [.var 3 (i64 s)] 1 fun y L1 => y = bol (p i s) ∧ L1 = [.var 3 (i64 (q i s))]) :
    Con Try.prog T 68 [.sl 2 x n fun i => seatD (l i), .fn fc [.p 0 []]] [.var 3 (i64 s0)] 1 fun y L1 => y = bol (anyI (fun i => p i (run1s q s0 i)) n) ∧ ∃ s, L1 = [.var 3 (i64 s)] := by
  refine Con.intro Try.func68 rfl rfl rfl rfl fun G w0 β0 β a w hS => ?_
  refine regS K0 [0, 1] hS rfl rfl trivial fun β a w hS => ?_
  refine wp_seq (regp K0 hS rfl trivial fun β a w hS => ?_)
  refine callf e_index_seat (c_index_seat hE hc) hS [] [0] rfl rfl rfl rfl rfl (by simp) rfl rfl rfl ⟨trivial, ⟨Nat.zero_lt_one, trivial⟩, trivial⟩ ⟨⟨_, rfl, rfl, rfl⟩, trivial, rfl, trivial⟩ ?_
  rintro y L1 ⟨rfl, s, rfl⟩ β a w hS
  refine rege K0 [4] hS rfl rfl trivial fun β a w hS => ?_
  exact wp_ret (cret1 K0 rfl hS rfl [_] [] rfl rfl ⟨trivial, trivial⟩ _ rfl rfl ⟨rfl, _, rfl⟩)

def mayRosterB (r : Roster) : Bool := (decide (r.version ≥ 0) && decide (r.version ≤ 1073741824)) && !anyI (fun i => seatB (r.seats i) (run1s (fun i s => seatS (r.seats i) s) 0 i)) 8

theorem c_mayRoster (r : Roster) : Fun Try.prog T 52 [rosterD r] fun y => y = bol (mayRosterB r) := by
  refine Con.intro Try.func52 rfl rfl rfl rfl fun G w0 β0 β a w hS => ?_
  refine regS K0 [1] hS rfl rfl trivial fun β a w hS => ?_
  refine regS K0 [1, 3] hS rfl rfl trivial fun β a w hS => ?_
  refine wp_seq (regp K0 hS rfl trivial fun β a w hS => ?_)
  cases hb : (decide (r.version ≥ 0) && decide (r.version ≤ 1073741824)) with
  | true =>
    refine want1 hS rfl rfl (tc := 12) (by rw [← hb]; rfl) ?_
    have hS := hS.knw (tc := 12) (b := true) [12, 13, 3] (by rw [← hb]; rfl) rfl
    refine slv K0 hS rfl rfl rfl rfl rfl rfl rfl fun a hS => ?_
    refine want1 hS rfl rfl (tc := 12) (by rw [← hb]; rfl) ?_
    refine opq K0 hS rfl trivial fun a w _ hS => ?_
    refine want1 hS rfl rfl (tc := 12) (by rw [← hb]; rfl) ?_
    refine callv e_has_seat (c_has_seat (x := .slice (some ⟨β 0, offs T [.fld 33 1], none⟩) 8 8) (l := r.seats) (p := fun i s => seatB (r.seats i) s) (q := fun i s => seatS (r.seats i) s) (s0 := 0) e_rmay1 fun i _ s => c_rmay1 (r.seats i) s) hS rfl rfl rfl rfl rfl [1] [0] (by simp) (by simpa using ⟨_, rfl, rfl⟩) rfl ⟨trivial, ⟨Nat.zero_lt_one, trivial⟩, trivial⟩
      ⟨view_ok hS.ss.mem (k := 0) rfl rfl trivial (fun i _ => seat_cl _) (by decide) (fun b hb => .inl hb) (.inr ⟨0, by simp, rfl⟩), ⟨⟨Nat.lt_succ_self 1, trivial⟩, trivial⟩, trivial⟩
      ⟨⟨_, rfl, rfl, rfl⟩, trivial, rfl, trivial⟩ (by simp) (by decide) [12] rfl ⟨trivial, trivial⟩ (IdxM.all (fun k => by simp) _ _) (.inr fun y L1 ⟨hy, s, hL⟩ => by
        subst hy; subst hL
        exact ⟨trivial, fun k e hk => by cases k with | zero => simp only [nth, Option.some.injEq] at hk; subst hk; trivial | succ k => cases hk⟩) ?_
    rintro y L1 ⟨rfl, s, rfl⟩ β a w hS
    refine rege K0 [2] hS rfl rfl trivial fun β a w hS => ?_
    refine wp_ret (fret1 K0 rfl hS rfl trivial ?_)
    simp only [mayRosterB]
    rfl
  | false =>
    refine skips (tc := 12) (b := false) (by rw [← hb]; rfl) _ [] hS (by simp) rfl fun a hS => ?_
    refine pick1 hS rfl rfl (b := false) (by rw [← hb]; rfl) ?_
    refine rege K0 [2] hS rfl rfl trivial fun β a w hS => ?_
    refine wp_ret (fret1 K0 rfl hS rfl trivial ?_)
    simp only [mayRosterB, hb]
    rfl

end Go.CE

/- Contracts: which states may be; bytes that are written. -/
namespace Go.CE
open Go.RowKit Go.Proofs

def intOf : D → Int
  | .v (.int _ n) => n
  | _ => 0
def boolOf : D → Bool
  | .v (.bool b) => b
  | _ => false
def unShip : D → Ship
  | .st _ [a, b, c, d, e, f, g] => ⟨boolOf a, intOf b, intOf c, intOf d, intOf e, intOf f, intOf g⟩
  | _ => default
def unShot : D → Shot
  | .st _ [a, b, c, d, e, f] => ⟨intOf a, intOf b, intOf c, intOf d, intOf e, intOf f⟩
  | _ => default
def unSeat : D → Seat
  | .st _ [a, b] => ⟨intOf a, intOf b⟩
  | _ => default
def unGame : D → Game
  | .st _ [a, b, .ar _ _ f, .sl _ _ n g] => ⟨intOf a, intOf b, fun i => unShip (f i), n, fun i => unShot (g i)⟩
  | _ => ⟨0, 0, fun _ => default, 0, fun _ => default⟩
def unRoster : D → Roster
  | .st _ [a, .ar _ _ f] => ⟨intOf a, fun i => unSeat (f i)⟩
  | _ => ⟨0, fun _ => default⟩
def unState : D → State
  | .st _ [a, b] => ⟨unGame a, unRoster b⟩
  | _ => ⟨unGame (.v undef), unRoster (.v undef)⟩
theorem unGame_of (x : Value) (g : Game) : unGame (gameD x g) = g := rfl
theorem unRoster_of (r : Roster) : unRoster (rosterD r) = r := rfl
theorem unState_of (x : Value) (s : State) : unState (stateD x s) = s := rfl

theorem e_mayGame : Enters Try.prog 51 := enters_of Try.func51 rfl (by kernel_rfl)
theorem e_mayRoster : Enters Try.prog 52 := enters_of Try.func52 rfl (by kernel_rfl)

def C2 : Calls' := fun f ds => match ds with
  | [d] => if Nat.beq f 51 then some (bol (mayGameB (unGame d)), .c (∃ x g, d = gameD x g)) else
      if Nat.beq f 52 then some (bol (mayRosterB (unRoster d)), .c (∃ r, d = rosterD r)) else none
  | _ => none
theorem C2_ok : COk Try.prog T C2 := by
  intro f ds d q h hq
  unfold C2 at h
  split at h
  · split at h
    · rename_i hf
      have hf := Nat.eq_of_beq_eq_true hf
      subst hf
      simp only [Option.some.injEq, Prod.mk.injEq] at h
      obtain ⟨rfl, rfl⟩ := h
      obtain ⟨x, g, rfl⟩ := hq
      exact ⟨e_mayGame, (c_mayGame x g).pure ⟨game_cl x g, trivial⟩, fun _ _ => rfl⟩
    · split at h
      · rename_i hf
        have hf := Nat.eq_of_beq_eq_true hf
        subst hf
        simp only [Option.some.injEq, Prod.mk.injEq] at h
        obtain ⟨rfl, rfl⟩ := h
        obtain ⟨r, rfl⟩ := hq
        exact ⟨e_mayRoster, (c_mayRoster r).pure ⟨roster_cl r, trivial⟩, fun _ _ => rfl⟩
      · cases h
  · cases h
theorem K2 : Kit Try.prog T C2 := ⟨tab_ok, zero_ok, C2_ok, mixed⟩

def fits (s : State) (i : Nat) : Bool := (s.game.ships i).on == decide ((s.roster.seats i).peer ≥ 0)
def mayStateB (s : State) : Bool := (mayGameB s.game && mayRosterB s.roster) && (List.range 8).all (fits s)

theorem up8 {i : Nat} (h : i < 8) : some (B.d (.v (.int .i64 (IntKind.i64.wrap ((i : Int) + 1))))) = some (B.d (i64 (i + 1 : Nat))) := up1d h (by decide)

theorem c_mayState (x : Value) (s : State) : Fun Try.prog T 24 [stateD x s] fun y => y = bol (mayStateB s) := by
  refine Con.intro Try.func24 rfl rfl rfl rfl fun G w0 β0 β a w hS => ?_
  refine regS K2 [1] hS rfl rfl trivial fun β a w hS => ?_
  refine wp_seq (regS K2 [1, 14] hS rfl rfl ⟨fun _ => ⟨_, rfl⟩, ⟨_, _, rfl⟩, trivial⟩ fun β a w hS => ?_)
  refine cnd hS rfl (fun h => ?_) (fun h => wp_skip ?_)
  · refine regS K2 [2] hS rfl rfl trivial fun β a w hS => ?_
    refine wp_ret (fret1 K2 rfl hS rfl trivial ?_)
    have h : (!mayGameB s.game || !mayRosterB s.roster) = true := h
    have : (mayGameB s.game && mayRosterB s.roster) = false := by
      cases h1 : mayGameB s.game <;> cases h2 : mayRosterB s.roster <;> simp_all
    simp only [mayStateB, this]
    rfl
  · have h : (!mayGameB s.game || !mayRosterB s.roster) = false := h
    have hmm : (mayGameB s.game && mayRosterB s.roster) = true := by
      cases h1 : mayGameB s.game <;> cases h2 : mayRosterB s.roster <;> simp_all
    refine wp_seq (regS K0 [1, 17, 18] hS rfl rfl trivial fun β a w hS => ?_)
    refine wp_block (lop (fun i : Nat => 8 - i) (fun i => i ≤ 8 ∧ ∀ j, j < i → fits s j = true) (fun i => [(1, .d (.p 0 [])), (17, .d (.ar 8 7 fun i => shipD (s.game.ships i))), (18, .d (i64 i))]) (fun _ => [.var 35 (stateD x s)]) 0 ⟨Nat.zero_le _, fun j hj => absurd hj (Nat.not_lt_zero _)⟩ (Ste.sub hS ⟨rfl, rfl, rfl, trivial⟩) ?_)
    rintro i ⟨hi, hp⟩ β a w hS
    refine regS K0 [1, 17, 18, 19] hS rfl rfl trivial fun β a w hS => ?_
    refine wp_seq (cnd hS rfl (fun hlt => wp_skip ?_) (fun hge => wp_exit ?_))
    · have hlt : i < 8 := by have : (i : Int) < 8 := by simpa using hlt
                             omega
      refine wp_seq (wp_block ?_)
      refine regS K0 [1, 3, 4, 17, 18] hS rfl rfl ⟨⟨by omega, by omega⟩, trivial⟩ fun β a w hS => ?_
      refine wp_seq (regq K0 [1, 17, 18, 31] (by kernel_rfl) hS rfl rfl ⟨⟨by omega, by omega⟩, trivial⟩ fun a w hS => ?_)
      refine cnd hS rfl (fun hb => ?_) (fun hb => wp_skip ?_)
      · refine regS K0 [2] hS rfl rfl trivial fun β a w hS => ?_
        refine wp_ret (fret1 K0 rfl hS rfl trivial ?_)
        have hb : fits s i = false := by
          have hb : (!(fits s i)) = true := hb
          simpa using hb
        have : (List.range 8).all (fits s) = false := by
          rw [List.all_eq_false]
          exact ⟨i, by simpa using hlt, by simp [hb]⟩
        simp only [mayStateB, this, Bool.and_false]
        rfl
      · have hb : fits s i = true := by
          have hb : (!(fits s i)) = false := hb
          simpa using hb
        refine reg K0 [1, 17, 18] hS rfl rfl trivial fun β a w hS => ?_
        have hS := hS.drop (L1 := [_]) (J := [_]) rfl (by rw [pinsOf_len]; exact Nat.zero_le _) ⟨trivial, fun i _ => Cl.idx _ _ (ship_cl _), Nat.zero_lt_one, trivial⟩ ⟨Cl.idx _ _ (state_cl x s), trivial⟩
        exact ⟨i + 1, β, ⟨by omega, fun j hj => by rcases Nat.lt_succ_iff_lt_or_eq.1 hj with h | rfl; exact hp j h; exact hb⟩, by omega, Ste.sub hS ⟨rfl, rfl, up8 hlt, trivial⟩⟩
    · have hge : i = 8 := by have : ¬ ((i : Int) < 8) := by simpa using hge
                             omega
      refine regS K0 [2] hS rfl rfl trivial fun β a w hS => ?_
      refine wp_ret (fret1 K0 rfl hS rfl trivial ?_)
      have : (List.range 8).all (fits s) = true := by
        rw [List.all_eq_true]
        intro j hj
        exact hp j (by rw [hge]; simpa using hj)
      simp only [mayStateB, this, hmm]
      rfl

end Go.CE

/- Contracts: which ships, games may be, as the document says it. -/
namespace Go.CE
open Go.RowKit Go.Proofs

theorem c_rin (x : Int) : PureOk Try.prog T 53 [.v (.int .i32 x)] (.v (.bool (onB x))) := by
  intro β w A ho
  refine enter [.v (.int .i32 x)] Try.func53 rfl rfl rfl (scalar_ok ho ⟨trivial, trivial⟩) fun a hS => ?_
  refine regS K0 [0, 1] hS rfl rfl trivial fun β a w hS => ?_
  refine regS K0 [2] hS rfl rfl trivial fun β a w hS => ?_
  exact wp_ret (ret1 rfl hS rfl ⟨rfl, hS.ss.keep.toBelow⟩)
theorem c_rslow (x m : Int) : PureOk Try.prog T 54 [.v (.int .i32 x), .v (.int .i32 m)] (.v (.bool (sizeB x m))) := by
  intro β w A ho
  refine enter [.v (.int .i32 x), .v (.int .i32 m)] Try.func54 rfl rfl rfl (scalar_ok ho ⟨trivial, trivial, trivial⟩) fun a hS => ?_
  refine regS K0 [0, 1] hS rfl rfl trivial fun β a w hS => ?_
  refine regS K0 [4] hS rfl rfl trivial fun β a w hS => ?_
  exact wp_ret (ret1 rfl hS rfl ⟨rfl, hS.ss.keep.toBelow⟩)
theorem e_rin : Enters Try.prog 53 := enters_of Try.func53 rfl (by kernel_rfl)
theorem e_rslow : Enters Try.prog 54 := enters_of Try.func54 rfl (by kernel_rfl)

def C9 : Calls' := fun f ds => match ds with
  | [.v (.int .i32 x)] => if Nat.beq f 53 then some (bol (onB x), .t) else none
  | [.v (.int .i32 x), .v (.int .i32 m)] => if Nat.beq f 54 then some (bol (sizeB x m), .t) else none
  | _ => none
theorem C9_ok : COk Try.prog T C9 := by
  intro f ds d q h _
  unfold C9 at h
  split at h
  · split at h
    · rename_i hf
      have hf := Nat.eq_of_beq_eq_true hf
      subst hf
      simp only [Option.some.injEq, Prod.mk.injEq] at h
      obtain ⟨rfl, rfl⟩ := h
      exact ⟨e_rin, c_rin _, fun _ _ => rfl⟩
    · cases h
  · split at h
    · rename_i hf
      have hf := Nat.eq_of_beq_eq_true hf
      subst hf
      simp only [Option.some.injEq, Prod.mk.injEq] at h
      obtain ⟨rfl, rfl⟩ := h
      exact ⟨e_rslow, c_rslow _ _, fun _ _ => rfl⟩
    · cases h
  · cases h
theorem K9 : Kit Try.prog T C9 := ⟨tab_ok, zero_ok, C9_ok, mixed⟩

theorem all_lt {p : Nat → Bool} {n : Nat} (h : ∀ j, j < n → p j = true) : (List.range n).all p = true := by
  rw [List.all_eq_true]
  exact fun j hj => h j (by simpa using hj)
theorem all_no {p : Nat → Bool} {n i : Nat} (h : i < n) (hp : p i = false) : (List.range n).all p = false := by
  rw [List.all_eq_false]
  exact ⟨i, by simpa using h, by simp [hp]⟩
theorem all_of {p : Nat → Bool} {n i : Nat} (h : (List.range n).all p = true) (hi : i < n) : p i = true := by
  rw [List.all_eq_true] at h
  exact h i (by simpa using hi)
theorem any_all {p : Nat → Bool} {n : Nat} : (!anyI (fun i => !p i) n) = (List.range n).all p := by
  cases h : (List.range n).all p with
  | true =>
    rw [anyI, fi_no fun j hj => by simp [all_of h hj]]
    rfl
  | false =>
    rw [List.all_eq_false] at h
    obtain ⟨i, hi, hp⟩ := h
    have hi : i < n := by simpa using hi
    cases hf : (List.range n).find? (fun i => !p i) with
    | none =>
      rw [List.find?_eq_none] at hf
      have := hf i (by simpa using hi)
      simp at this
      exact absurd this hp
    | some k =>
      simp only [anyI, fi, hf]
      simp

def shipB1 (s : Ship) : Bool := (!s.on) && !(D.eqb (shipD s) (shipD ship0))
def shipB2 (s : Ship) : Bool := (((((((!onB s.x) || !onB s.y) || !sizeB s.vx 524288) || !sizeB s.vy 524288) || decide (s.cool < 0)) || decide (s.cool > 10)) || decide (s.score < 0)) || decide (s.score > 1073741824)
def shotBd (s : Shot) : Bool := (((((((decide (s.owner < 0)) || decide (s.owner ≥ 8)) || !onB s.x) || !onB s.y) || !sizeB s.vx 393216) || !sizeB s.vy 393216) || decide (s.life < 1)) || decide (s.life > 24)

theorem nd_lt {a b : Int} : decide (a < b) = !decide (a ≥ b) := by by_cases h : a < b <;> simp [h] <;> omega
theorem nd_gt {a b : Int} : decide (a > b) = !decide (a ≤ b) := by by_cases h : a > b <;> simp [h] <;> omega
theorem nd_ge {a b : Int} : decide (a ≥ b) = !decide (a < b) := by by_cases h : a ≥ b <;> simp [h] <;> omega

theorem ship_eqb {a b : Ship} : D.eqb (shipD a) (shipD b) = true ↔ a = b := by
  obtain ⟨a0, a1, a2, a3, a4, a5, a6⟩ := a
  obtain ⟨b0, b1, b2, b3, b4, b5, b6⟩ := b
  simp only [shipD, bol, i32, i64, D.eqb, D.eqbL, Bool.and_eq_true, beq_iff_eq, Bool.and_true, Ship.mk.injEq]
theorem shot_eqb {a b : Shot} : D.eqb (shotD a) (shotD b) = true ↔ a = b := by
  obtain ⟨a1, a2, a3, a4, a5, a6⟩ := a
  obtain ⟨b1, b2, b3, b4, b5, b6⟩ := b
  simp only [shotD, i32, i64, D.eqb, D.eqbL, Bool.and_eq_true, beq_iff_eq, Bool.and_true, Shot.mk.injEq]
theorem seat_eqb {a b : Seat} : D.eqb (seatD a) (seatD b) = true ↔ a = b := by
  obtain ⟨a1, a2⟩ := a
  obtain ⟨b1, b2⟩ := b
  simp only [seatD, i64, D.eqb, D.eqbL, Bool.and_eq_true, beq_iff_eq, Bool.and_true, Seat.mk.injEq]

theorem may_ship (s : Ship) : mayShipB s = ((!shipB1 s) && !shipB2 s) := by
  unfold mayShipB shipB1
  cases h : s.on with
  | true =>
    simp only [if_true, shipB2, nd_lt, Bool.not_or, Bool.not_not, Bool.not_true, Bool.false_and, Bool.not_false, Bool.true_and]
  | false =>
    simp only [Bool.false_eq_true, if_false, Bool.not_false, Bool.true_and, Bool.not_not]
    cases he : D.eqb (shipD s) (shipD ship0) with
    | false => rfl
    | true =>
      have he := ship_eqb.1 he
      subst he
      rfl
theorem may_shot (s : Shot) : mayShotB s = !shotBd s := by
  simp only [mayShotB, shotBd, nd_lt, Bool.not_or, Bool.not_not]

theorem mayGame_eq (g : Game) : mayGameB g = (!((decide (g.frame < 0) || decide (g.frame > 1048576)) || decide ((g.n : Int) > 32)) && ((List.range 8).all (fun i => (!shipB1 (g.ships i)) && !shipB2 (g.ships i)) && (List.range g.n).all (fun i => !shotBd (g.shots i)))) := by
  simp only [mayGameB, any_all, ← may_ship, ← may_shot]

theorem c_rmayGame (x : Value) (g : Game) : Fun Try.prog T 27 [gameD x g] fun y => y = bol (mayGameB g) := by
  rw [mayGame_eq]
  refine Con.intro Try.func27 rfl rfl rfl rfl fun G w0 β0 β a w hS => ?_
  refine regS K0 [1] hS rfl rfl trivial fun β a w hS => ?_
  refine wp_seq ?_
  refine regS K0 [1, 20] hS rfl rfl trivial fun β a w hS => ?_
  refine cnd hS rfl (fun h => ?_) (fun h => wp_skip ?_)
  · have h : ((decide (g.frame < 0) || decide (g.frame > 1048576)) || decide ((g.n : Int) > 32)) = true := h
    refine regS K0 [2] hS rfl rfl trivial fun β a w hS => ?_
    refine wp_ret (fret1 K0 rfl hS rfl trivial ?_)
    simp only [h]
    rfl
  have h1 : ((decide (g.frame < 0) || decide (g.frame > 1048576)) || decide ((g.n : Int) > 32)) = false := h
  simp only [h1, Bool.not_false, Bool.true_and]
  have hn : g.n ≤ maxLen := by
    simp only [Bool.or_eq_false_iff, decide_eq_false_iff_not] at h1
    simp only [maxLen]
    omega
  refine wp_seq ?_
  refine regS K0 [1, 3] hS rfl rfl trivial fun β a w hS => ?_
  refine wp_block ?_
  refine lop (fun i : Nat => 8 - i) (fun i => i ≤ 8 ∧ ∀ j, j < i → ((!shipB1 (g.ships j)) && !shipB2 (g.ships j)) = true) (fun i => [(1, .d (.p 0 [])), (3, .d (i64 i))]) (fun _ => [.var 28 (gameD x g)]) 0 ⟨Nat.zero_le _, fun j hj => absurd hj (Nat.not_lt_zero _)⟩ (Ste.sub hS ⟨rfl, rfl, trivial⟩) ?_
  rintro i ⟨hi, hp⟩ β a w hS
  refine wp_seq ?_
  refine regS K0 [1, 3, 22] hS rfl rfl trivial fun β a w hS => ?_
  refine cnd hS rfl (fun hlt => wp_skip ?_) (fun hge => wp_exit ?_)
  · have hlt : i < 8 := by have : (i : Int) < 8 := by simpa using hlt
                           omega
    refine wp_seq ?_
    refine wp_block ?_
    refine regS K0 [1, 3, 4] hS rfl rfl ⟨⟨by omega, by omega⟩, trivial⟩ fun β a w hS => ?_
    refine wp_seq ?_
    refine regS K0 [1, 3, 4, 36] hS rfl rfl trivial fun β a w hS => ?_
    refine cnd hS rfl (fun h => ?_) (fun h => wp_skip ?_)
    · refine regS K0 [2] hS rfl rfl trivial fun β a w hS => ?_
      refine wp_ret (fret1 K0 rfl hS rfl trivial ?_)
      have h : shipB1 (g.ships i) = true := h
      rw [all_no hlt (by simp only [h]; rfl)]
      rfl
    · have hb1 : shipB1 (g.ships i) = false := h
      refine regS K9 [1, 3, 78] hS rfl rfl trivial fun β a w hS => ?_
      refine cnd hS rfl (fun h => ?_) (fun h => wp_skip ?_)
      · refine regS K0 [2] hS rfl rfl trivial fun β a w hS => ?_
        refine wp_ret (fret1 K0 rfl hS rfl trivial ?_)
        have h : shipB2 (g.ships i) = true := h
        rw [all_no hlt (by simp only [h, Bool.not_true, Bool.and_false])]
        rfl
      · have hb2 : shipB2 (g.ships i) = false := h
        refine reg K0 [1, 3] hS rfl rfl trivial fun β a w hS => ?_
        have hS := hS.drop (L1 := [_]) (J := [_]) rfl (by rw [pinsOf_len]; exact Nat.zero_le _) ⟨trivial, Nat.zero_lt_one, trivial⟩ ⟨Cl.idx _ _ (game_cl x g), trivial⟩
        exact ⟨i + 1, β, ⟨hlt, fun j hj => by rcases Nat.lt_succ_iff_lt_or_eq.1 hj with h | rfl; exact hp j h; simp only [hb1, hb2]; rfl⟩, Nat.sub_lt_sub_left hlt (Nat.lt_succ_self i), Ste.sub hS ⟨rfl, up8 hlt, trivial⟩⟩
  · have hge : i = 8 := by have : ¬ ((i : Int) < 8) := by simpa using hge
                           omega
    subst hge
    rw [all_lt hp, Bool.true_and]
    refine wp_seq ?_
    refine regS K0 [1, 5] hS rfl rfl trivial fun β a w hS => ?_
    refine wp_block ?_
    refine lop (fun i : Nat => g.n - i) (fun i => i ≤ g.n ∧ ∀ j, j < i → (!shotBd (g.shots j)) = true) (fun i => [(1, .d (.p 0 [])), (5, .d (i64 i))]) (fun _ => [.var 28 (gameD x g)]) 0 ⟨Nat.zero_le _, fun j hj => absurd hj (Nat.not_lt_zero _)⟩ (Ste.sub hS ⟨rfl, rfl, trivial⟩) ?_
    rintro i ⟨hi, hq⟩ β a w hS
    refine wp_seq ?_
    refine regS K0 [1, 5, 83] hS rfl rfl trivial fun β a w hS => ?_
    refine cnd hS rfl (fun hlt => wp_skip ?_) (fun hge => wp_exit ?_)
    · have hlt : i < g.n := by simpa using hlt
      refine wp_seq ?_
      refine wp_block ?_
      refine regS K0 [1, 5, 6] hS rfl rfl ⟨⟨by omega, by omega, rfl⟩, trivial⟩ fun β a w hS => ?_
      refine regS K9 [1, 5, 132] hS rfl rfl trivial fun β a w hS => ?_
      refine cnd hS rfl (fun h => ?_) (fun h => wp_skip ?_)
      · refine regS K0 [2] hS rfl rfl trivial fun β a w hS => ?_
        refine wp_ret (fret1 K0 rfl hS rfl trivial ?_)
        have h : shotBd (g.shots i) = true := h
        rw [all_no hlt (by simp only [h]; rfl)]
        rfl
      · have hb : shotBd (g.shots i) = false := h
        refine reg K0 [1, 5] hS rfl rfl trivial fun β a w hS => ?_
        have hS := hS.drop (L1 := [_]) (J := [_]) rfl (by rw [pinsOf_len]; exact Nat.zero_le _) ⟨trivial, Nat.zero_lt_one, trivial⟩ ⟨Cl.idx _ _ (game_cl x g), trivial⟩
        exact ⟨i + 1, β, ⟨hlt, fun j hj => by rcases Nat.lt_succ_iff_lt_or_eq.1 hj with h | rfl; exact hq j h; simp only [hb]; rfl⟩, Nat.sub_lt_sub_left hlt (Nat.lt_succ_self i), Ste.sub hS ⟨rfl, up1d hlt hn, trivial⟩⟩
    · have hge : i = g.n := by have : ¬ ((i : Int) < g.n) := by simpa using hge
                               omega
      refine regS K0 [2] hS rfl rfl trivial fun β a w hS => ?_
      refine wp_ret (fret1 K0 rfl hS rfl trivial ?_)
      rw [all_lt (hge ▸ hq)]
      rfl

theorem c_few (x : Value) (g : Game) : Fun Try.prog T 8 [gameD x g] fun y => y = bol (decide ((g.n : Int) ≤ 60)) := by
  refine Con.intro Try.func8 rfl rfl rfl rfl fun G w0 β0 β a w hS => ?_
  refine regS K0 [1] hS rfl rfl trivial fun β a w hS => ?_
  refine regS K0 [2] hS rfl rfl trivial fun β a w hS => ?_
  exact wp_ret (fret1 K0 rfl hS rfl trivial rfl)

end Go.CE

/- Plain: which rosters may be, told by bits and told by pairs. -/
namespace Go.CE
open Go.RowKit Go.Proofs

theorem i64_bit {n : Nat} (h : n < 4611686018427387904) : (BitVec.ofInt 64 (n : Int)).toNat = n := by
  rw [BitVec.toNat_ofInt]
  omega
theorem i64_nat {n : Nat} (h : n < 4611686018427387904) : IntKind.i64.wrap (n : Int) = n := IntWalk.i64_in _ ⟨by omega, by omega⟩
theorem or_nat {m n : Nat} (hm : m < 8192) (hn : n < 8192) : bitI .or .i64 (m : Int) (n : Int) = ((m ||| n : Nat) : Int) := by
  have h : m ||| n < 8192 := Nat.or_lt_two_pow (n := 13) hm hn
  show IntKind.i64.wrap (((BitVec.ofInt 64 (m : Int) ||| BitVec.ofInt 64 (n : Int)).toNat : Nat) : Int) = _
  rw [BitVec.toNat_or, i64_bit (by omega), i64_bit (by omega), i64_nat (by omega)]
theorem and_nat {m n : Nat} (hm : m < 8192) (hn : n < 8192) : bitI .and .i64 (m : Int) (n : Int) = ((m &&& n : Nat) : Int) := by
  have h : m &&& n ≤ m := Nat.and_le_left
  show IntKind.i64.wrap (((BitVec.ofInt 64 (m : Int) &&& BitVec.ofInt 64 (n : Int)).toNat : Nat) : Int) = _
  rw [BitVec.toNat_and, i64_bit (by omega), i64_bit (by omega), i64_nat (by omega)]

def bitN (p : Int) : Nat := if p < 0 then 0 else 2 ^ (p + 1).toNat
theorem bit_all : ∀ p : Fin 13, bitOf ((p.val : Int) - 1) = (bitN ((p.val : Int) - 1) : Nat) ∧ bitN ((p.val : Int) - 1) < 8192 := by decide +kernel
theorem bit_of {p : Int} (h1 : -1 ≤ p) (h2 : p < 12) : bitOf p = (bitN p : Nat) ∧ bitN p < 8192 := by
  have h := bit_all ⟨(p + 1).toNat, by omega⟩
  have e : (((p + 1).toNat : Nat) : Int) - 1 = p := by omega
  simp only [e] at h
  exact h

theorem seatA_no {s : Seat} (h : seatA s = false) : -1 ≤ s.peer ∧ s.peer < 12 ∧ 0 ≤ s.gen ∧ s.gen ≤ 60000 := by
  simp only [seatA, Bool.or_eq_false_iff, decide_eq_false_iff_not] at h
  omega

def seenN (f : Nat → Seat) : Nat → Nat
  | 0 => 0
  | i + 1 => seenN f i ||| bitN (f i).peer
def seenI (f : Nat → Seat) (i : Nat) : Int := run1s (fun i s => seatS (f i) s) 0 i
theorem seen_eq {f : Nat → Seat} : ∀ {n : Nat}, (∀ j, j < n → seatA (f j) = false) → seenI f n = (seenN f n : Nat) ∧ seenN f n < 8192
  | 0, _ => ⟨rfl, Nat.zero_lt_succ _⟩
  | n + 1, h => by
    obtain ⟨h1, h2⟩ := seen_eq (n := n) fun j hj => h j (Nat.lt_succ_of_lt hj)
    have hn := h n (Nat.lt_succ_self n)
    obtain ⟨a1, a2, _⟩ := seatA_no hn
    obtain ⟨b1, b2⟩ := bit_of a1 a2
    show seatS (f n) (seenI f n) = _ ∧ _
    rw [seatS, hn, h1, b1]
    simp only [Bool.false_eq_true, if_false]
    rw [or_nat h2 b2]
    exact ⟨rfl, Nat.or_lt_two_pow (n := 13) h2 b2⟩
theorem seen_bit {f : Nat → Seat} {q : Nat} : ∀ {n : Nat}, (seenN f n).testBit (q + 1) = true ↔ ∃ k, k < n ∧ (f k).peer = q
  | 0 => by simp [seenN]
  | n + 1 => by
    have hb : (bitN (f n).peer).testBit (q + 1) = true ↔ (f n).peer = q := by
      unfold bitN
      split
      · rename_i h
        simp only [Nat.zero_testBit, Bool.false_eq_true, false_iff]
        omega
      · rename_i h
        rw [Nat.testBit_two_pow]
        simp only [decide_eq_true_eq]
        omega
    simp only [seenN, Nat.testBit_or, Bool.or_eq_true, seen_bit (n := n), hb]
    constructor
    · rintro (⟨k, hk, h⟩ | h)
      · exact ⟨k, Nat.lt_succ_of_lt hk, h⟩
      · exact ⟨n, Nat.lt_succ_self n, h⟩
    · rintro ⟨k, hk, h⟩
      rcases Nat.lt_succ_iff_lt_or_eq.1 hk with hk | rfl
      · exact .inl ⟨k, hk, h⟩
      · exact .inr h

def seatC (s : Seat) : Bool := seatA s || (decide (s.peer ≥ 0) && decide (s.gen < 1))
def seatP (s k : Seat) : Bool := decide (s.peer ≥ 0) && (k.peer == s.peer)
def seatOk (f : Nat → Seat) (i : Nat) : Bool := (!seatC (f i)) && (List.range i).all fun k => !seatP (f i) (f k)

theorem bit_nz {s : Seat} (h : seatA s = false) : (bitOf s.peer != 0) = decide (s.peer ≥ 0) := by
  obtain ⟨a1, a2, _⟩ := seatA_no h
  rw [(bit_of a1 a2).1, bitN]
  have : 0 < 2 ^ (s.peer + 1).toNat := Nat.pow_pos (by decide)
  by_cases hp : s.peer < 0
  · rw [if_pos hp]
    have : ¬ s.peer ≥ 0 := by omega
    simp [this]
  · rw [if_neg hp]
    have hq : s.peer ≥ 0 := by omega
    simp only [hq, decide_true, bne_iff_ne, ne_eq]
    omega
theorem and_zero {m q : Nat} : ¬ (2 ^ q &&& m) = 0 ↔ m.testBit q = true := by
  constructor
  · intro h
    cases hb : m.testBit q with
    | true => rfl
    | false =>
      refine absurd (Nat.eq_of_testBit_eq fun i => ?_) h
      rw [Nat.testBit_and, Nat.testBit_two_pow, Nat.zero_testBit]
      by_cases e : q = i
      · subst e; simp [hb]
      · simp [e]
  · intro h e
    have : (2 ^ q &&& m).testBit q = true := by rw [Nat.testBit_and, Nat.testBit_two_pow, h]; simp
    rw [e, Nat.zero_testBit] at this
    cases this
theorem seatB_eq {f : Nat → Seat} {i : Nat} (h : ∀ j, j ≤ i → seatA (f j) = false) : seatB (f i) (seenI f i) = !seatOk f i := by
  obtain ⟨h1, h2⟩ := seen_eq (n := i) fun j hj => h j (Nat.le_of_lt hj)
  have hi := h i (Nat.le_refl i)
  obtain ⟨a1, a2, a3, a4⟩ := seatA_no hi
  obtain ⟨b1, b2⟩ := bit_of a1 a2
  have e1 : (bitI .and .i64 (bitOf (f i).peer) (seenI f i) != 0) = !((List.range i).all fun k => !seatP (f i) (f k)) := by
    rw [h1, b1, and_nat b2 h2]
    have hR : (!((List.range i).all fun k => !seatP (f i) (f k))) = true ↔ ∃ k, k < i ∧ (f i).peer ≥ 0 ∧ (f k).peer = (f i).peer := by
      rw [Bool.not_eq_true', List.all_eq_false]
      constructor
      · rintro ⟨k, hk, h⟩
        simp only [seatP, Bool.not_eq_true', Bool.not_eq_false, Bool.and_eq_true, decide_eq_true_eq, beq_iff_eq] at h
        exact ⟨k, by simpa using hk, h.1, h.2⟩
      · rintro ⟨k, hk, h⟩
        refine ⟨k, by simpa using hk, ?_⟩
        simp only [seatP, Bool.not_eq_true', Bool.not_eq_false, Bool.and_eq_true, decide_eq_true_eq, beq_iff_eq]
        exact h
    rw [Bool.eq_iff_iff, hR]
    simp only [bne_iff_ne, ne_eq, Int.natCast_eq_zero]
    unfold bitN
    by_cases hp : (f i).peer < 0
    · rw [if_pos hp]
      simp only [Nat.zero_and]
      constructor
      · intro h; exact absurd trivial h
      · rintro ⟨k, _, hk, _⟩; omega
    · rw [if_neg hp, and_zero]
      obtain ⟨q, hq⟩ : ∃ q : Nat, (f i).peer = q := ⟨(f i).peer.toNat, by omega⟩
      have e : ((f i).peer + 1).toNat = q + 1 := by omega
      rw [e, hq, seen_bit]
      constructor
      · rintro ⟨k, hk, h⟩; exact ⟨k, hk, by omega, h⟩
      · rintro ⟨k, hk, _, h⟩; exact ⟨k, hk, h⟩
  have e2 : ((f i).gen == 0) = decide ((f i).gen < 1) := by
    rw [Bool.eq_iff_iff]
    simp only [beq_iff_eq, decide_eq_true_eq]
    omega
  unfold seatB seatOk seatC
  rw [hi, e1, bit_nz hi, e2]
  simp only [Bool.false_eq_true, if_false, Bool.false_or, Bool.not_and, Bool.not_or, Bool.not_not]
  cases (List.range i).all fun k => !seatP (f i) (f k) <;> cases decide ((f i).peer ≥ 0) <;> cases decide ((f i).gen < 1) <;> rfl
theorem seat_all {f : Nat → Seat} (n : Nat) : (!anyI (fun i => seatB (f i) (seenI f i)) n) = (List.range n).all (seatOk f) := by
  have e : (fun i => seatB (f i) (seenI f i)) = fun i => !(!seatB (f i) (seenI f i)) := by funext i; rw [Bool.not_not]
  rw [e, any_all, Bool.eq_iff_iff]
  constructor
  · intro h
    refine all_lt fun i hi => ?_
    have hb : ∀ j, j ≤ i → seatB (f j) (seenI f j) = false := fun j hj => by simpa using all_of h (Nat.lt_of_le_of_lt hj hi)
    have ha : ∀ j, j ≤ i → seatA (f j) = false := fun j hj => by
      have := hb j hj
      unfold seatB at this
      cases h : seatA (f j) with
      | false => rfl
      | true => rw [h] at this; simp at this
    have := hb i (Nat.le_refl i)
    rw [seatB_eq ha] at this
    simpa using this
  · intro h
    refine all_lt fun i hi => ?_
    have ha : ∀ j, j ≤ i → seatA (f j) = false := fun j hj => by
      have := all_of h (Nat.lt_of_le_of_lt hj hi)
      simp only [seatOk, seatC, Bool.and_eq_true, Bool.not_eq_true', Bool.or_eq_false_iff] at this
      exact this.1.1
    rw [seatB_eq ha, Bool.not_not]
    exact all_of h hi

theorem mayRoster_eq (r : Roster) : mayRosterB r = ((!(decide (r.version < 0) || decide (r.version > 1073741824))) && (List.range 8).all (seatOk r.seats)) := by
  rw [← seat_all 8]
  simp only [mayRosterB, nd_lt, Bool.not_or, Bool.not_not]
  rfl

end Go.CE

/- Contracts: which rosters, which states may be, as the document says it. -/
namespace Go.CE
open Go.RowKit Go.Proofs

theorem c_rmayRoster (r : Roster) : Fun Try.prog T 28 [rosterD r] fun y => y = bol (mayRosterB r) := by
  rw [mayRoster_eq]
  refine Con.intro Try.func28 rfl rfl rfl rfl fun G w0 β0 β a w hS => ?_
  refine regS K0 [1] hS rfl rfl trivial fun β a w hS => ?_
  refine wp_seq ?_
  refine regS K0 [1, 13] hS rfl rfl trivial fun β a w hS => ?_
  refine cnd hS rfl (fun h => ?_) (fun h => wp_skip ?_)
  · have h : (decide (r.version < 0) || decide (r.version > 1073741824)) = true := h
    refine regS K0 [2] hS rfl rfl trivial fun β a w hS => ?_
    refine wp_ret (fret1 K0 rfl hS rfl trivial ?_)
    rw [h]
    rfl
  have h1 : (decide (r.version < 0) || decide (r.version > 1073741824)) = false := h
  rw [h1, Bool.not_false, Bool.true_and]
  refine wp_seq ?_
  refine regS K0 [1, 3] hS rfl rfl trivial fun β a w hS => ?_
  refine wp_block ?_
  refine lop (fun i : Nat => 8 - i) (fun i => i ≤ 8 ∧ ∀ j, j < i → seatOk r.seats j = true) (fun i => [(1, .d (.p 0 [])), (3, .d (i64 i))]) (fun _ => [.var 33 (rosterD r)]) 0 ⟨Nat.zero_le _, fun j hj => absurd hj (Nat.not_lt_zero _)⟩ (Ste.sub hS ⟨rfl, rfl, trivial⟩) ?_
  rintro i ⟨hi, hp⟩ β a w hS
  refine wp_seq ?_
  refine regS K0 [1, 3, 15] hS rfl rfl trivial fun β a w hS => ?_
  refine cnd hS rfl (fun hlt => wp_skip ?_) (fun hge => wp_exit ?_)
  · have hlt : i < 8 := by have : (i : Int) < 8 := by simpa using hlt
                           omega
    refine wp_seq ?_
    refine wp_block ?_
    refine regS K0 [1, 3, 4] hS rfl rfl ⟨⟨by omega, by omega⟩, trivial⟩ fun β a w hS => ?_
    refine wp_seq ?_
    refine wp_seq (regn K0 19 hS rfl trivial fun β a w hS => ?_)
    cases hb : seatA (r.seats i) with
    | true =>
      refine skips (tc := 40) (b := true) (by rw [← hb]; rfl) _ [] hS (by simp) rfl fun a hS => ?_
      refine pick1 hS rfl rfl (b := true) (by rw [← hb]; rfl) ?_
      refine rege K0 [1, 3, 4, 49] hS rfl rfl trivial fun β a w hS => ?_
      refine cnd hS rfl (fun h => ?_) (fun h => absurd h (by decide))
      refine regS K0 [2] hS rfl rfl trivial fun β a w hS => ?_
      refine wp_ret (fret1 K0 rfl hS rfl trivial ?_)
      rw [all_no hlt (by simp only [seatOk, seatC, hb]; rfl)]
      rfl
    | false =>
    refine regon K0 4 hS rfl trivial fun β a w hS => ?_
    have hS := hS.knw (tc := 40) (b := false) [1, 3, 4, 40, 44] (by rw [← hb]; rfl) rfl
    refine regon K0 3 hS rfl trivial fun β a w hS => ?_
    refine want1 hS rfl rfl (tc := 40) (by rw [← hb]; rfl) ?_
    refine rego K0 hS rfl trivial fun β a w hS => ?_
    refine pick1 hS rfl rfl (b := false) (by rw [← hb]; rfl) ?_
    refine rege K0 [1, 3, 4, 49] hS rfl rfl trivial fun β a w hS => ?_
    refine cnd hS rfl (fun h => ?_) (fun h => wp_skip ?_)
    · refine regS K0 [2] hS rfl rfl trivial fun β a w hS => ?_
      refine wp_ret (fret1 K0 rfl hS rfl trivial ?_)
      have h : (decide ((r.seats i).peer ≥ 0) && decide ((r.seats i).gen < 1)) = true := h
      rw [all_no hlt (by simp only [seatOk, seatC, hb, h]; rfl)]
      rfl
    · have h : (decide ((r.seats i).peer ≥ 0) && decide ((r.seats i).gen < 1)) = false := h
      have hc : seatC (r.seats i) = false := by simp only [seatC, hb, h]; rfl
      refine regS K0 [1, 3, 4, 5] hS rfl rfl trivial fun β a w hS => ?_
      refine wp_block ?_
      refine lop (fun k : Nat => i - k) (fun k => k ≤ i ∧ ∀ j, j < k → (!seatP (r.seats i) (r.seats j)) = true) (fun k => [(1, .d (.p 0 [])), (3, .d (i64 i)), (4, .d (.p 1 [])), (5, .d (i64 k))]) (fun _ => [.var 33 (rosterD r), .var 30 (seatD (r.seats i))]) 0 ⟨Nat.zero_le _, fun j hj => absurd hj (Nat.not_lt_zero _)⟩ (Ste.sub hS ⟨rfl, rfl, rfl, rfl, trivial⟩) ?_
      rintro k ⟨hk, hq⟩ β a w hS
      refine wp_seq ?_
      refine regS K0 [1, 3, 4, 5, 52] hS rfl rfl trivial fun β a w hS => ?_
      refine cnd hS rfl (fun hkt => wp_skip ?_) (fun hkg => wp_exit ?_)
      · have hkt : k < i := by simpa using hkt
        refine wp_seq ?_
        refine wp_block ?_
        refine regqS K0 [1, 3, 4, 5, 67] (by kernel_rfl) hS rfl rfl ⟨fun _ => ⟨by omega, by omega⟩, trivial⟩ fun a w hS => ?_
        refine cnd hS rfl (fun h => ?_) (fun h => wp_skip ?_)
        · refine regS K0 [2] hS rfl rfl trivial fun β a w hS => ?_
          refine wp_ret (fret1 K0 rfl hS rfl trivial ?_)
          have h : seatP (r.seats i) (r.seats k) = true := h
          rw [all_no hlt (by simp only [seatOk, all_no (p := fun k => !seatP (r.seats i) (r.seats k)) hkt (by simp only [h]; rfl), Bool.and_false])]
          rfl
        · have hb : seatP (r.seats i) (r.seats k) = false := h
          refine reg K0 [1, 3, 4, 5] hS rfl rfl trivial fun β a w hS => ?_
          exact ⟨k + 1, β, ⟨hkt, fun j hj => by rcases Nat.lt_succ_iff_lt_or_eq.1 hj with h | rfl; exact hq j h; simp only [hb]; rfl⟩, Nat.sub_lt_sub_left hkt (Nat.lt_succ_self k), Ste.sub hS ⟨rfl, rfl, rfl, up1d hkt (by simp only [maxLen]; omega), trivial⟩⟩
      · have hkg : k = i := by have : ¬ ((k : Int) < i) := by simpa using hkg
                               omega
        refine reg K0 [1, 3] hS rfl rfl trivial fun β a w hS => ?_
        have hS := hS.drop (L1 := [_]) (J := [_]) rfl (by rw [pinsOf_len]; exact Nat.zero_le _) ⟨trivial, Nat.zero_lt_one, trivial⟩ ⟨Cl.idx _ _ (roster_cl r), trivial⟩
        exact ⟨i + 1, β, ⟨hlt, fun j hj => by rcases Nat.lt_succ_iff_lt_or_eq.1 hj with h | rfl; exact hp j h; simp only [seatOk, hc, all_lt (hkg ▸ hq)]; rfl⟩, Nat.sub_lt_sub_left hlt (Nat.lt_succ_self i), Ste.sub hS ⟨rfl, up8 hlt, trivial⟩⟩
  · have hge : i = 8 := by have : ¬ ((i : Int) < 8) := by simpa using hge
                           omega
    subst hge
    refine regS K0 [2] hS rfl rfl trivial fun β a w hS => ?_
    refine wp_ret (fret1 K0 rfl hS rfl trivial ?_)
    rw [all_lt hp]
    rfl

theorem e_rmayGame : Enters Try.prog 27 := enters_of Try.func27 rfl (by kernel_rfl)
theorem e_rmayRoster : Enters Try.prog 28 := enters_of Try.func28 rfl (by kernel_rfl)

def CA : Calls' := fun f ds => match ds with
  | [d] => if Nat.beq f 27 then some (bol (mayGameB (unGame d)), .c (∃ x g, d = gameD x g)) else
      if Nat.beq f 28 then some (bol (mayRosterB (unRoster d)), .c (∃ r, d = rosterD r)) else none
  | _ => none
theorem CA_ok : COk Try.prog T CA := by
  intro f ds d q h hq
  unfold CA at h
  split at h
  · split at h
    · rename_i hf
      have hf := Nat.eq_of_beq_eq_true hf
      subst hf
      simp only [Option.some.injEq, Prod.mk.injEq] at h
      obtain ⟨rfl, rfl⟩ := h
      obtain ⟨x, g, rfl⟩ := hq
      exact ⟨e_rmayGame, (c_rmayGame x g).pure ⟨game_cl x g, trivial⟩, fun _ _ => rfl⟩
    · split at h
      · rename_i hf
        have hf := Nat.eq_of_beq_eq_true hf
        subst hf
        simp only [Option.some.injEq, Prod.mk.injEq] at h
        obtain ⟨rfl, rfl⟩ := h
        obtain ⟨r, rfl⟩ := hq
        exact ⟨e_rmayRoster, (c_rmayRoster r).pure ⟨roster_cl r, trivial⟩, fun _ _ => rfl⟩
      · cases h
  · cases h
theorem KA : Kit Try.prog T CA := ⟨tab_ok, zero_ok, CA_ok, mixed⟩

theorem c_rmayState (x : Value) (s : State) : Fun Try.prog T 11 [stateD x s] fun y => y = bol (mayStateB s) := by
  refine Con.intro Try.func11 rfl rfl rfl rfl fun G w0 β0 β a w hS => ?_
  refine regS K0 [1] hS rfl rfl trivial fun β a w hS => ?_
  refine wp_seq ?_
  refine regS KA [1, 13] hS rfl rfl ⟨fun _ => ⟨_, rfl⟩, ⟨_, _, rfl⟩, trivial⟩ fun β a w hS => ?_
  refine cnd hS rfl (fun h => ?_) (fun h => wp_skip ?_)
  · refine regS K0 [2] hS rfl rfl trivial fun β a w hS => ?_
    refine wp_ret (fret1 K0 rfl hS rfl trivial ?_)
    have h : (!mayGameB s.game || !mayRosterB s.roster) = true := h
    have : (mayGameB s.game && mayRosterB s.roster) = false := by
      cases h1 : mayGameB s.game <;> cases h2 : mayRosterB s.roster <;> simp_all
    simp only [mayStateB, this]
    rfl
  have h : (!mayGameB s.game || !mayRosterB s.roster) = false := h
  have hmm : (mayGameB s.game && mayRosterB s.roster) = true := by
    cases h1 : mayGameB s.game <;> cases h2 : mayRosterB s.roster <;> simp_all
  refine wp_seq ?_
  refine regS K0 [1, 3] hS rfl rfl trivial fun β a w hS => ?_
  refine wp_block ?_
  refine lop (fun i : Nat => 8 - i) (fun i => i ≤ 8 ∧ ∀ j, j < i → fits s j = true) (fun i => [(1, .d (.p 0 [])), (3, .d (i64 i))]) (fun _ => [.var 35 (stateD x s)]) 0 ⟨Nat.zero_le _, fun j hj => absurd hj (Nat.not_lt_zero _)⟩ (Ste.sub hS ⟨rfl, rfl, trivial⟩) ?_
  rintro i ⟨hi, hp⟩ β a w hS
  refine wp_seq ?_
  refine regS K0 [1, 3, 15] hS rfl rfl trivial fun β a w hS => ?_
  refine cnd hS rfl (fun hlt => wp_skip ?_) (fun hge => wp_exit ?_)
  · have hlt : i < 8 := by have : (i : Int) < 8 := by simpa using hlt
                           omega
    refine wp_seq ?_
    refine wp_block ?_
    refine regqS K0 [1, 3, 31] (by kernel_rfl) hS rfl rfl ⟨⟨by omega, by omega⟩, ⟨by omega, by omega⟩, trivial⟩ fun a w hS => ?_
    refine cnd hS rfl (fun hb => ?_) (fun hb => wp_skip ?_)
    · refine regS K0 [2] hS rfl rfl trivial fun β a w hS => ?_
      refine wp_ret (fret1 K0 rfl hS rfl trivial ?_)
      have hb : fits s i = false := by
        have hb : (!(fits s i)) = true := hb
        simpa using hb
      simp only [mayStateB, all_no hlt hb, Bool.and_false]
      rfl
    · have hb : fits s i = true := by
        have hb : (!(fits s i)) = false := hb
        simpa using hb
      refine reg K0 [1, 3] hS rfl rfl trivial fun β a w hS => ?_
      exact ⟨i + 1, β, ⟨hlt, fun j hj => by rcases Nat.lt_succ_iff_lt_or_eq.1 hj with h | rfl; exact hp j h; exact hb⟩, Nat.sub_lt_sub_left hlt (Nat.lt_succ_self i), Ste.sub hS ⟨rfl, up8 hlt, trivial⟩⟩
  · have hge : i = 8 := by have : ¬ ((i : Int) < 8) := by simpa using hge
                           omega
    subst hge
    refine regS K0 [2] hS rfl rfl trivial fun β a w hS => ?_
    refine wp_ret (fret1 K0 rfl hS rfl trivial ?_)
    simp only [mayStateB, all_lt hp, hmm]
    rfl

end Go.CE

/- Contracts: bytes that are written. -/
namespace Go.CE
open Go.RowKit Go.Proofs

/-- A number, so many bytes of it gone. -/
def nn (n : Int) : Nat → Int
  | 0 => n
  | i + 1 => shrI .u64 (nn n i) 8
def by8 (n : Int) : Int := IntKind.u8.wrap n
/-- A number's first bytes. -/
def le (n : Int) (b : Nat) : List Int := (List.range b).map fun i => by8 (nn n i)
theorem le_succ (n : Int) (b : Nat) : le n (b + 1) = le n b ++ [by8 (nn n b)] := by simp [le, List.range_succ]
theorem le_len (n : Int) (b : Nat) : (le n b).length = b := by simp [le]
def rowD (l : List Int) (i : Nat) : D := .v (.int .u8 (l.getD i 0))
theorem row_cl (l : List Int) (i : Nat) : Cl (rowD l i) := trivial
theorem rowD_app1 {l : List Int} {x : Int} : ∀ i, i < l.length → rowD (l ++ [x]) i = rowD l i := fun i hi => by simp [rowD, List.getD_eq_getElem?_getD, List.getElem?_append_left hi]
theorem rowD_app2 {l : List Int} {x : Int} : ∀ i, i < 1 → rowD (l ++ [x]) (l.length + i) = .v (.int .u8 x) := fun i hi => by
  have : i = 0 := by omega
  subst this
  simp [rowD, List.getD_eq_getElem?_getD]

def nilD : D := .sl 1 (.slice none 0 0) 0 fun _ => default
/-- The writer's blocks: itself, and its row. -/
def wrD (d : D) : Ent := .var 68 (.st 68 [d])
def wrL (l : List Int) (k cap : Nat) : List Ent := [wrD (.os 1 k cap), .row 5 1 k (rowD l) cap]

theorem rowS (l : List Int) (n : Int) (i j : Nat) (h : j < l.length + i) : rowD (l ++ le n (i + 1)) j = rowD (l ++ le n i) j := by
  rw [le_succ, ← List.append_assoc]
  exact rowD_app1 j (by simp [le_len]; exact h)
theorem rowN (l : List Int) (n : Int) (i j : Nat) (h : j < 1) : rowD (l ++ le n (i + 1)) (l.length + i + j) = .v (.int .u8 (by8 (nn n i))) := by
  rw [le_succ, ← List.append_assoc]
  have := rowD_app2 (l := l ++ le n i) (x := by8 (nn n i)) j h
  simpa [le_len] using this

theorem c_num (l : List Int) (cap : Nat) (n : Int) (b : Nat) (hb : b ≤ 8) (hl : l.length ≤ 100000) :
    Con Try.prog T 25 [.p 0 [], u64 n, i64 b] (wrL l l.length cap) 1 fun y L1 => y = .tup [] ∧ ∃ cap', L1 = wrL (l ++ le n b) (l.length + b) cap' := by
  refine Con.intro Try.func25 rfl rfl rfl rfl fun G w0 β0 β a w hS => ?_
  refine regS K0 [0, 1, 6, 7] hS rfl rfl trivial fun β a w hS => ?_
  have e0 : wrL l l.length cap = wrL (l ++ le n 0) (l.length + 0) cap := by simp [le]
  rw [e0] at hS
  refine wp_block (lop (fun s : Nat × Nat => b - s.1) (fun s => s.1 ≤ b) (fun s => [(0, .d (.p 0 [])), (1, .d (u64 (nn n s.1))), (6, .d (i64 b)), (7, .d (i64 s.1))]) (fun s => wrL (l ++ le n s.1) (l.length + s.1) s.2) (0, cap) (Nat.zero_le _) (Ste.sub hS ⟨rfl, rfl, rfl, rfl, trivial⟩) ?_)
  rintro ⟨i, cap⟩ hi β a w hS
  have hi : i ≤ b := hi
  refine regS K0 [0, 1, 6, 7, 8] hS rfl rfl trivial fun β a w hS => ?_
  refine wp_seq (cnd hS rfl (fun hlt => wp_skip ?_) (fun hge => wp_exit ?_))
  · have hlt : i < b := by simpa using hlt
    refine wp_seq (wp_block ?_)
    refine wp_seq (regp K0 hS rfl ⟨by decide, trivial⟩ fun β a w hS => ?_)
    have hS := hS.forget (k := 0) (d' := .st 68 [.v (.slice (some ⟨β 1, 0, none⟩) (l.length + i) cap)]) rfl rfl rfl (fun h => ⟨h.1, rfl, trivial⟩)
    refine appo K0 hS [0, 1, 6, 7, 9] 1 (fun _ => .v (.int .u8 (by8 (nn n i)))) (rowD (l ++ le n (i + 1))) rfl rfl rfl rfl rfl rfl rfl rfl rfl rfl rfl
      (by rw [pinsOf_len]; exact Nat.le_refl _) ?_ ?_ (fun j _ => row_cl _ _) (.inr ⟨2, 1, 1, _, 1, rfl, ⟨_, rfl⟩, Nat.le_refl _, fun j hj => ?_⟩) (fun j _ => trivial) (fun j hj => rowS l n i j hj) (fun j hj => rowN l n i j hj) (by simp only [maxLen]; omega) ?_ fun cap' β a w hS => ?_
    · exact ⟨Nat.zero_ne_one, trivial, trivial, trivial, Nat.zero_ne_one, trivial⟩
    · refine ⟨.inr ⟨trivial, trivial⟩, .inl rfl, .inr fun j hj => ?_, trivial⟩
      have : j = 0 := by omega
      subst this
      trivial
    · have : j = 0 := by omega
      subst this
      rfl
    · show (l.length + i + 1) * 1 ≤ 140737488355328
      omega
    refine rege K0 [0, 1, 6, 7] hS rfl rfl trivial fun β a w hS => ?_
    refine reg K0 [0, 1, 6, 7] hS rfl rfl ⟨by decide, trivial⟩ fun β a w hS => ?_
    refine reg K0 [0, 1, 6, 7] hS rfl rfl trivial fun β a w hS => ?_
    have hS := hS.drop (L1 := [_, _]) (J := [_]) rfl (by rw [pinsOf_len]; exact Nat.le_succ _) ⟨trivial, trivial, trivial, Nat.zero_lt_succ _, trivial⟩ ⟨⟨Nat.lt_succ_self _, trivial⟩, fun j _ => trivial, trivial⟩
    exact ⟨(i + 1, cap'), β, hlt, Nat.sub_lt_sub_left hlt (Nat.lt_succ_self i), Ste.sub hS ⟨rfl, rfl, rfl, up1d hlt (by simp only [maxLen]; omega), trivial⟩⟩
  · have hge : i = b := by have : ¬ ((i : Int) < b) := by simpa using hge
                           omega
    subst hge
    exact cend0 rfl hS _ [] (List.append_nil _).symm rfl ⟨⟨Nat.lt_succ_self _, trivial⟩, fun j _ => trivial, trivial⟩ ⟨rfl, cap, rfl⟩

end Go.CE

/- Contracts: more bytes that are written. -/
namespace Go.CE
open Go.RowKit Go.Proofs

theorem e_num : Enters Try.prog 25 := enters_of Try.func25 rfl (by kernel_rfl)
theorem e_quad : Enters Try.prog 26 := enters_of Try.func26 rfl (by kernel_rfl)

/-- The writer's blocks as they are ahead of the first byte, and behind so many. -/
def wrM (n : Int) : Nat → Nat → List Ent
  | 0, _ => [wrD nilD]
  | i + 1, cap => wrL (le n (i + 1)) (i + 1) cap

theorem rowS0 (n : Int) (i j : Nat) (h : j < i) : rowD (le n (i + 1)) j = rowD (le n i) j := by simpa using rowS [] n i j (by simpa using h)
theorem rowN0 (n : Int) (i j : Nat) (h : j < 1) : rowD (le n (i + 1)) (i + j) = .v (.int .u8 (by8 (nn n i))) := by simpa using rowN [] n i j h

theorem c_num0 (n : Int) (b : Nat) (hb : b ≤ 8) (hb0 : 0 < b) :
    Con Try.prog T 25 [.p 0 [], u64 n, i64 b] [wrD nilD] 1 fun y L1 => y = .tup [] ∧ ∃ cap', L1 = wrL (le n b) b cap' := by
  refine Con.intro Try.func25 rfl rfl rfl rfl fun G w0 β0 β a w hS => ?_
  refine regS K0 [0, 1, 6, 7] hS rfl rfl trivial fun β a w hS => ?_
  refine wp_block (lop (fun s : Nat × Nat => b - s.1) (fun s => s.1 ≤ b) (fun s => [(0, .d (.p 0 [])), (1, .d (u64 (nn n s.1))), (6, .d (i64 b)), (7, .d (i64 s.1))]) (fun s => wrM n s.1 s.2) (0, 0) (Nat.zero_le _) (Ste.sub hS ⟨rfl, rfl, rfl, rfl, trivial⟩) ?_)
  rintro ⟨i, cap⟩ hi β a w hS
  have hi : i ≤ b := hi
  refine regS K0 [0, 1, 6, 7, 8] hS rfl rfl trivial fun β a w hS => ?_
  refine wp_seq (cnd hS rfl (fun hlt => wp_skip ?_) (fun hge => wp_exit ?_))
  · have hlt : i < b := by simpa using hlt
    refine wp_seq (wp_block ?_)
    cases i with
    | zero =>
      refine wp_seq (regp K0 hS rfl ⟨by decide, trivial⟩ fun β a w hS => ?_)
      refine appn K0 hS [0, 1, 6, 7, 9] 1 (rowD (le n 1)) rfl rfl rfl rfl rfl rfl rfl rfl rfl rfl (.inr ⟨1, 1, 1, _, 1, rfl, ⟨_, rfl⟩, Nat.le_refl _, fun j hj => ?_⟩) Nat.zero_lt_one (by simp only [maxLen]; omega) (by show 1 * 1 ≤ 140737488355328; omega) fun cap' β a w hS => ?_
      · have : j = 0 := by omega
        subst this
        rfl
      refine rege K0 [0, 1, 6, 7] hS rfl rfl trivial fun β a w hS => ?_
      refine reg K0 [0, 1, 6, 7] hS rfl rfl ⟨by decide, trivial⟩ fun β a w hS => ?_
      refine reg K0 [0, 1, 6, 7] hS rfl rfl trivial fun β a w hS => ?_
      have hS := hS.reidx (L' := wrL (le n 1) 1 cap') (env' := [(0, .d (.p 0 [])), (1, .d (u64 (nn n 1))), (6, .d (i64 b)), (7, .d (i64 1))]) [0, 2] (by decide)
        ⟨⟨_, rfl, rfl, rfl⟩, ⟨Nat.lt_succ_self _, trivial⟩, rfl, ⟨_, rfl, rfl, rfl, rfl, rfl, fun _ _ => rfl⟩, fun _ _ => trivial, rfl, trivial⟩
        ⟨rfl, Nat.zero_lt_succ _, rfl, trivial, rfl, trivial, rfl, trivial, trivial⟩ (fun k hk => by rw [pinsOf_len] at hk; match k, hk with | 0, _ => rfl) (fun j k hj hk => by
          rw [pinsOf_len] at hj ⊢
          match j, hj, hk with
          | 1, _, hk => cases hk; exact Nat.le_succ 1)
      exact ⟨(1, cap'), _, hlt, Nat.sub_lt_sub_left hlt (Nat.lt_succ_self 0), Ste.sub hS ⟨rfl, rfl, rfl, rfl, trivial⟩⟩
    | succ i =>
      refine wp_seq (regp K0 hS rfl ⟨by decide, trivial⟩ fun β a w hS => ?_)
      have hS := hS.forget (k := 0) (d' := .st 68 [.v (.slice (some ⟨β 1, 0, none⟩) (i + 1) cap)]) rfl rfl rfl (fun h => ⟨h.1, rfl, trivial⟩)
      refine appo K0 hS [0, 1, 6, 7, 9] 1 (fun _ => .v (.int .u8 (by8 (nn n (i + 1))))) (rowD (le n (i + 2))) rfl rfl rfl rfl rfl rfl rfl rfl rfl rfl rfl
        (by rw [pinsOf_len]; exact Nat.le_refl _) ?_ ?_ (fun j _ => row_cl _ _) (.inr ⟨2, 1, 1, _, 1, rfl, ⟨_, rfl⟩, Nat.le_refl _, fun j hj => ?_⟩) (fun j _ => trivial) (fun j hj => rowS0 n (i + 1) j hj) (fun j hj => rowN0 n (i + 1) j hj) (by simp only [maxLen]; omega) ?_ fun cap' β a w hS => ?_
      · exact ⟨Nat.zero_ne_one, trivial, trivial, trivial, Nat.zero_ne_one, trivial⟩
      · refine ⟨.inr ⟨trivial, trivial⟩, .inl rfl, .inr fun j hj => ?_, trivial⟩
        have : j = 0 := by omega
        subst this
        trivial
      · have : j = 0 := by omega
        subst this
        rfl
      · show (i + 1 + 1) * 1 ≤ 140737488355328
        omega
      refine rege K0 [0, 1, 6, 7] hS rfl rfl trivial fun β a w hS => ?_
      refine reg K0 [0, 1, 6, 7] hS rfl rfl ⟨by decide, trivial⟩ fun β a w hS => ?_
      refine reg K0 [0, 1, 6, 7] hS rfl rfl trivial fun β a w hS => ?_
      have hS := hS.drop (L1 := [_, _]) (J := [_]) rfl (by rw [pinsOf_len]; exact Nat.le_succ _) ⟨trivial, trivial, trivial, Nat.zero_lt_succ _, trivial⟩ ⟨⟨Nat.lt_succ_self _, trivial⟩, fun j _ => trivial, trivial⟩
      exact ⟨(i + 2, cap'), β, hlt, Nat.sub_lt_sub_left hlt (Nat.lt_succ_self _), Ste.sub hS ⟨rfl, rfl, rfl, up1d hlt (by simp only [maxLen]; omega), trivial⟩⟩
  · have hge : i = b := by have : ¬ ((i : Int) < b) := by simpa using hge
                           omega
    subst hge
    cases i with
    | zero => exact absurd hb0 (Nat.lt_irrefl _)
    | succ i => exact cend0 rfl hS _ [] (List.append_nil _).symm rfl ⟨⟨Nat.lt_succ_self _, trivial⟩, fun j _ => trivial, trivial⟩ ⟨rfl, cap, rfl⟩

/-- An int32's bits, as a number to be written. -/
def cv (z : Int) : Int := IntKind.u64.wrap (IntKind.u32.wrap z)
def quadB (q : Nat → Int) (i : Nat) : List Int := (List.range i).flatMap fun j => le (cv (q j)) 4
theorem quadB_succ (q : Nat → Int) (i : Nat) : quadB q (i + 1) = quadB q i ++ le (cv (q i)) 4 := by simp [quadB, List.range_succ]
theorem quadB_len (q : Nat → Int) : ∀ i, (quadB q i).length = 4 * i
  | 0 => rfl
  | i + 1 => by rw [quadB_succ, List.length_append, quadB_len q i, le_len]; omega

theorem c_quad (l : List Int) (cap : Nat) (x : Value) (q : Nat → Int) (hl : l.length ≤ 50000) :
    Con Try.prog T 26 [.p 0 [], .sl 1 x 4 fun i => i32 (q i)] (wrL l l.length cap) 1 fun y L1 => y = .tup [] ∧ ∃ cap', L1 = wrL (l ++ quadB q 4) (l.length + 16) cap' := by
  refine Con.intro Try.func26 rfl rfl rfl rfl fun G w0 β0 β a w hS => ?_
  refine regS K0 [0, 6, 7, 8] hS rfl rfl trivial fun β a w hS => ?_
  have e0 : wrL l l.length cap = wrL (l ++ quadB q 0) (l.length + 4 * 0) cap := by simp [quadB]
  rw [e0] at hS
  refine wp_block (lop (fun s : Nat × Nat => 4 - s.1) (fun s => s.1 ≤ 4) (fun s => [(0, .d (.p 0 [])), (6, .d (.sl 1 x 4 fun i => i32 (q i))), (7, .d (i64 4)), (8, .d (i64 s.1))]) (fun s => wrL (l ++ quadB q s.1) (l.length + 4 * s.1) s.2) (0, cap) (Nat.zero_le _) (Ste.sub hS ⟨rfl, rfl, rfl, rfl, trivial⟩) ?_)
  rintro ⟨i, cap⟩ hi β a w hS
  have hi : i ≤ 4 := hi
  refine regS K0 [0, 6, 7, 8, 9] hS rfl rfl trivial fun β a w hS => ?_
  refine wp_seq (cnd hS rfl (fun hlt => wp_skip ?_) (fun hge => wp_exit ?_))
  · have hlt : i < 4 := by have : (i : Int) < 4 := by simpa using hlt
                           omega
    refine wp_seq (wp_block ?_)
    refine regS K0 [0, 5, 6, 7, 8] hS rfl rfl ⟨⟨by omega, by omega, rfl⟩, trivial⟩ fun β a w hS => ?_
    refine regp K0 hS rfl trivial fun β a w hS => ?_
    have hlen : (l ++ quadB q i).length = l.length + 4 * i := by rw [List.length_append, quadB_len]
    have hc := c_num (l ++ quadB q i) cap (cv (q i)) 4 (by omega) (by omega)
    have e1 : (l ++ quadB q i) ++ le (cv (q i)) 4 = l ++ quadB q (i + 1) := by rw [quadB_succ, List.append_assoc]
    rw [hlen, e1] at hc
    refine callc e_num hc hS [0, 6, 7, 8] [0, 1] rfl rfl rfl rfl rfl (by decide) rfl ⟨Nat.zero_lt_succ _, trivial, trivial, trivial⟩
      ⟨⟨_, rfl, rfl, rfl⟩, ⟨Nat.lt_succ_self 1, trivial⟩, rfl, ⟨_, rfl, rfl, rfl, rfl, rfl, fun _ _ => rfl⟩, fun _ _ => trivial, rfl, trivial⟩ (by intro k hk; simp at hk; subst hk; rw [pinsOf_len]; exact Nat.le_refl _) rfl rfl
      ⟨trivial, trivial, trivial, (by show (0 : Nat) ∉ ([1] : List Nat); simp), trivial⟩ ⟨.inl rfl, .inl rfl, trivial⟩ ?_
    rintro y L1 ⟨rfl, cap', rfl⟩ β a w hS
    refine wpList_nil ?_
    refine reg K0 [0, 6, 7, 8] hS rfl rfl trivial fun β a w hS => ?_
    exact ⟨(i + 1, cap'), β, hlt, Nat.sub_lt_sub_left hlt (Nat.lt_succ_self i), Ste.sub hS ⟨rfl, rfl, rfl, up1d hlt (by decide), trivial⟩⟩
  · have hge : i = 4 := by have : ¬ ((i : Int) < 4) := by simpa using hge
                           omega
    subst hge
    exact cend0 rfl hS _ [] (List.append_nil _).symm rfl ⟨⟨Nat.lt_succ_self _, trivial⟩, fun j _ => trivial, trivial⟩ ⟨rfl, cap, rfl⟩

end Go.CE

/- Contracts: the bytes of a state. -/
namespace Go.CE
open Go.RowKit Go.Proofs

/-- The blocks of a function that writes: a state's, the writer's, others. -/
def puL (B : Ent) (l : List Int) (cap : Nat) (J : List Ent) : List Ent := B :: wrD (.os 2 l.length cap) :: .row 5 1 l.length (rowD l) cap :: J

variable {w0 w : World} {pins : Pins} {N : Nat} {env : Env} {gs : List Nat} {β : Nat → Nat} {a : Act} {ds : List Deferred}

theorem IdxM.of {S : Nat → Prop} {ρ : List Nat} : ∀ {J : List Ent} {k : Nat}, (∀ e ∈ J, IdxE S e) → IdxM S ρ k J
  | [], _, _ => trivial
  | e :: J, k, h => ⟨.inr (h e (by simp)), IdxM.of fun e he => h e (by simp [he])⟩

/-- A call of 'num'. -/
theorem numP {B : Ent} {J : List Ent} {l : List Int} {cap : Nat} {n : Int} {b : Nat} (hb : b ≤ 8) (hl : l.length ≤ 100000) (hS : Ste T w0 pins N ds env gs (puL B l cap J) β a w) {m rest : List Oper} {Q : Exit → Act → World → Prop} {o : Oper} {args : List Operand} {ty : Array TypeId}
    (ts : List Nat) (hg : o.guard = none) (hop : o.op = .call ⟨.value (.func 25), ⟨args⟩, ty⟩) (hx : opds (lkU env) args = some [.p 1 [], u64 n, i64 b]) (hdst : dstB N o.dst = true)
    {env2 : Env} (he : keepE env ts [] = some env2) (hp : pins.fix.length = 0) (hI : IdxN (· ≠ 2) env2) (hB : IdxE (· ≠ 2) B) (hJ : ∀ e ∈ J, IdxE (· ≠ 2) e)
    (hk : ∀ cap' β' a' w', Ste T w0 pins N ds (dstE o.dst (.tup []) env2) [] (puL B (l ++ le n b) cap' J) β' a' w' → wpList Try.prog m.toArray Q rest a' w') : wpList Try.prog m.toArray Q (o :: rest) a w := by
  have hc := c_num l cap n b hb hl
  have e1 : l.length + b = (l ++ le n b).length := by rw [List.length_append, le_len]
  rw [e1] at hc
  have e2 : (fun k => k ∉ ([1, 2] : List Nat).drop 1) = (· ≠ 2) := by funext k; simp
  refine callc e_num hc hS ts [1, 2] hg hop rfl hx hdst (by decide) rfl ⟨Nat.zero_lt_succ _, trivial, trivial, trivial⟩
    ⟨⟨_, rfl, rfl, rfl⟩, ⟨Nat.lt_succ_self 1, trivial⟩, rfl, ⟨_, rfl, rfl, rfl, rfl, rfl, fun _ _ => rfl⟩, fun _ _ => trivial, rfl, trivial⟩ (by rw [hp]; intro k _; exact Nat.zero_le _) rfl he (by rw [e2]; exact hI) (by
      rw [e2]
      exact ⟨.inr hB, .inl rfl, .inl rfl, IdxM.of hJ⟩) ?_
  rintro y L1 ⟨rfl, cap', rfl⟩ β a w hS
  refine hk cap' β a w ?_
  have : putE (rn [1, 2] (puL B l cap J).length) [1, 2] (wrL (l ++ le n b) (l ++ le n b).length cap') (puL B l cap J) = puL B (l ++ le n b) cap' J := by
    show (B :: _ :: _ :: J) ++ [] = _
    rw [List.append_nil]
    rfl
  rw [this] at hS
  exact hS

/-- A call of 'quad', four numbers in a row of their own. -/
theorem quadP {B : Ent} {J : List Ent} {l : List Int} {cap k : Nat} {f : Nat → D} {qi : Nat → Int} (hl : l.length ≤ 50000) (hS : Ste T w0 pins N ds env gs (puL B l cap J) β a w) {m rest : List Oper} {Q : Exit → Act → World → Prop} {o : Oper} {args : List Operand} {ty : Array TypeId}
    (ts : List Nat) (hg : o.guard = none) (hop : o.op = .call ⟨.value (.func 26), ⟨args⟩, ty⟩) (hx : opds (lkU env) args = some [.p 1 [], .os (k + 3) 4 4]) (hdst : dstB N o.dst = true)
    (hr : nth J k = some (.row 21 1 4 f 4)) (hf : ∀ i, i < 4 → f i = i32 (qi i))
    {env2 : Env} (he : keepE env ts [] = some env2) (hp : pins.fix.length = 0) (hI : IdxN (· ≠ 2) env2) (hB : IdxE (· ≠ 2) B) (hJ : ∀ e ∈ J, IdxE (· ≠ 2) e)
    (hk : ∀ cap' β' a' w', Ste T w0 pins N ds (dstE o.dst (.tup []) env2) [] (puL B (l ++ quadB qi 4) cap' J) β' a' w' → wpList Try.prog m.toArray Q rest a' w') : wpList Try.prog m.toArray Q (o :: rest) a w := by
  have hc := c_quad l cap (.slice (some ⟨β (k + 3), 0, none⟩) 4 4) qi hl
  have e1 : l.length + 16 = (l ++ quadB qi 4).length := by rw [List.length_append, quadB_len]
  rw [e1] at hc
  have e2 : (fun k => k ∉ ([1, 2] : List Nat).drop 1) = (· ≠ 2) := by funext k; simp
  have hr' : nth (puL B l cap J) (k + 3) = some (.row 21 1 4 f 4) := hr
  obtain ⟨cur, c1, c2, c3, c4, c5, c6, c7, c8⟩ := hS.ss.mem.ent (k + 3) _ hr'
  have hcl : ∀ i, i < 4 → Cl (f i) := fun i hi => by rw [hf i hi]; trivial
  have hview : Ok T w ⟨fun b => (Own pins.G (puL B l cap J) β).ok b ∨ ∃ j ∈ [k + 3], β j = b, (puL B l cap J).length⟩ (.sl 1 (.slice (some ⟨β (k + 3), 0, none⟩) 4 4) 4 fun i => i32 (qi i)) := by
    refine ⟨⟨_, 4, rfl, Nat.le_refl _, c6, .inr ⟨β (k + 3), 0, cur, _, (0, 0), rfl, .inr ⟨k + 3, by simp, rfl⟩, c1, fun i hi j v hv => ?_⟩⟩, fun i hi => ⟨rfl, rfl, trivial⟩⟩
    rw [Nat.zero_add]
    refine c8 i hi j v ?_
    rw [hf i hi]
    exact hv
  refine callv e_quad hc hS hg hop rfl hx hdst [1, 2] [k + 3] (by decide) (fun j hj => by
      simp only [List.mem_cons, List.not_mem_nil, or_false] at hj
      subst hj
      exact ⟨by simp, _, hr', rfl⟩) rfl ⟨Nat.zero_lt_succ _, trivial, trivial⟩ ⟨⟨Nat.succ_lt_succ (Nat.zero_lt_succ _), trivial⟩, hview, trivial⟩
    ⟨⟨_, rfl, rfl, rfl⟩, ⟨Nat.lt_succ_self 1, trivial⟩, rfl, ⟨_, rfl, rfl, rfl, rfl, rfl, fun _ _ => rfl⟩, fun _ _ => trivial, rfl, trivial⟩ (by rw [hp]; intro k _; exact Nat.zero_le _) (by show 1 ≤ 2; omega) ts he (by rw [e2]; exact hI) (by
      rw [e2]
      exact ⟨.inr hB, .inl rfl, .inl rfl, IdxM.of hJ⟩) (.inr ?_) ?_
  · rintro y L1 ⟨rfl, cap', rfl⟩
    refine ⟨trivial, fun j e hj => ?_⟩
    match j, hj with
    | 0, hj => cases hj; exact ⟨trivial, trivial⟩
    | 1, hj => cases hj; exact fun _ _ => trivial
  rintro y L1 ⟨rfl, cap', rfl⟩ β a w hS
  refine hk cap' β a w ?_
  have : putE (rn [1, 2] (puL B l cap J).length) [1, 2] (wrL (l ++ quadB qi 4) (l ++ quadB qi 4).length cap') (puL B l cap J) = puL B (l ++ quadB qi 4) cap' J := by
    show (B :: _ :: _ :: J) ++ [] = _
    rw [List.append_nil]
    rfl
  rw [this] at hS
  exact hS

end Go.CE
