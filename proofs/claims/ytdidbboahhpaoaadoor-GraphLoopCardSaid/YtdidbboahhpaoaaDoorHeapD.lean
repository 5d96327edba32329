/- A part of the proof: HeapD. No condition. -/
import Derived.Test.YtdidbboahhpaoaaDoorMiniC
set_option linter.all false
set_option maxRecDepth 100000
namespace Go.HeapMath

/-- a stands ahead of b -/
def Ah (A : Nat → Int) (a b : Nat) : Prop := A b < A a ∨ (A a = A b ∧ a < b)
theorem Ah.irrefl {A : Nat → Int} {a : Nat} : ¬ Ah A a a := by unfold Ah; omega
theorem Ah.trans {A : Nat → Int} {a b c : Nat} (h : Ah A a b) (k : Ah A b c) : Ah A a c := by unfold Ah at *; omega
theorem Ah.not_trans {A : Nat → Int} {a b c : Nat} (h : ¬ Ah A a b) (k : ¬ Ah A b c) : ¬ Ah A a c := by unfold Ah at *; omega
theorem Ah.total {A : Nat → Int} {a b : Nat} (h : a ≠ b) : Ah A a b ∨ Ah A b a := by unfold Ah; omega
theorem Ah.asymm {A : Nat → Int} {a b : Nat} (h : Ah A a b) : ¬ Ah A b a := by unfold Ah at *; omega

/-- both places changed -/
def swp (f : Nat → Nat) (i j : Nat) : Nat → Nat := fun x => if x = i then f j else if x = j then f i else f x
def par (i : Nat) : Nat := (i - 1) / 2

/-- the order holds for all whose parent is k or later -/
def Hp (A : Nat → Int) (m k : Nat) (f : Nat → Nat) : Prop := ∀ j, 0 < j → j < m → k ≤ par j → ¬ Ah A (f j) (f (par j))
/-- but for one that may have to go up -/
def Upw (A : Nat → Int) (m i : Nat) (f : Nat → Nat) : Prop :=
  (∀ j, 0 < j → j < m → j ≠ i → ¬ Ah A (f j) (f (par j))) ∧ ∀ j, 0 < j → j < m → par j = i → 0 < i → ¬ Ah A (f j) (f (par i))
/-- but for one that may have to go down -/
def Dnw (A : Nat → Int) (m k i : Nat) (f : Nat → Nat) : Prop :=
  (∀ j, 0 < j → j < m → k ≤ par j → par j ≠ i → ¬ Ah A (f j) (f (par j))) ∧ ∀ j, 0 < j → j < m → par j = i → 0 < i → k ≤ par i → ¬ Ah A (f j) (f (par i))

theorem Upw.stop {A : Nat → Int} {m i : Nat} {f : Nat → Nat} (h : Upw A m i f) (hs : i = 0 ∨ ¬ Ah A (f i) (f (par i))) : Hp A m 0 f := by
  intro j hj hm _
  by_cases hi : j = i
  · subst hi
    rcases hs with hs | hs
    · omega
    · exact hs
  · exact h.1 j hj hm hi
theorem Upw.step {A : Nat → Int} {m i : Nat} {f : Nat → Nat} (h : Upw A m i f) (h0 : 0 < i) (him : i < m) (ha : Ah A (f i) (f (par i))) : Upw A m (par i) (swp f i (par i)) := by
  have hp : par i < i := by unfold par; omega
  have e1 : swp f i (par i) i = f (par i) := by simp [swp]
  have e2 : swp f i (par i) (par i) = f i := by
    unfold swp; rw [if_neg (by omega), if_pos rfl]
  have e3 : ∀ x, x ≠ i → x ≠ par i → swp f i (par i) x = f x := fun x h1 h2 => by unfold swp; rw [if_neg h1, if_neg h2]
  constructor
  · intro j hj hm hne
    by_cases hji : j = i
    · subst hji; rw [e1, e2]; exact ha.asymm
    · rw [e3 j hji hne]
      by_cases hq : par j = i
      · rw [hq, e1]
        exact h.2 j hj hm hq h0
      · by_cases hq2 : par j = par i
        · rw [hq2, e2]
          have := h.1 j hj hm hji
          rw [hq2] at this
          intro hx
          exact this (hx.trans ha)
        · rw [e3 _ hq hq2]; exact h.1 j hj hm hji
  · intro j hj hm hpj h0p
    have hpp : par (par i) < par i := by unfold par at *; omega
    have hne1 : par (par i) ≠ i := by omega
    rw [e3 (par (par i)) hne1 (by omega)]
    have hpi : par i ≠ i := by omega
    have base := h.1 (par i) h0p (by omega) hpi
    by_cases hji : j = i
    · subst hji; rw [e1]; exact base
    · have hjp : j ≠ par i := by
        intro e; subst e; unfold par at hpj h0p; omega
      rw [e3 j hji hjp]
      have := h.1 j hj hm hji
      rw [hpj] at this
      exact Ah.not_trans this base
theorem Ah.le_trans {A : Nat → Int} {a b c : Nat} (h : ¬ Ah A a b) (k : ¬ Ah A b c) : ¬ Ah A a c := Ah.not_trans h k

theorem Dnw.stop {A : Nat → Int} {m k i : Nat} {f : Nat → Nat} (h : Dnw A m k i f) (hs : ∀ j, 0 < j → j < m → par j = i → ¬ Ah A (f j) (f i)) : Hp A m k f := by
  intro j hj hm hk
  by_cases hi : par j = i
  · rw [hi]; exact hs j hj hm hi
  · exact h.1 j hj hm hk hi
theorem Dnw.step {A : Nat → Int} {m k i c : Nat} {f : Nat → Nat} (h : Dnw A m k i f) (hki : k ≤ i) (h0 : 0 < c) (hcm : c < m) (hpc : par c = i) (hb : ∀ j, 0 < j → j < m → par j = i → ¬ Ah A (f j) (f c)) (ha : Ah A (f c) (f i)) : Dnw A m k c (swp f i c) := by
  have hic : i < c := by unfold par at hpc; omega
  have e1 : swp f i c i = f c := by simp [swp]
  have e2 : swp f i c c = f i := by
    unfold swp; rw [if_neg (by omega), if_pos rfl]
  have e3 : ∀ x, x ≠ i → x ≠ c → swp f i c x = f x := fun x h1 h2 => by unfold swp; rw [if_neg h1, if_neg h2]
  constructor
  · intro j hj hm hk hne
    by_cases hq : par j = i
    · rw [hq, e1]
      by_cases hjc : j = c
      · subst hjc; rw [e2]; exact ha.asymm
      · rw [e3 j (by unfold par at hq; omega) hjc]; exact hb j hj hm hq
    · rw [e3 (par j) hq hne]
      by_cases hji : j = i
      · subst hji; rw [e1]
        exact h.2 c h0 hcm hpc hj hk
      · have hjc : j ≠ c := by intro e; subst e; exact hq hpc
        rw [e3 j hji hjc]
        exact h.1 j hj hm hk hq
  · intro j hj hm hpj h0c hk
    have hjc : c < j := by unfold par at hpj; omega
    rw [e3 j (by omega) (by omega), hpc, e1]
    have := h.1 j hj hm (by rw [hpj]; omega) (by rw [hpj]; omega)
    rw [hpj] at this; exact this

theorem Hp.root {A : Nat → Int} {m : Nat} {f : Nat → Nat} (h : Hp A m 0 f) : ∀ i, i < m → ¬ Ah A (f i) (f 0) := by
  intro i
  induction i using Nat.strongRecOn with
  | _ i ih =>
    intro hi
    by_cases h0 : i = 0
    · subst h0; exact Ah.irrefl
    · have hp : par i < i := by unfold par; omega
      exact Ah.not_trans (h i (by omega) hi (Nat.zero_le _)) (ih (par i) hp (by omega))

/-- where each one is -/
structure Pl (n m : Nat) (f : Nat → Nat) (p : Nat → Int) : Prop where
  fst : ∀ i, i < m → 1 ≤ f i ∧ f i ≤ n ∧ p (f i) = i
  snd : ∀ v, 1 ≤ v → v ≤ n → p v = -1 ∨ ∃ i, i < m ∧ p v = (i : Int) ∧ f i = v
def put (p : Nat → Int) (v : Nat) (i : Int) : Nat → Int := fun x => if x = v then i else p x
theorem Pl.inj {n m : Nat} {f : Nat → Nat} {p : Nat → Int} (h : Pl n m f p) {i j : Nat} (hi : i < m) (hj : j < m) (he : f i = f j) : i = j := by
  have h1 := (h.fst i hi).2.2; have h2 := (h.fst j hj).2.2
  rw [he] at h1; omega
theorem Pl.swap {n m : Nat} {f : Nat → Nat} {p : Nat → Int} (h : Pl n m f p) {i j : Nat} (hi : i < m) (hj : j < m) (hij : i ≠ j) : Pl n m (swp f i j) (put (put p (f j) i) (f i) j) := by
  have hne : f i ≠ f j := fun e => hij (h.inj hi hj e)
  constructor
  · intro x hx
    unfold swp put
    by_cases h1 : x = i
    · subst h1
      rw [if_pos rfl]
      refine ⟨(h.fst j hj).1, (h.fst j hj).2.1, ?_⟩
      rw [if_neg (fun e => hne e.symm), if_pos rfl]
    · rw [if_neg h1]
      by_cases h2 : x = j
      · subst h2
        rw [if_pos rfl, if_pos rfl]
        exact ⟨(h.fst i hi).1, (h.fst i hi).2.1, rfl⟩
      · rw [if_neg h2]
        refine ⟨(h.fst x hx).1, (h.fst x hx).2.1, ?_⟩
        rw [if_neg (fun e => h1 (h.inj hx hi e)), if_neg (fun e => h2 (h.inj hx hj e))]
        exact (h.fst x hx).2.2
  · intro v h1 h2
    unfold put
    by_cases e1 : v = f i
    · rw [if_pos e1]; right
      exact ⟨j, hj, rfl, by unfold swp; rw [if_neg (fun e => hij e.symm), if_pos rfl, e1]⟩
    · rw [if_neg e1]
      by_cases e2 : v = f j
      · rw [if_pos e2]; right
        exact ⟨i, hi, rfl, by unfold swp; rw [if_pos rfl, e2]⟩
      · rw [if_neg e2]
        rcases h.snd v h1 h2 with h3 | ⟨x, hx, h3, h4⟩
        · exact .inl h3
        · right
          refine ⟨x, hx, h3, ?_⟩
          unfold swp
          rw [if_neg (fun e => e1 (by rw [← h4, e])), if_neg (fun e => e2 (by rw [← h4, e]))]; exact h4
end Go.HeapMath

namespace Go.HeapMath

def gN (L : List Nat) (i : Nat) : Nat := L.getD i 0
def gI (L : List Int) (i : Nat) : Int := L.getD i 0
theorem gN_set {L : List Nat} {i : Nat} (h : i < L.length) (v x : Nat) : gN (L.set i v) x = if x = i then v else gN L x := by
  unfold gN
  by_cases hx : x = i
  · subst hx; rw [if_pos rfl, List.getD_eq_getElem?_getD, List.getElem?_set_self h]; rfl
  · rw [if_neg hx, List.getD_eq_getElem?_getD, List.getElem?_set_ne (fun e => hx e.symm), ← List.getD_eq_getElem?_getD]
theorem gI_set {L : List Int} {i : Nat} (h : i < L.length) (v : Int) (x : Nat) : gI (L.set i v) x = if x = i then v else gI L x := by
  unfold gI
  by_cases hx : x = i
  · subst hx; rw [if_pos rfl, List.getD_eq_getElem?_getD, List.getElem?_set_self h]; rfl
  · rw [if_neg hx, List.getD_eq_getElem?_getD, List.getElem?_set_ne (fun e => hx e.symm), ← List.getD_eq_getElem?_getD]
theorem gN_get {L : List Nat} {i : Nat} (h : i < L.length) : L[i]? = some (gN L i) := by
  unfold gN; rw [List.getD_eq_getElem?_getD, List.getElem?_eq_getElem h]; rfl
theorem gI_get {L : List Int} {i : Nat} (h : i < L.length) : L[i]? = some (gI L i) := by
  unfold gI; rw [List.getD_eq_getElem?_getD, List.getElem?_eq_getElem h]; rfl

instance (A : Nat → Int) (a b : Nat) : Decidable (Ah A a b) := by unfold Ah; exact inferInstance

def upL (A : Nat → Int) : Nat → List Nat → List Int → Nat → Nat → List Nat × List Int
  | 0, L, P, v, i => (L.set i v, P.set v i)
  | k + 1, L, P, v, i => if 0 < i ∧ Ah A v (gN L (par i)) then upL A k (L.set i (gN L (par i))) (P.set (gN L (par i)) i) v (par i) else (L.set i v, P.set v i)

/-- the list with v at the open place -/
def hole (L : List Nat) (i v : Nat) : Nat → Nat := fun x => if x = i then v else gN L x

theorem hole_swp {L : List Nat} {i j v : Nat} (hi : i < L.length) (hij : i ≠ j) : hole (L.set i (gN L j)) j v = swp (hole L i v) i j := by
  funext x
  show (if x = j then v else gN (L.set i (gN L j)) x) = (if x = i then (if j = i then v else gN L j) else if x = j then (if i = i then v else gN L i) else (if x = i then v else gN L x))
  by_cases h1 : x = j
  · subst h1; rw [if_pos rfl, if_neg (fun e => hij e.symm), if_pos rfl, if_pos rfl]
  · rw [if_neg h1, gN_set hi]
    by_cases h2 : x = i
    · subst h2; rw [if_pos rfl, if_pos rfl, if_neg (fun e => hij e.symm)]
    · rw [if_neg h2, if_neg h2, if_neg h1, if_neg h2]
theorem hole_end {L : List Nat} {i v : Nat} (hi : i < L.length) : gN (L.set i v) = hole L i v := by
  funext x; exact gN_set hi v x
theorem put_end {P : List Int} {v : Nat} {i : Int} (hv : v < P.length) : gI (P.set v i) = put (gI P) v i := by
  funext x; exact gI_set hv i x
theorem put_swp {L : List Nat} {P : List Int} {i j v : Nat} (hij : i ≠ j) (hu : gN L j < P.length) : put (gI (P.set (gN L j) i)) v j = put (put (put (gI P) v i) (hole L i v j) i) (hole L i v i) j := by
  have e1 : hole L i v j = gN L j := by unfold hole; rw [if_neg (fun e => hij e.symm)]
  have e2 : hole L i v i = v := by unfold hole; rw [if_pos rfl]
  rw [e1, e2, put_end hu]
  funext x
  unfold put
  by_cases h1 : x = v
  · rw [if_pos h1, if_pos h1]
  · rw [if_neg h1, if_neg h1]
    by_cases h2 : x = gN L j
    · rw [if_pos h2, if_pos h2]
    · rw [if_neg h2, if_neg h2, if_neg h1]

structure Done (A : Nat → Int) (n m k : Nat) (p0 : Nat → Int) (r : List Nat × List Int) : Prop where
  ll : r.1.length = m
  pl : r.2.length = n + 1
  hp : Hp A m k (gN r.1)
  at_ : Pl n m (gN r.1) (gI r.2)
  same : ∀ u, gI r.2 u = -1 ↔ p0 u = -1

theorem up_spec {A : Nat → Int} {n m : Nat} : ∀ {k : Nat} {L : List Nat} {P : List Int} {v i : Nat}, i ≤ k → i < m → L.length = m → P.length = n + 1 → Upw A m i (hole L i v) → Pl n m (hole L i v) (put (gI P) v i) → Done A n m 0 (put (gI P) v i) (upL A k L P v i)
  | k, L, P, v, i, hk, hi, hL, hP, hU, hPl => by
    have ev : hole L i v i = v := by unfold hole; rw [if_pos rfl]
    have hvn : v ≤ n := by have := (hPl.fst i hi).2.1; rw [ev] at this; exact this
    have stop : (i = 0 ∨ ¬ Ah A v (gN L (par i))) → Done A n m 0 (put (gI P) v i) (L.set i v, P.set v i) := by
      intro hs
      have e : gN (L.set i v) = hole L i v := hole_end (by omega)
      have e' : gI (P.set v i) = put (gI P) v i := put_end (by omega)
      refine ⟨by simp [hL], by simp [hP], ?_, ?_, fun u => by show gI (P.set v i) u = -1 ↔ _; rw [e']⟩
      · show Hp A m 0 (gN (L.set i v))
        rw [e]
        refine hU.stop ?_
        rcases hs with hs | hs
        · exact .inl hs
        · by_cases h0 : i = 0
          · exact .inl h0
          · right
            have : par i ≠ i := by unfold par; omega
            have e2 : hole L i v (par i) = gN L (par i) := by unfold hole; rw [if_neg this]
            rw [ev, e2]; exact hs
      · show Pl n m (gN (L.set i v)) (gI (P.set v i))
        rw [e, e']; exact hPl
    cases k with
    | zero => exact stop (.inl (by omega))
    | succ k =>
      unfold upL
      by_cases hc : 0 < i ∧ Ah A v (gN L (par i))
      · rw [if_pos hc]
        have hp : par i < i := by unfold par; omega
        have e2 : hole L i v (par i) = gN L (par i) := by unfold hole; rw [if_neg (by omega)]
        have hu : gN L (par i) < P.length := by
          have := (hPl.fst (par i) (by omega)).2.1
          rw [e2] at this; omega
        have s1 := hU.step hc.1 hi (by rw [ev, e2]; exact hc.2)
        have s2 := hPl.swap hi (by omega : par i < m) (by omega)
        rw [← hole_swp (by omega) (by omega)] at s1 s2
        rw [← put_swp (by omega) hu] at s2
        have := up_spec (k := k) (by omega) (by omega) (by simp [hL]) (by simp [hP]) s1 s2
        refine ⟨this.ll, this.pl, this.hp, this.at_, fun u => ?_⟩
        rw [this.same, put_swp (by omega) hu]
        unfold put
        rw [e2, ev]
        have hpi : put (gI P) v i (gN L (par i)) ≠ -1 := by
          have := (hPl.fst (par i) (by omega)).2.2
          rw [e2] at this; rw [this]; omega
        unfold put at hpi
        by_cases h1 : u = v
        · rw [if_pos h1, if_pos h1]; omega
        · rw [if_neg h1, if_neg h1]
          by_cases h2 : u = gN L (par i)
          · rw [if_pos h2]
            rw [← h2, if_neg h1] at hpi
            constructor
            · intro h; omega
            · intro h; exact absurd h hpi
          · rw [if_neg h2]
      · rw [if_neg hc]
        refine stop ?_
        by_cases h0 : i = 0
        · exact .inl h0
        · exact .inr fun h => hc ⟨by omega, h⟩

def kid (A : Nat → Int) (L : List Nat) (i : Nat) : Nat := if 2 * i + 2 < L.length ∧ Ah A (gN L (2 * i + 2)) (gN L (2 * i + 1)) then 2 * i + 2 else 2 * i + 1
def downL (A : Nat → Int) : Nat → List Nat → List Int → Nat → Nat → List Nat × List Int
  | 0, L, P, v, i => (L.set i v, P.set v i)
  | k + 1, L, P, v, i => if 2 * i + 1 < L.length ∧ Ah A (gN L (kid A L i)) v then downL A k (L.set i (gN L (kid A L i))) (P.set (gN L (kid A L i)) i) v (kid A L i) else (L.set i v, P.set v i)

theorem down_spec {A : Nat → Int} {n m q : Nat} : ∀ {k : Nat} {L : List Nat} {P : List Int} {v i : Nat}, m ≤ i + k → q ≤ i → i < m → L.length = m → P.length = n + 1 → Dnw A m q i (hole L i v) → Pl n m (hole L i v) (put (gI P) v i) → Done A n m q (put (gI P) v i) (downL A k L P v i)
  | k, L, P, v, i, hk, hq, hi, hL, hP, hU, hPl => by
    have ev : hole L i v i = v := by unfold hole; rw [if_pos rfl]
    have hvn : v ≤ n := by have := (hPl.fst i hi).2.1; rw [ev] at this; exact this
    have eo : ∀ x, x ≠ i → hole L i v x = gN L x := fun x hx => by unfold hole; rw [if_neg hx]
    have kids : ∀ j, 0 < j → par j = i → j = 2 * i + 1 ∨ j = 2 * i + 2 := fun j h0 hj => by unfold par at hj; omega
    have hkid : kid A L i = 2 * i + 1 ∨ (kid A L i = 2 * i + 2 ∧ 2 * i + 2 < m) := by
      unfold kid; split
      · rename_i h; exact .inr ⟨rfl, by rw [← hL]; exact h.1⟩
      · exact .inl rfl
    have best : ∀ j, 0 < j → j < m → par j = i → ¬ Ah A (gN L j) (gN L (kid A L i)) := by
      intro j h0 hj hp
      unfold kid
      rcases kids j h0 hp with rfl | rfl
      · split
        · rename_i h; exact h.2.asymm
        · exact Ah.irrefl
      · split
        · exact Ah.irrefl
        · rename_i h
          intro hx; exact h ⟨by omega, hx⟩
    have stop : (m ≤ 2 * i + 1 ∨ ¬ Ah A (gN L (kid A L i)) v) → Done A n m q (put (gI P) v i) (L.set i v, P.set v i) := by
      intro hs
      have e : gN (L.set i v) = hole L i v := hole_end (by omega)
      have e' : gI (P.set v i) = put (gI P) v i := put_end (by omega)
      refine ⟨by simp [hL], by simp [hP], ?_, ?_, fun u => by show gI (P.set v i) u = -1 ↔ _; rw [e']⟩
      · show Hp A m q (gN (L.set i v))
        rw [e]
        refine hU.stop fun j h0 hj hp => ?_
        have hji : j ≠ i := by unfold par at hp; omega
        rw [ev, eo j hji]
        rcases hs with hs | hs
        · rcases kids j h0 hp with h | h <;> omega
        · exact Ah.not_trans (best j h0 hj hp) hs
      · show Pl n m (gN (L.set i v)) (gI (P.set v i))
        rw [e, e']; exact hPl
    cases k with
    | zero => exact stop (.inl (by omega))
    | succ k =>
      unfold downL
      by_cases hc : 2 * i + 1 < L.length ∧ Ah A (gN L (kid A L i)) v
      · rw [if_pos hc]
        have hck : kid A L i < m := by rcases hkid with h | ⟨h, h'⟩ <;> omega
        have hik : i < kid A L i := by rcases hkid with h | ⟨h, h'⟩ <;> omega
        have hpk : par (kid A L i) = i := by unfold par; rcases hkid with h | ⟨h, h'⟩ <;> omega
        have e2 : hole L i v (kid A L i) = gN L (kid A L i) := eo _ (by omega)
        have hu : gN L (kid A L i) < P.length := by
          have := (hPl.fst _ hck).2.1
          rw [e2] at this; omega
        have s1 := hU.step hq (by omega) hck hpk (fun j h0 hj hp => by
          have hji : j ≠ i := by unfold par at hp; omega
          rw [eo j hji, e2]; exact best j h0 hj hp) (by rw [ev, e2]; exact hc.2)
        have s2 := hPl.swap hi hck (by omega)
        rw [← hole_swp (by omega) (by omega)] at s1 s2
        rw [← put_swp (by omega) hu] at s2
        have := down_spec (k := k) (q := q) (by omega) (by omega) hck (by simp [hL]) (by simp [hP]) s1 s2
        refine ⟨this.ll, this.pl, this.hp, this.at_, fun u => ?_⟩
        rw [this.same, put_swp (by omega) hu]
        unfold put
        rw [e2, ev]
        have hpi : put (gI P) v i (gN L (kid A L i)) ≠ -1 := by
          have := (hPl.fst _ hck).2.2
          rw [e2] at this; rw [this]; omega
        unfold put at hpi
        by_cases h1 : u = v
        · rw [if_pos h1, if_pos h1]; omega
        · rw [if_neg h1, if_neg h1]
          by_cases h2 : u = gN L (kid A L i)
          · rw [if_pos h2]
            rw [← h2, if_neg h1] at hpi
            constructor
            · intro h; omega
            · intro h; exact absurd h hpi
          · rw [if_neg h2]
      · rw [if_neg hc]
        refine stop ?_
        by_cases h0 : m ≤ 2 * i + 1
        · exact .inl h0
        · exact .inr fun h => hc ⟨by omega, h⟩
end Go.HeapMath

namespace Go.HeapMath

structure HSt (n : Nat) (L : List Nat) (P A : List Int) : Prop where
  pl : P.length = n + 1
  al : A.length = n + 1
  hp : Hp (gI A) L.length 0 (gN L)
  at_ : Pl n L.length (gN L) (gI P)

theorem gN_append {L : List Nat} {v x : Nat} : gN (L ++ [v]) x = if x = L.length then v else gN L x := by
  unfold gN
  rw [List.getD_eq_getElem?_getD, List.getD_eq_getElem?_getD, List.getElem?_append]
  by_cases h1 : x < L.length
  · rw [if_pos h1, if_neg (by omega)]
  · rw [if_neg h1]
    by_cases h2 : x = L.length
    · subst h2; simp
    · rw [if_neg h2, List.getElem?_eq_none (by simp; omega), List.getElem?_eq_none (by omega)]
theorem put_same {P : List Int} {v : Nat} {i : Int} (h : gI P v = i) : put (gI P) v i = gI P := by
  funext x; unfold put
  by_cases hx : x = v
  · rw [if_pos hx, hx, h]
  · rw [if_neg hx]
theorem hole_same {L : List Nat} {i v : Nat} (h : gN L i = v) : hole L i v = gN L := by
  funext x; unfold hole
  by_cases hx : x = i
  · rw [if_pos hx, hx, h]
  · rw [if_neg hx]
theorem Pl.notin {n m : Nat} {f : Nat → Nat} {p : Nat → Int} (h : Pl n m f p) {v : Nat} (hv : p v = -1) {i : Nat} (hi : i < m) : f i ≠ v := by
  intro e; have := (h.fst i hi).2.2; rw [e, hv] at this; omega

/-- a variable put -/
theorem put_spec {n : Nat} {L : List Nat} {P A : List Int} (h : HSt n L P A) {v k : Nat} (h1 : 1 ≤ v) (h2 : v ≤ n) (hv : gI P v = -1) (hk : L.length ≤ k) :
    Done (gI A) n (L.length + 1) 0 (put (gI P) v L.length) (upL (gI A) k (L ++ [v]) P v L.length) := by
  have eh : hole (L ++ [v]) L.length v = gN (L ++ [v]) := hole_same (by rw [gN_append, if_pos rfl])
  have lo : ∀ x, x < L.length → gN (L ++ [v]) x = gN L x := fun x hx => by rw [gN_append, if_neg (by omega)]
  refine up_spec hk (by omega) (by simp) h.pl ?_ ?_
  · rw [eh]
    refine ⟨fun j h0 hj hne => ?_, fun j h0 hj hp hi => ?_⟩
    · have hp : par j < L.length := by unfold par; omega
      rw [lo j (by omega), lo _ hp]
      exact h.hp j h0 (by omega) (Nat.zero_le _)
    · unfold par at hp; omega
  · rw [eh]
    refine ⟨fun i hi => ?_, fun u u1 u2 => ?_⟩
    · by_cases hx : i = L.length
      · subst hx
        rw [gN_append, if_pos rfl]
        exact ⟨h1, h2, by unfold put; rw [if_pos rfl]⟩
      · have hi' : i < L.length := by omega
        rw [lo i hi']
        obtain ⟨a, b, c⟩ := h.at_.fst i hi'
        refine ⟨a, b, ?_⟩
        unfold put; rw [if_neg (h.at_.notin hv hi')]; exact c
    · unfold put
      by_cases hu : u = v
      · rw [if_pos hu]; right
        exact ⟨L.length, by omega, rfl, by rw [gN_append, if_pos rfl, hu]⟩
      · rw [if_neg hu]
        rcases h.at_.snd u u1 u2 with h3 | ⟨i, hi, h3, h4⟩
        · exact .inl h3
        · exact .inr ⟨i, by omega, h3, by rw [lo i hi]; exact h4⟩
theorem Done.hst {n m : Nat} {A : List Int} {p0 : Nat → Int} {r : List Nat × List Int} (hA : A.length = n + 1) (h : Done (gI A) n m 0 p0 r) : HSt n r.1 r.2 A :=
  ⟨h.pl, hA, by rw [h.ll]; exact h.hp, by rw [h.ll]; exact h.at_⟩

/-- the best one is first -/
theorem HSt.best {n : Nat} {L : List Nat} {P A : List Int} (h : HSt n L P A) {u : Nat} (h1 : 1 ≤ u) (h2 : u ≤ n) (hu : gI P u ≠ -1) : 0 < L.length ∧ ¬ Ah (gI A) u (gN L 0) := by
  rcases h.at_.snd u h1 h2 with h3 | ⟨i, hi, _, h4⟩
  · exact absurd h3 hu
  · exact ⟨by omega, by rw [← h4]; exact h.hp.root i hi⟩
theorem gN_take {L : List Nat} {k x : Nat} (hx : x < k) : gN (L.take k) x = gN L x := by
  unfold gN
  rw [List.getD_eq_getElem?_getD, List.getD_eq_getElem?_getD, List.getElem?_take_of_lt hx]

/-- the first one taken, and nothing is left -/
theorem next_last {n : Nat} {L : List Nat} {P A : List Int} (h : HSt n L P A) (hm : L.length = 1) : HSt n (L.take (L.length - 1)) (P.set (gN L 0) (-1)) A := by
  obtain ⟨a, b, c⟩ := h.at_.fst 0 (by omega)
  have hl : (L.take (L.length - 1)).length = 0 := by simp [hm]
  refine ⟨by simp [h.pl], h.al, ?_, ?_⟩
  · rw [hl]; intro j _ hj; omega
  · rw [hl]
    refine ⟨fun i hi => by omega, fun u h1 h2 => ?_⟩
    rw [gI_set (by rw [h.pl]; omega)]
    left
    by_cases hu : u = gN L 0
    · rw [if_pos hu]
    · rw [if_neg hu]
      rcases h.at_.snd u h1 h2 with h3 | ⟨i, hi, _, h4⟩
      · exact h3
      · have : i = 0 := by omega
        subst this; exact absurd h4.symm hu
/-- the first one taken -/
theorem next_spec {n : Nat} {L : List Nat} {P A : List Int} (h : HSt n L P A) {k : Nat} (hm : 1 < L.length) (hk : L.length ≤ k + 1) :
    Done (gI A) n (L.length - 1) 0 (put (gI P) (gN L 0) (-1)) (downL (gI A) k ((L.take (L.length - 1)).set 0 (gN L (L.length - 1))) (P.set (gN L 0) (-1)) (gN L (L.length - 1)) 0) := by
  obtain ⟨a, b, c⟩ := h.at_.fst 0 (by omega)
  obtain ⟨a', b', c'⟩ := h.at_.fst (L.length - 1) (by omega)
  have hl : (L.take (L.length - 1)).length = L.length - 1 := by simp
  have hne : gN L (L.length - 1) ≠ gN L 0 := by intro e; rw [e, c] at c'; omega
  have e0 : ∀ x, x < L.length - 1 → x ≠ 0 → hole ((L.take (L.length - 1)).set 0 (gN L (L.length - 1))) 0 (gN L (L.length - 1)) x = gN L x := by
    intro x hx h0
    unfold hole
    rw [if_neg h0, gN_set (by omega), if_neg h0, gN_take hx]
  have e1 : hole ((L.take (L.length - 1)).set 0 (gN L (L.length - 1))) 0 (gN L (L.length - 1)) 0 = gN L (L.length - 1) := by unfold hole; rw [if_pos rfl]
  have ep : put (gI (P.set (gN L 0) (-1))) (gN L (L.length - 1)) ((0 : Nat) : Int) = fun x => if x = gN L (L.length - 1) then 0 else if x = gN L 0 then -1 else gI P x := by
    funext x; unfold put; rw [gI_set (by rw [h.pl]; omega)]; rfl
  have key := down_spec (A := gI A) (n := n) (m := L.length - 1) (q := 0) (k := k) (L := (L.take (L.length - 1)).set 0 (gN L (L.length - 1))) (P := P.set (gN L 0) (-1)) (v := gN L (L.length - 1)) (i := 0) (by omega) (Nat.le_refl _) (by omega) (by simp) (by simp [h.pl]) ?_ ?_
  · refine ⟨key.ll, key.pl, key.hp, key.at_, fun u => ?_⟩
    rw [key.same, ep]
    unfold put
    show (if u = gN L (L.length - 1) then (0 : Int) else if u = gN L 0 then -1 else gI P u) = -1 ↔ _
    by_cases hu : u = gN L (L.length - 1)
    · rw [if_pos hu, if_neg (by rw [hu]; exact hne), hu, c']; omega
    · rw [if_neg hu]
  · refine ⟨fun j h0 hj _ hp => ?_, fun j h0 hj hp hi => by omega⟩
    rw [e0 j hj (by omega), e0 (par j) (by unfold par; omega) hp]
    exact h.hp j h0 (by omega) (Nat.zero_le _)
  · refine ⟨fun i hi => ?_, fun u h1 h2 => ?_⟩
    · by_cases hz : i = 0
      · subst hz
        rw [e1, ep]
        exact ⟨a', b', by show (if _ then _ else _) = _; rw [if_pos rfl]; rfl⟩
      · rw [e0 i hi hz, ep]
        obtain ⟨x, y, z⟩ := h.at_.fst i (by omega)
        refine ⟨x, y, ?_⟩
        show (if gN L i = gN L (L.length - 1) then (0 : Int) else if gN L i = gN L 0 then -1 else gI P (gN L i)) = _
        rw [if_neg (fun e => by have := h.at_.inj (by omega) (by omega) e; omega), if_neg (fun e => hz (h.at_.inj (by omega) (by omega) e))]
        exact z
    · rw [ep]
      show (if u = gN L (L.length - 1) then (0 : Int) else if u = gN L 0 then -1 else gI P u) = -1 ∨ ∃ i, i < L.length - 1 ∧ (if u = gN L (L.length - 1) then (0 : Int) else if u = gN L 0 then -1 else gI P u) = (i : Int) ∧ _
      by_cases hu : u = gN L (L.length - 1)
      · rw [if_pos hu]; right; exact ⟨0, by omega, rfl, by rw [e1, hu]⟩
      · rw [if_neg hu]
        by_cases hu0 : u = gN L 0
        · rw [if_pos hu0]; exact .inl rfl
        · rw [if_neg hu0]
          rcases h.at_.snd u h1 h2 with h3 | ⟨i, hi, h3, h4⟩
          · exact .inl h3
          · have hz : i ≠ 0 := fun e => hu0 (by rw [← h4, e])
            have hz2 : i ≠ L.length - 1 := fun e => hu (by rw [← h4, e])
            exact .inr ⟨i, by omega, h3, by rw [e0 i (by omega) hz]; exact h4⟩

/-- one bumped that isn't in it -/
theorem bump_out {n : Nat} {L : List Nat} {P A : List Int} (h : HSt n L P A) {v : Nat} {a : Int} (h2 : v ≤ n) (hv : gI P v = -1) : HSt n L P (A.set v a) := by
  refine ⟨h.pl, by simp [h.al], fun j h0 hj hk => ?_, h.at_⟩
  have e : ∀ i, i < L.length → gI (A.set v a) (gN L i) = gI A (gN L i) := fun i hi => by
    rw [gI_set (by rw [h.al]; omega), if_neg (h.at_.notin hv hi)]
  have := h.hp j h0 hj hk
  have hp : par j < L.length := by unfold par; omega
  unfold Ah at this ⊢
  rw [e j hj, e _ hp]; exact this
/-- one bumped that is in it -/
theorem bump_in {n : Nat} {L : List Nat} {P A : List Int} (h : HSt n L P A) {v i k : Nat} {a : Int} (hi : i < L.length) (hv : gN L i = v) (ha : gI A v ≤ a) (hk : i ≤ k) :
    Done (gI (A.set v a)) n L.length 0 (gI P) (upL (gI (A.set v a)) k L P v i) := by
  obtain ⟨x, y, z⟩ := h.at_.fst i hi
  rw [hv] at x y z
  have ep : put (gI P) v i = gI P := put_same z
  have eh : hole L i v = gN L := hole_same hv
  have e : ∀ u, gI (A.set v a) u = if u = v then a else gI A u := fun u => gI_set (by rw [h.al]; omega) a u
  have := up_spec (A := gI (A.set v a)) (n := n) (m := L.length) (k := k) (L := L) (P := P) (v := v) (i := i) hk hi rfl h.pl ?_ (by rw [ep, eh]; exact h.at_)
  · rw [ep] at this; exact this
  · rw [eh]
    have ne : ∀ j, j < L.length → j ≠ i → gN L j ≠ v := fun j hj hne e => hne (h.at_.inj hj hi (by rw [e, hv]))
    refine ⟨fun j h0 hj hji => ?_, fun j h0 hj hp h0i => ?_⟩
    · have hq := h.hp j h0 hj (Nat.zero_le _)
      have hp : par j < L.length := by unfold par; omega
      unfold Ah at hq ⊢
      rw [e, e, if_neg (ne j hj hji)]
      by_cases hpi : par j = i
      · rw [hpi, hv, if_pos rfl]
        rw [hpi, hv] at hq; omega
      · rw [if_neg (ne _ hp hpi)]; exact hq
    · have hq := h.hp j h0 hj (Nat.zero_le _)
      have hji : j ≠ i := by unfold par at hp; omega
      have hpi : par i ≠ i := by unfold par; omega
      have hq2 := h.hp i h0i hi (Nat.zero_le _)
      rw [hp] at hq
      have := Ah.not_trans hq hq2
      have hpl : par i < L.length := by unfold par; omega
      unfold Ah at this ⊢
      rw [e, e, if_neg (ne j hj hji), if_neg (ne _ hpl hpi)]; exact this

/-- halving lets the order of the later ones be as it is made -/
theorem halve_step {n q : Nat} {L : List Nat} {P A : List Int} (hA : A.length = n + 1) (hP : P.length = n + 1) (hat : Pl n L.length (gN L) (gI P)) (hh : Hp (gI A) L.length (q + 1) (gN L)) (hq : q < L.length) {k : Nat} (hk : L.length ≤ q + k) :
    Done (gI A) n L.length q (gI P) (downL (gI A) k L P (gN L q) q) := by
  have ep : put (gI P) (gN L q) q = gI P := put_same (hat.fst q hq).2.2
  have eh : hole L q (gN L q) = gN L := hole_same rfl
  have := down_spec (A := gI A) (n := n) (m := L.length) (q := q) (k := k) (L := L) (P := P) (v := gN L q) (i := q) hk (Nat.le_refl _) hq rfl hP ?_ (by rw [ep, eh]; exact hat)
  · rw [ep] at this; exact this
  · rw [eh]
    refine ⟨fun j h0 hj hk hp => hh j h0 hj (by omega), fun j h0 hj hp hi hk => ?_⟩
    unfold par at hk; omega
theorem Hp.far {A : Nat → Int} {m q : Nat} {f : Nat → Nat} (h : m ≤ 2 * q + 1) : Hp A m q f := by
  intro j h0 hj hk
  unfold par at hk; omega
end Go.HeapMath

namespace Go.HeapRun
open Go.Mini Go.HeapMath
set_option linter.unusedVariables false
set_option linter.unusedSimpArgs false

def ints (L : List Int) : List (List V) := L.map fun x => [.int .i64 x]
def nats (L : List Nat) : List (List V) := L.map fun (x : Nat) => [V.int .i64 (x : Int)]
theorem ints_len (L : List Int) : (ints L).length = L.length := by simp [ints]
theorem nats_len (L : List Nat) : (nats L).length = L.length := by simp [nats]
theorem ints_get {L : List Int} {i : Nat} (h : i < L.length) : (ints L)[i]? = some [.int .i64 (gI L i)] := by
  unfold ints; rw [List.getElem?_map, gI_get h]; rfl
theorem nats_get {L : List Nat} {i : Nat} (h : i < L.length) : (nats L)[i]? = some [.int .i64 (gN L i : Int)] := by
  unfold nats; rw [List.getElem?_map, gN_get h]; rfl
theorem ints_set {L : List Int} {i : Nat} {x : Int} : (ints L).set i [.int .i64 x] = ints (L.set i x) := by
  unfold ints; rw [← List.map_set]
theorem nats_set {L : List Nat} {i x : Nat} : (nats L).set i [.int .i64 (x : Int)] = nats (L.set i x) := by
  unfold nats; rw [← List.map_set]

/-- numbers, cell by cell, in block bb, as a slice v -/
def Arr (h : H) (v : V) (els : List (List V)) (bb : Nat) : Prop :=
  ∃ c row junk, v = .os bb row.cur 1 0 els.length c ∧ h[bb]? = some (.row row) ∧ row.sz = 1 ∧ row.rd ≤ row.cur ∧ row.els = els ++ junk

/-- a call, what it answers, and what of the memory behind it -/
def Does (E : Env) (f : FuncId) (args : List V) (h : H) (v : V) (Q : H → Prop) : Prop := ∃ r w h', Calls' E f args h ⟨v, h', r, w⟩ ∧ Q h'
theorem does_intro {E : Env} {f : FuncId} {args : List V} {h h' : H} {v : V} {r w : List Nat} {Q : H → Prop} (hc : Calls' E f args h ⟨v, h', r, w⟩) (hq : Q h') : Does E f args h v Q := ⟨r, w, h', hc, hq⟩
/-- nothing that was there has turned but these blocks -/
def Keeps (h h' : H) (bs : List Nat) : Prop := h.length ≤ h'.length ∧ ∀ c, c < h.length → c ∉ bs → h'[c]? = h[c]?
theorem Keeps.refl (h : H) (bs : List Nat) : Keeps h h bs := ⟨Nat.le_refl _, fun _ _ _ => rfl⟩
theorem Keeps.trans {h h1 h2 : H} {bs : List Nat} (a : Keeps h h1 bs) (b : Keeps h1 h2 bs) : Keeps h h2 bs :=
  ⟨Nat.le_trans a.1 b.1, fun c hc hn => (b.2 c (by have := a.1; omega) hn).trans (a.2 c hc hn)⟩
theorem Keeps.mono {h h' : H} {bs cs : List Nat} (a : Keeps h h' bs) (hs : ∀ x ∈ bs, x ∈ cs) : Keeps h h' cs := ⟨a.1, fun c hc hn => a.2 c hc fun hx => hn (hs c hx)⟩
theorem Keeps.set {h : H} {bb : Nat} {o : Ob} {bs : List Nat} (hb : bb ∈ bs) : Keeps h (h.set bb o) bs :=
  ⟨by simp, fun c hc hn => List.getElem?_set_ne (fun e => hn (by rw [← e]; exact hb))⟩
theorem Keeps.push {h : H} {o : Ob} {bs : List Nat} : Keeps h (h ++ [o]) bs := ⟨by simp, fun c hc hn => List.getElem?_append_left hc⟩

theorem Arr.frame {h h' : H} {v : V} {els : List (List V)} {bb : Nat} {bs : List Nat} (a : Arr h v els bb) (f : Keeps h h' bs) (hn : bb ∉ bs) : Arr h' v els bb := by
  obtain ⟨c, row, junk, e1, e2, e3, e4, e5⟩ := a
  exact ⟨c, row, junk, e1, by rw [f.2 bb (List.getElem?_eq_some_iff.1 e2).1 hn]; exact e2, e3, e4, e5⟩
theorem Arr.lt {h : H} {v : V} {els : List (List V)} {bb : Nat} (a : Arr h v els bb) : bb < h.length := by
  obtain ⟨c, row, junk, e1, e2, e3, e4, e5⟩ := a
  exact (List.getElem?_eq_some_iff.1 e2).1

def noClip : V → Prop
  | .os _ _ _ _ _ c => c = false
  | _ => True
/-- the heap whose struct lies in block b -/
structure HeapAt (h : H) (b bL bP bA : Nat) (L : List Nat) (P A : List Int) : Prop where
  top : ∃ lv pv av, h[b]? = some (.row ⟨3, [[lv, pv, av]], 0, 0⟩) ∧ ((lv = .nils ∧ L = [] ∧ P.length = 1) ∨ Arr h lv (nats L) bL) ∧ Arr h pv (ints P) bP ∧ Arr h av (ints A) bA ∧ noClip lv
  n1 : b ≠ bL
  n2 : b ≠ bP
  n3 : b ≠ bA
  n4 : bL ≠ bP
  n5 : bL ≠ bA
  n6 : bP ≠ bA
theorem HeapAt.frame {h h' : H} {b bL bP bA : Nat} {L : List Nat} {P A : List Int} {bs : List Nat} (a : HeapAt h b bL bP bA L P A) (f : Keeps h h' bs) (h1 : b ∉ bs) (h2 : bL ∉ bs) (h3 : bP ∉ bs) (h4 : bA ∉ bs) : HeapAt h' b bL bP bA L P A := by
  obtain ⟨⟨lv, pv, av, e1, e2, e3, e4, e5⟩, n1, n2, n3, n4, n5, n6⟩ := a
  refine ⟨⟨lv, pv, av, by rw [f.2 b (List.getElem?_eq_some_iff.1 e1).1 h1]; exact e1, ?_, e3.frame f h3, e4.frame f h4, e5⟩, n1, n2, n3, n4, n5, n6⟩
  rcases e2 with e2 | e2
  · exact .inl e2
  · exact .inr (e2.frame f h2)

theorem Arr.of_set {h : H} {v : V} {els els' junk : List (List V)} {bb : Nat} {c : Bool} {row : Row} (e1 : v = .os bb row.cur 1 0 els.length c) (e2 : h[bb]? = some (.row row)) (e3 : row.sz = 1) (hl : els'.length = els.length) : Arr (h.set bb (.row ⟨row.sz, els' ++ junk, row.cur, row.cur⟩)) v els' bb :=
  ⟨c, ⟨row.sz, els' ++ junk, row.cur, row.cur⟩, junk, by rw [hl]; exact e1, List.getElem?_set_self (List.getElem?_eq_some_iff.1 e2).1, e3, Nat.le_refl _, rfl⟩
section
variable {E : Env} {t : List V} {h : H} {x y a : Opd} {n : Int} {k : IntKind} {els : List (List V)} {v : V} {bb : Nat}
/-- the address of an element -/
theorem arr_iaddr (ha : Arr h v els bb) (hx : ev E.G t x = some v) (hy : ev E.G t y = some (.int k n)) (h0 : 0 ≤ n) (h1 : n < els.length) : ∃ vv, Ops E t (.iaddr 1 x y) h ⟨.ptr bb vv n.toNat 0, h, [], []⟩ ∧ ∃ row junk, h[bb]? = some (.row row) ∧ row.sz = 1 ∧ row.rd ≤ row.cur ∧ row.els = els ++ junk ∧ vv = row.cur := by
  obtain ⟨c, row, junk, e1, e2, e3, e4, e5⟩ := ha
  subst e1
  exact ⟨row.cur, ops_iaddr hx hy h0 h1 rfl (by omega), row, junk, e2, e3, e4, e5, rfl⟩
theorem arr_load {row : Row} {junk : List (List V)} {i : Nat} {el : List V} {u : V} (hb : h[bb]? = some (.row row)) (hr : row.rd ≤ row.cur) (he : row.els = els ++ junk) (hi : els[i]? = some el) (hu : loadC none el = some u) (hx : ev E.G t x = some (.ptr bb row.cur i 0)) : Ops E t (.load none x) h ⟨u, h, [bb], []⟩ := by
  refine ops_load hx (rowAt_of hb hr (Nat.le_refl _)) (el := el) ?_ hu
  rw [he, List.getElem?_append_left (List.getElem?_eq_some_iff.1 hi).1]; exact hi
theorem arr_store {row : Row} {junk : List (List V)} {i : Nat} {el : List V} {u : V} (hb : h[bb]? = some (.row row)) (hr : row.rd ≤ row.cur) (he : row.els = els ++ junk) (hi : els[i]? = some el) (hl : el.length = 1) (hx : ev E.G t x = some (.ptr bb row.cur i 0)) (hy : ev E.G t y = some u) (hu : u.isCell = true) (hc : u.cells = [u]) (hlies : u.lies = true) :
    Ops E t (.store 1 x y) h ⟨.undef, h.set bb (.row ⟨row.sz, els.set i [u] ++ junk, row.cur, row.cur⟩), [], [bb]⟩ := by
  have hlt := (List.getElem?_eq_some_iff.1 hi).1
  refine ops_store hx hy (rowAt_of hb hr (Nat.le_refl _)) rfl (by rw [hc]; rfl) hlies (el := el) ?_ (by omega) ?_
  · rw [he, List.getElem?_append_left hlt]; exact hi
  · have : setFrom el 0 u.cells = [u] := by
      rw [hc]; unfold setFrom
      rw [List.take_zero, List.drop_of_length_le (by simp; omega)]; rfl
    rw [this, he, List.set_append_left _ _ hlt]
end
end Go.HeapRun

namespace Go.Mini
set_option linter.unusedVariables false
set_option linter.unusedSimpArgs false
variable {E : Env} {n0 : Nat} {c d : MCode} {s s1 : St} {p q : Ex × St} {e e' : Ex}
/-- what comes behind a part -/
def Cont (E : Env) (n0 : Nat) (d : MCode) (q p : Ex × St) : Prop := match q with
  | (.normal, s1) => Runs E n0 d s1 p
  | q => q = p
theorem cont_norm (h : Runs E n0 d s1 p) : Cont E n0 d (.normal, s1) p := h
theorem cont_ret : Cont E n0 d (.ret, s1) (.ret, s1) := rfl
theorem cont_exit {id : Nat} : Cont E n0 d (.exit id, s1) (.exit id, s1) := rfl
theorem gg_seq (hc : Runs E n0 c s q) (hd : Cont E n0 d q p) : Runs E n0 (.seq c d) s p := by
  obtain ⟨e, s1⟩ := q
  cases e with
  | normal => exact go_seq hc hd
  | exit id => cases hd; exact go_stop (by simp) hc
  | ret => cases hd; exact go_stop (by simp) hc
theorem gg_loop (hc : Runs E n0 c s q) (hd : Cont E n0 (.loop c) q p) : Runs E n0 (.loop c) s p := by
  obtain ⟨e, s1⟩ := q
  cases e with
  | normal => exact go_loop hc hd
  | exit id => cases hd; exact go_break (by simp) hc
  | ret => cases hd; exact go_break (by simp) hc
def outOf (id : Nat) : Ex → Ex
  | .exit i => if i = id then .normal else .exit i
  | e => e
theorem gg_block {id : Nat} (hc : Runs E n0 c s (e, s1)) (he : outOf id e = e') : Runs E n0 (.block id c) s (e', s1) := by
  subst he
  cases e with
  | normal => exact go_block hc (fun h => by cases h)
  | ret => exact go_block hc (fun h => by cases h)
  | exit i =>
    by_cases hi : i = id
    · have : outOf id (.exit i) = .normal := by simp [outOf, hi]
      rw [this]; subst hi; exact go_leave hc
    · have : outOf id (.exit i) = .exit i := by simp [outOf, hi]
      rw [this]; exact go_block hc (fun h => hi (by cases h; rfl))
variable {t : List V} {h : H} {x y a : Opd} {k : IntKind}
theorem ops_iaddrN {bb v sz m' s u : Nat} {c : Bool} (hx : ev E.G t x = some (.os bb v sz 0 m' c)) (hy : ev E.G t y = some (.int k (u : Int))) (h1 : u < m') (hs : sz = s) : Ops E t (.iaddr s x y) h ⟨.ptr bb v u 0, h, [], []⟩ :=
  ops_iaddr hx hy (by omega) (by omega) hs (by omega)
theorem arr_loadN {bb i : Nat} {row : Row} {els junk : List (List V)} {el : List V} {u : V} (hx : ev E.G t x = some (.ptr bb row.cur i 0)) (hb : h[bb]? = some (.row row)) (hr : row.rd ≤ row.cur) (he : row.els = els ++ junk) (hi : els[i]? = some el) (hu : loadC none el = some u) : Ops E t (.load none x) h ⟨u, h, [bb], []⟩ :=
  Go.HeapRun.arr_load hb hr he hi hu hx
theorem arr_storeN {bb i : Nat} {row : Row} {els junk : List (List V)} {el : List V} {u : V} {h' : H} (hx : ev E.G t x = some (.ptr bb row.cur i 0)) (hy : ev E.G t y = some u) (hb : h[bb]? = some (.row row)) (hr : row.rd ≤ row.cur) (he : row.els = els ++ junk) (hi : els[i]? = some el) (hl : el.length = 1) (hu : u.isCell = true) (hc : u.cells = [u]) (hlies : u.lies = true)
    (hh : h.set bb (.row ⟨row.sz, els.set i [u] ++ junk, row.cur, row.cur⟩) = h') : Ops E t (.store 1 x y) h ⟨.undef, h', [], [bb]⟩ := by
  subst hh; exact Go.HeapRun.arr_store hb hr he hi hl hx hy hu hc hlies
theorem allW_same {v : V} {r w : List Nat} : allW h ⟨v, h, r, w⟩ = w := by simp [allW]
theorem allW_set {v : V} {r w : List Nat} {b : Nat} {o : Ob} : allW h ⟨v, h.set b o, r, w⟩ = w := by simp [allW]
theorem allW_push {v : V} {r w : List Nat} {o : Ob} : allW h ⟨v, h ++ [o], r, w⟩ = w ++ [h.length] := by simp [allW, List.range']
theorem ops_struct {bb o n : Nat} {row : Row} {el : List V} {u : V} {h' : H} (ha : ev E.G t a = some (.ptr bb 0 0 o)) (hx : ev E.G t x = some u) (hb : h[bb]? = some (.row row)) (hc : row.cur = 0) (hd : row.rd = 0) (hn : u.cells.length = n) (hl : u.lies = true) (he : row.els[0]? = some el) (ho : o + n ≤ el.length) (hh : h.set bb (.row ⟨row.sz, row.els.set 0 (setFrom el o u.cells), 0, 0⟩) = h') : Ops E t (.store n a x) h ⟨.undef, h', [], [bb]⟩ := by
  subst hh
  refine ops_store ha hx (rowAt_of hb (by omega) (by omega)) hc.symm hn hl he ho ?_
  obtain ⟨sz, els, cur, rd⟩ := row
  simp only at hc hd ⊢
  subst hc; rfl
theorem ops_bslice1 {z u : V} (hx : ev E.G t x = some u) (hu : u.cells = [u]) (hl : u.lies = true) : Ops E t (.bslice 1 1 [z] [(0, 1, x)]) h ⟨.os h.length 0 1 0 1 true, h ++ [.row ⟨1, [[u]], 0, 0⟩], [], []⟩ := by
  refine ops_of ?_
  have e1 : evP E.G t [(0, 1, x)] = some [(0, 1, u)] := by simp only [evP, hx]
  have e2 : fillV (List.replicate 1 [z]).flatten [(0, 1, u)] = some [u] := by
    simp [fillV, hu, hl, setFrom]
  simp only [opV, op_bslice, e1, e2]
  rfl
theorem ops_push {bb bt n : Nat} {row : Row} {els junk : List (List V)} {u : V} {h' : H} (hs : ev E.G t y = some (.os bb row.cur 1 0 n false)) (hx : ev E.G t x = some (.os bt 0 1 0 1 true)) (ht : h[bt]? = some (.row ⟨1, [[u]], 0, 0⟩)) (hb : h[bb]? = some (.row row)) (hr : row.rd ≤ row.cur) (hz : row.sz = 1) (he : row.els = els ++ junk) (hn : els.length = n) (hbig : n ≤ 1000000)
    (hh : h.set bb (.row ⟨1, els ++ [[u]], row.cur + 1, if 0 + n = row.els.length then row.rd else row.cur + 1⟩) = h') : Ops E t (.append 1 8 y x) h ⟨.os bb (row.cur + 1) 1 0 (n + 1) false, h', [bt], [bb]⟩ := by
  subst hh
  refine ops_of ?_
  have h1 : sources 1 h (.os bt 0 1 0 1 true) = some ([[u]], [bt]) := by
    simp only [sources, elems, rowAt_of ht (Nat.le_refl _) (Nat.le_refl _)]
    rfl
  have h2 : rowAt h bb row.cur = some row := rowAt_of hb hr (Nat.le_refl _)
  simp only [opV, op_append, hs, hx, appendV, h1, h2]
  have hl : 0 + n ≤ row.els.length := by rw [he]; simp; omega
  have htake : row.els.take (0 + n) = els := by rw [he, Nat.zero_add, ← hn, List.take_left]
  simp only [List.isEmpty_cons, Bool.false_eq_true, if_false]
  rw [if_pos ⟨trivial, hz, hl, by simp; omega⟩]
  simp only [if_true, htake, List.length_singleton]
theorem ops_cutN {bb n v : Nat} {hi : Opd} {k' : Nat} (hx : ev E.G t x = some (.os bb v 1 0 n false)) (hy : ev E.G t hi = some (.int .i64 (k' : Int))) (hk : k' ≤ n) : Ops E t (.cut 1 x none (some hi) none) h ⟨.os bb v 1 0 k' false, h, [], []⟩ := by
  refine ops_of ?_
  have e1 : boundOf E.G t n (some hi) = some k' := by
    simp only [boundOf, hy, asNat]; rw [if_pos (by omega)]; simp
  have e0 : boundOf E.G t 0 none = some 0 := rfl
  simp only [opV, op_cut, hx, cutV, e0, e1]
  rw [if_pos ⟨Nat.zero_le _, hk, trivial⟩]; simp [one]
theorem free_nil {m : Nat} {r w : List Nat} : freeAt m r w [] = true := rfl
theorem free_mask {m i : Nat} {r w r' w' : List Nat} {fs : List (Nat × List Nat × List Nat)} (h1 : m.testBit i = true) (h2 : freeAt m r w fs = true) : freeAt m r w ((i, r', w') :: fs) = true := by simp [freeAt, h1, h2]
theorem free_ne {m i : Nat} {r w r' w' : List Nat} {fs : List (Nat × List Nat × List Nat)} (h1 : clash r w r' w' = false) (h2 : freeAt m r w fs = true) : freeAt m r w ((i, r', w') :: fs) = true := by simp [freeAt, h1, h2]
theorem note_same {v : V} {j : Nat} {fs : List (Nat × List Nat × List Nat)} : note j [] (allW h ⟨v, h, [], []⟩) fs = fs := by rw [allW_same]; rfl
theorem note_read {v : V} {j a : Nat} {r w : List Nat} {fs : List (Nat × List Nat × List Nat)} : note j (a :: r) (allW h ⟨v, h, a :: r, w⟩) fs = (j, a :: r, w) :: fs := by rw [allW_same]; rfl
theorem note_set {v : V} {j a b : Nat} {o : Ob} {w : List Nat} {fs : List (Nat × List Nat × List Nat)} : note j [] (allW h ⟨v, h.set b o, [], a :: w⟩) fs = (j, [], a :: w) :: fs := by rw [allW_set]; rfl
theorem note_push {v : V} {j : Nat} {o : Ob} {fs : List (Nat × List Nat × List Nat)} : note j [] (allW h ⟨v, h ++ [o], [], []⟩) fs = (j, [], [h.length]) :: fs := by rw [allW_push]; rfl
theorem draws_go2 {ms : List MOper} {s' : St} {dst : Option Nat} {op : MOp} {g : Option (Nat × Bool)} {t t1 : List V} {h h1 : H} {r r1 r2 w w1 w2 : List Nat} {v : V} {j m : Nat} {masks : List Nat} {fs fs' : List (Nat × List Nat × List Nat)} (hw : wantedV t g = true) (hx : Ops E t op h ⟨v, h1, r1, w1⟩) (ht : putV t dst v = t1) (hr : uni n0 r1 r = r2) (hww : uni n0 w1 w = w2) (hf : freeAt m r1 (allW h ⟨v, h1, r1, w1⟩) fs = true) (hn : note j r1 (allW h ⟨v, h1, r1, w1⟩) fs = fs') (hk : Draws E n0 ms (j + 1) masks fs' ⟨t1, h1, r2, w2⟩ s') : Draws E n0 (⟨dst, op, g⟩ :: ms) j (m :: masks) fs ⟨t, h, r, w⟩ s' := draws_go hw hx hf hn ht hr hww hk
end Go.Mini

namespace Go.Mini
open Go.HeapRun
set_option linter.unusedVariables false
set_option linter.unusedSimpArgs false
def RQ (E : Env) (n0 : Nat) (c : MCode) (s : St) (Q : Ex → St → Prop) : Prop := ∃ e s1, Runs E n0 c s (e, s1) ∧ Q e s1
def GQ (E : Env) (n0 : Nat) (ms : List MOper) (s : St) (Q : St → Prop) : Prop := ∃ s1, Regs E n0 ms s s1 ∧ Q s1
def DQ (E : Env) (n0 : Nat) (ms : List MOper) (j : Nat) (masks : List Nat) (fs : List (Nat × List Nat × List Nat)) (s : St) (Q : St → Prop) : Prop := ∃ s1, Draws E n0 ms j masks fs s s1 ∧ Q s1
def K (E : Env) (n0 : Nat) (d : MCode) (Q : Ex → St → Prop) (e : Ex) (s : St) : Prop := match e with
  | .normal => RQ E n0 d s Q
  | e => Q e s
section
variable {E : Env} {n0 : Nat} {c d : MCode} {s s1 : St} {Q : Ex → St → Prop} {R : St → Prop} {ms : List MOper} {x : Opd}
theorem k_norm (h : RQ E n0 d s Q) : K E n0 d Q .normal s := h
theorem k_ret (h : Q .ret s) : K E n0 d Q .ret s := h
theorem k_exit {i : Nat} (h : Q (.exit i) s) : K E n0 d Q (.exit i) s := h
theorem q_seq (h : RQ E n0 c s (K E n0 d Q)) : RQ E n0 (.seq c d) s Q := by
  obtain ⟨e, s1, h1, h2⟩ := h
  cases e with
  | normal => obtain ⟨e2, s2, h3, h4⟩ := h2; exact ⟨e2, s2, go_seq h1 h3, h4⟩
  | exit i => exact ⟨_, _, go_stop (by simp) h1, h2⟩
  | ret => exact ⟨_, _, go_stop (by simp) h1, h2⟩
theorem q_loop (h : RQ E n0 c s (K E n0 (.loop c) Q)) : RQ E n0 (.loop c) s Q := by
  obtain ⟨e, s1, h1, h2⟩ := h
  cases e with
  | normal => obtain ⟨e2, s2, h3, h4⟩ := h2; exact ⟨e2, s2, go_loop h1 h3, h4⟩
  | exit i => exact ⟨_, _, go_break (by simp) h1, h2⟩
  | ret => exact ⟨_, _, go_break (by simp) h1, h2⟩
def B (id : Nat) (Q : Ex → St → Prop) (e : Ex) (s : St) : Prop := Q (outOf id e) s
theorem b_norm {id : Nat} (h : Q .normal s) : B id Q .normal s := h
theorem b_ret {id : Nat} (h : Q .ret s) : B id Q .ret s := h
theorem b_leave {id : Nat} (h : Q .normal s) : B id Q (.exit id) s := by simp only [B, outOf, if_true]; exact h
theorem b_exit {id i : Nat} (hi : i ≠ id) (h : Q (.exit i) s) : B id Q (.exit i) s := by simp only [B, outOf, if_neg hi]; exact h
theorem q_block {id : Nat} (h : RQ E n0 c s (B id Q)) : RQ E n0 (.block id c) s Q := by
  obtain ⟨e, s1, h1, h2⟩ := h
  exact ⟨_, _, gg_block h1 rfl, h2⟩
theorem q_mono {Q' : Ex → St → Prop} (h : RQ E n0 c s Q') (k : ∀ e s, Q' e s → Q e s) : RQ E n0 c s Q := by
  obtain ⟨e, s1, h1, h2⟩ := h
  exact ⟨e, s1, h1, k _ _ h2⟩
theorem q_reg (h : GQ E n0 ms s (Q .normal)) : RQ E n0 (.reg ms) s Q := by
  obtain ⟨s1, h1, h2⟩ := h; exact ⟨_, _, go_reg h1, h2⟩
theorem q_draw {masks : List Nat} (h : DQ E n0 ms 0 masks [] s (Q .normal)) : RQ E n0 (.draw ms masks) s Q := by
  obtain ⟨s1, h1, h2⟩ := h; exact ⟨_, _, go_draw h1, h2⟩
theorem q_ret (h : Q .ret s) : RQ E n0 .ret s Q := ⟨_, _, go_ret, h⟩
theorem q_skip (h : Q .normal s) : RQ E n0 .skip s Q := ⟨_, _, go_skip, h⟩
theorem q_exit {i : Nat} (h : Q (.exit i) s) : RQ E n0 (.exit i) s Q := ⟨_, _, go_exit, h⟩
theorem q_true (hv : ev E.G s.t x = some (.bool true)) (h : RQ E n0 c s Q) : RQ E n0 (.cond x c d) s Q := by
  obtain ⟨e, s1, h1, h2⟩ := h; exact ⟨_, _, go_true hv h1, h2⟩
theorem q_false (hv : ev E.G s.t x = some (.bool false)) (h : RQ E n0 d s Q) : RQ E n0 (.cond x c d) s Q := by
  obtain ⟨e, s1, h1, h2⟩ := h; exact ⟨_, _, go_false hv h1, h2⟩
theorem g_nil (h : R s) : GQ E n0 [] s R := ⟨_, regs_nil, h⟩
theorem d_nil {j : Nat} {masks : List Nat} {fs : List (Nat × List Nat × List Nat)} (h : R s) : DQ E n0 [] j masks fs s R := ⟨_, draws_nil, h⟩
variable {dst : Option Nat} {op : MOp} {g : Option (Nat × Bool)} {t t1 : List V} {h h1 : H} {r r1 w w1 : List Nat} {v : V}
theorem g_go (hw : wantedV t g = true) (hx : Ops E t op h ⟨v, h1, r1, w1⟩) (ht : putV t dst v = t1) (hk : GQ E n0 ms ⟨t1, h1, uni n0 r1 r, uni n0 w1 w⟩ R) : GQ E n0 (⟨dst, op, g⟩ :: ms) ⟨t, h, r, w⟩ R := by
  obtain ⟨s1, k1, k2⟩ := hk; exact ⟨s1, regs_go hw hx ht rfl rfl k1, k2⟩
theorem g_skip (hw : wantedV t g = false) (ht : putV t dst .undef = t1) (hk : GQ E n0 ms ⟨t1, h, r, w⟩ R) : GQ E n0 (⟨dst, op, g⟩ :: ms) ⟨t, h, r, w⟩ R := by
  obtain ⟨s1, k1, k2⟩ := hk; exact ⟨s1, regs_skip hw ht k1, k2⟩
theorem g_call {f : FuncId} {xs : List Opd} {cap as : List V} {D : H → Prop} (hw : wantedV t g = true) (hx : ev E.G t x = some (.fn f cap)) (ha : evs E.G t xs = some as) (hc : Does E f (as ++ cap) h v D) (ht : putV t dst v = t1) (hk : ∀ r1 w1 h1, D h1 → GQ E n0 ms ⟨t1, h1, uni n0 r1 r, uni n0 w1 w⟩ R) : GQ E n0 (⟨dst, .call x xs, g⟩ :: ms) ⟨t, h, r, w⟩ R := by
  obtain ⟨r1, w1, h1, k1, k2⟩ := hc
  exact g_go hw (ops_call hx ha k1) ht (hk r1 w1 h1 k2)
theorem g_read {f : FuncId} {xs : List Opd} {cap as : List V} (hw : wantedV t g = true) (hx : ev E.G t x = some (.fn f cap)) (ha : evs E.G t xs = some as) (hc : ∃ r, Calls' E f (as ++ cap) h ⟨v, h, r, []⟩) (ht : putV t dst v = t1) (hk : ∀ r1, GQ E n0 ms ⟨t1, h, uni n0 r1 r, w⟩ R) : GQ E n0 (⟨dst, .call x xs, g⟩ :: ms) ⟨t, h, r, w⟩ R := by
  obtain ⟨r1, k1⟩ := hc
  exact g_go hw (ops_call hx ha k1) ht (hk r1)
theorem free_empty {m : Nat} : ∀ {fs : List (Nat × List Nat × List Nat)}, freeAt m [] [] fs = true
  | [] => rfl
  | (i, r', w') :: rest => by simp [freeAt, clash, meets, free_empty]
theorem free_reads {m : Nat} {r : List Nat} : ∀ {fs : List (Nat × List Nat × List Nat)}, (fs.all fun x => x.2.2.isEmpty) = true → freeAt m r [] fs = true
  | [], _ => rfl
  | (i, r', w') :: rest, hf => by
    simp only [List.all_cons, Bool.and_eq_true, List.isEmpty_iff] at hf
    have : meets r ([] : List Nat) = false := by simp [meets]
    simp [freeAt, clash, meets, hf.1, free_reads hf.2]
theorem d_go {j m : Nat} {masks : List Nat} {fs fs' : List (Nat × List Nat × List Nat)} (hw : wantedV t g = true) (hx : Ops E t op h ⟨v, h1, r1, w1⟩) (hf : freeAt m r1 (allW h ⟨v, h1, r1, w1⟩) fs = true) (hn : note j r1 (allW h ⟨v, h1, r1, w1⟩) fs = fs') (ht : putV t dst v = t1) (hk : DQ E n0 ms (j + 1) masks fs' ⟨t1, h1, uni n0 r1 r, uni n0 w1 w⟩ R) : DQ E n0 (⟨dst, op, g⟩ :: ms) j (m :: masks) fs ⟨t, h, r, w⟩ R := by
  obtain ⟨s1, k1, k2⟩ := hk; exact ⟨s1, draws_go hw hx hf hn ht rfl rfl k1, k2⟩
theorem d_go2 {j m : Nat} {masks : List Nat} {fs fs' : List (Nat × List Nat × List Nat)} (hw : wantedV t g = true) (hx : Ops E t op h ⟨v, h1, r1, w1⟩) (ht : putV t dst v = t1) (hf : freeAt m r1 (allW h ⟨v, h1, r1, w1⟩) fs = true) (hn : note j r1 (allW h ⟨v, h1, r1, w1⟩) fs = fs') (hk : DQ E n0 ms (j + 1) masks fs' ⟨t1, h1, uni n0 r1 r, uni n0 w1 w⟩ R) : DQ E n0 (⟨dst, op, g⟩ :: ms) j (m :: masks) fs ⟨t, h, r, w⟩ R := d_go hw hx hf hn ht hk
/-- whatever was drawn before may come first -/
theorem free_mask_all {m : Nat} {r w : List Nat} : ∀ {fs : List (Nat × List Nat × List Nat)}, (∀ x ∈ fs, m.testBit x.1 = true) → freeAt m r w fs = true
  | [], _ => rfl
  | (i, r', w') :: rest, hf => by
    have h1 := hf (i, r', w') (by simp)
    simp only at h1
    simp [freeAt, h1, free_mask_all (fs := rest) fun x hx => hf x (by simp [hx])]
theorem d_skip {j m : Nat} {masks : List Nat} {fs : List (Nat × List Nat × List Nat)} (hw : wantedV t g = false) (ht : putV t dst .undef = t1) (hk : DQ E n0 ms (j + 1) masks fs ⟨t1, h, r, w⟩ R) : DQ E n0 (⟨dst, op, g⟩ :: ms) j (m :: masks) fs ⟨t, h, r, w⟩ R := by
  obtain ⟨s1, k1, k2⟩ := hk; exact ⟨s1, draws_skip hw ht k1, k2⟩
theorem d_read {f : FuncId} {xs : List Opd} {cap as : List V} {j m : Nat} {masks : List Nat} {fs : List (Nat × List Nat × List Nat)} (hw : wantedV t g = true) (hx : ev E.G t x = some (.fn f cap)) (ha : evs E.G t xs = some as) (hc : ∃ r, Calls' E f (as ++ cap) h ⟨v, h, r, []⟩) (hfs : (fs.all fun x => x.2.2.isEmpty) = true) (ht : putV t dst v = t1) (hk : ∀ r1 fs', DQ E n0 ms (j + 1) masks fs' ⟨t1, h, uni n0 r1 r, w⟩ R) : DQ E n0 (⟨dst, .call x xs, g⟩ :: ms) j (m :: masks) fs ⟨t, h, r, w⟩ R := by
  obtain ⟨r1, k1⟩ := hc
  refine d_go hw (ops_call hx ha k1) ?_ rfl ht (hk r1 _)
  rw [allW_same]; exact free_reads hfs
theorem d_first {f : FuncId} {xs : List Opd} {cap as : List V} {D : H → Prop} {j m : Nat} {masks : List Nat} (hw : wantedV t g = true) (hx : ev E.G t x = some (.fn f cap)) (ha : evs E.G t xs = some as) (hc : Does E f (as ++ cap) h v D) (ht : putV t dst v = t1) (hk : ∀ r1 w1 h1 fs', D h1 → DQ E n0 ms (j + 1) masks fs' ⟨t1, h1, uni n0 r1 r, uni n0 w1 w⟩ R) : DQ E n0 (⟨dst, .call x xs, g⟩ :: ms) j (m :: masks) [] ⟨t, h, r, w⟩ R := by
  obtain ⟨r1, w1, h1, k1, k2⟩ := hc
  exact d_go hw (ops_call hx ha k1) rfl rfl ht (hk r1 w1 h1 _ k2)
end
theorem uni_zero : ∀ {a b : List Nat}, uni 0 a b = b
  | [], _ => rfl
  | x :: a, b => by
    unfold uni
    rw [if_neg (Nat.not_lt_zero x)]; exact uni_zero
/-- a call in the mode 'keep' -/
theorem does_keep {E : Env} {f : FuncId} {args t0 : List V} {h : H} {nt : Nat} {body : MCode} {res : List MRes} {v : V} {D : H → Prop} (hm : E.mode f = .keep) (hf : E.fn f = some ⟨nt, body, res⟩) (h0 : args ++ List.replicate (nt - args.length) .undef = t0) (hg : RQ E h.length body ⟨t0, h, [], []⟩ fun e s => (e = .ret ∨ e = .normal) ∧ ∃ vs r1, resV s.h s.t res = some (vs, r1) ∧ tupV vs = v ∧ D s.h) : Does E f args h v D := by
  obtain ⟨e, s, h1, he, vs, r1, h2, h3, h4⟩ := hg
  refine does_intro (r := uni h.length r1 s.r) (w := s.w) (calls_keep hm hf h0 h1 he ?_) h4
  simp only [callRes, h2, callOut, cond_true, h3]
theorem pures_q {E : Env} {nt : Nat} {body : MCode} {res : List MRes} {f : FuncId} {args t0 : List V} {v : V} (hm : E.memo f args = none) (hf : E.fn f = some ⟨nt, body, res⟩) (h0 : args ++ List.replicate (nt - args.length) .undef = t0)
    (hg : RQ E 0 body ⟨t0, [], [], []⟩ fun e s => (e = .ret ∨ e = .normal) ∧ s.w = [] ∧ ∃ r1 b, resV s.h s.t res = some ([.bool b], r1) ∧ V.bool b = v) : Pures E f args v := by
  obtain ⟨e, s, h1, he, hw, r1, b, h2, h3⟩ := hg
  subst h3
  refine pures_run hm hf h0 h1 he (x := ⟨.bool b, [], uni 0 r1 s.r, []⟩) ?_ rfl
  have : fzBlk 0 s.h [] (s.h.take 0) = some [] := rfl
  have h5 : fz 0 s.h 100 false (.bool b) = some (.bool b) := rfl
  simp only [callRes, h2, callOut, cond_false, tupV, h5, this, hw]
end Go.Mini

namespace Go.Mini
set_option linter.all false
variable {G : Nat → Option V} {C : FuncId → List V → H → Option Res}
theorem regV_w : ∀ {ms : List MOper} {s s' : St}, regV G C 0 ms s = some s' → s'.w = s.w
  | [], s, s', h => by simp only [regV, Option.some.injEq] at h; rw [h]
  | o :: ms, s, s', h => by
    simp only [regV] at h
    cases hw : wantedV s.t o.guard
    · rw [hw] at h; simp only [cond_false] at h
      have := regV_w h
      exact this
    · rw [hw] at h; simp only [cond_true] at h
      rcases hq : opV G C s.t o.op s.h with _ | r
      · rw [hq] at h; cases h
      · rw [hq] at h
        have := regV_w h
        rw [this]; simp only [regPut, uni_zero]
theorem drawV_w : ∀ {ms : List MOper} {j : Nat} {masks : List Nat} {fs : List (Nat × List Nat × List Nat)} {s s' : St}, drawV G C 0 ms j masks fs s = some s' → s'.w = s.w
  | [], j, masks, fs, s, s', h => by simp only [drawV, Option.some.injEq] at h; rw [h]
  | o :: ms, j, [], fs, s, s', h => by simp [drawV] at h
  | o :: ms, j, m :: masks, fs, s, s', h => by
    simp only [drawV] at h
    cases hw : wantedV s.t o.guard
    · rw [hw] at h; simp only [cond_false] at h
      have := drawV_w h
      exact this
    · rw [hw] at h; simp only [cond_true] at h
      rcases hq : opV G C s.t o.op s.h with _ | r
      · rw [hq] at h; cases h
      · rw [hq] at h
        simp only [drawStep] at h
        cases hf : freeAt m r.r (allW s.h r) fs
        · rw [hf] at h; cases h
        · rw [hf] at h; simp only [cond_true] at h
          have := drawV_w h
          rw [this]; simp only [regPut, uni_zero]
theorem exec_w : ∀ {k : Nat} {c : MCode} {s : St} {e : Ex} {s' : St}, exec G C 0 k c s = some (e, s') → s'.w = s.w
  | 0, c, s, e, s', h => by cases h
  | k + 1, c, s, e, s', h => by
    simp only [exec] at h
    cases c with
    | skip => cases h; rfl
    | ret => cases h; rfl
    | exit id => cases h; rfl
    | seq a b =>
      simp only [exStep] at h
      rcases ha : exec G C 0 k a s with _ | ⟨e1, s1⟩
      · rw [ha] at h; cases h
      rw [ha] at h
      have h1 := exec_w ha
      cases e1 <;> simp only [exSeq] at h
      · rw [exec_w h, h1]
      · cases h; exact h1
      · cases h; exact h1
    | cond x a b =>
      simp only [exStep] at h
      rcases hv : ev G s.t x with _ | v
      · rw [hv] at h; cases h
      rw [hv] at h
      cases v <;> simp only [exCond] at h <;> try (cases h; done)
      rename_i b'
      cases b' <;> exact exec_w h
    | block id a =>
      simp only [exStep] at h
      rcases ha : exec G C 0 k a s with _ | ⟨e1, s1⟩
      · rw [ha] at h; cases h
      rw [ha] at h
      have h1 := exec_w ha
      cases e1 <;> simp only [exBlock] at h
      · cases h; exact h1
      · split at h <;> (cases h; exact h1)
      · cases h; exact h1
    | loop a =>
      simp only [exStep] at h
      rcases ha : exec G C 0 k a s with _ | ⟨e1, s1⟩
      · rw [ha] at h; cases h
      rw [ha] at h
      have h1 := exec_w ha
      cases e1 <;> simp only [exSeq] at h
      · rw [exec_w h, h1]
      · cases h; exact h1
      · cases h; exact h1
    | reg ops =>
      simp only [exStep] at h
      rcases ha : regV G C 0 ops s with _ | q
      · rw [ha] at h; cases h
      rw [ha] at h; cases h; exact regV_w ha
    | draw ops masks =>
      simp only [exStep] at h
      rcases ha : drawV G C 0 ops 0 masks [] s with _ | q
      · rw [ha] at h; cases h
      rw [ha] at h; cases h; exact drawV_w ha
theorem pures_qq {E : Env} {nt : Nat} {body : MCode} {res : List MRes} {f : FuncId} {args t0 : List V} {v : V} (hm : E.memo f args = none) (hf : E.fn f = some ⟨nt, body, res⟩) (h0 : args ++ List.replicate (nt - args.length) .undef = t0)
    (hg : RQ E 0 body ⟨t0, [], [], []⟩ fun e s => (e = .ret ∨ e = .normal) ∧ ∃ r1 b, resV s.h s.t res = some ([.bool b], r1) ∧ V.bool b = v) : Pures E f args v := by
  obtain ⟨e, s, h1, h2, h3⟩ := hg
  refine pures_q hm hf h0 ⟨e, s, h1, h2, ?_, h3⟩
  obtain ⟨n, hn⟩ := h1
  exact exec_w hn
end Go.Mini
