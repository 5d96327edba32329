/- A part of the proof: MiniFastOk. No condition. -/
import Derived.Test.YtgknkkdemjjeoaaGreatDoorMiniFast
import Derived.Test.YtgknkkdemjjeoaaGreatDoorMiniMemo
set_option linter.all false
set_option maxRecDepth 100000
namespace Go.Mini
set_option linter.unusedVariables false
set_option linter.unusedSimpArgs false
variable {G : Nat → Option V}

theorem fL_eq {α β : Type} : ∀ (l : List β) (k : List β → α), fL l k = k l
  | [], k => rfl
  | x :: xs, k => fL_eq xs fun ys => k (x :: ys)
theorem fLL_eq {α β : Type} : ∀ (l : List (List β)) (k : List (List β) → α), fLL l k = k l
  | [], k => rfl
  | x :: xs, k => by
    show fL x (fun x => fLL xs fun ys => k (x :: ys)) = _
    rw [fL_eq, fLL_eq]
theorem forceN_eq' {α : Type} (n : Nat) (k : Nat → α) : forceN n k = k n := by cases n <;> rfl
theorem fV_eq {α : Type} (v : V) (k : V → α) : fV v k = k v := by
  cases v <;> simp only [fV, fL_eq, forceN_eq', forceI_eq]
  case bool b => cases b <;> rfl
  case os b v sz i n c => cases c <;> rfl
theorem fO_eq {α : Type} (o : Ob) (k : Ob → α) : fO o k = k o := by
  cases o; rename_i x; cases x; simp only [fO, fLL_eq, forceN_eq']
theorem fHx_eq {α : Type} (w : List Nat) (n : Nat) : ∀ (l : H) (i : Nat) (k : H → α), fHx w n l i k = k l
  | [], i, k => rfl
  | x :: xs, i, k => by
    show (bif Nat.ble n i || w.any (Nat.beq i) then fO x fun x => fHx w n xs (i + 1) fun ys => k (x :: ys) else fHx w n xs (i + 1) fun ys => k (x :: ys)) = _
    rw [fO_eq, fHx_eq w n xs]; cases (Nat.ble n i || w.any (Nat.beq i)) <;> rfl
theorem uniF_eq {α : Type} (n0 : Nat) (a b : List Nat) (k : List Nat → α) : uniF n0 a b k = k (uni n0 a b) := by
  cases a <;> simp [uniF, fL_eq, uni]

/-! slots -/
def getD8 {α : Type} (d : Nat) (t : B8 α) : α := match d with
  | 0 => t.a0 | 1 => t.a1 | 2 => t.a2 | 3 => t.a3 | 4 => t.a4 | 5 => t.a5 | 6 => t.a6 | _ => t.a7
def setD8 {α : Type} (d : Nat) (t : B8 α) (x : α) : B8 α := match d with
  | 0 => { t with a0 := x } | 1 => { t with a1 := x } | 2 => { t with a2 := x } | 3 => { t with a3 := x } | 4 => { t with a4 := x } | 5 => { t with a5 := x } | 6 => { t with a6 := x } | _ => { t with a7 := x }
theorem d8 {P : Nat → Prop} (d : Nat) (hd : d < 8) (h0 : P 0) (h1 : P 1) (h2 : P 2) (h3 : P 3) (h4 : P 4) (h5 : P 5) (h6 : P 6) (h7 : P 7) : P d := by
  match d, hd with
  | 0, _ => exact h0
  | 1, _ => exact h1
  | 2, _ => exact h2
  | 3, _ => exact h3
  | 4, _ => exact h4
  | 5, _ => exact h5
  | 6, _ => exact h6
  | 7, _ => exact h7
theorem get_set8 {α : Type} {d e : Nat} (hd : d < 8) (he : e < 8) (t : B8 α) (x : α) : getD8 e (setD8 d t x) = if e = d then x else getD8 e t := by
  revert e
  refine d8 (P := fun d => ∀ {e : Nat}, e < 8 → getD8 e (setD8 d t x) = if e = d then x else getD8 e t) d hd ?_ ?_ ?_ ?_ ?_ ?_ ?_ ?_ <;> intro e he <;> refine d8 (P := fun e => getD8 e (setD8 _ t x) = if e = _ then x else getD8 e t) e he ?_ ?_ ?_ ?_ ?_ ?_ ?_ ?_ <;> rfl
def topG (d : Nat) (t : T) : B8 V := match d with
  | 0 => t.b0 | 1 => t.b1 | 2 => t.b2 | 3 => t.b3 | 4 => t.b4 | 5 => t.b5 | _ => t.b6
def topS (d : Nat) (t : T) (x : B8 V) : T := match d with
  | 0 => { t with b0 := x } | 1 => { t with b1 := x } | 2 => { t with b2 := x } | 3 => { t with b3 := x } | 4 => { t with b4 := x } | 5 => { t with b5 := x } | _ => { t with b6 := x }
def getI (i : Nat) (t : T) : V := if i < 56 then getD8 (i % 8) (topG (i / 8) t) else getD8 ((i - 56) % 8) (getD8 ((i - 56) / 8 % 8) (getD8 ((i - 56) / 64) t.rest))
def setI (i : Nat) (v : V) (t : T) : T := if i < 56 then topS (i / 8) t (setD8 (i % 8) (topG (i / 8) t) v) else
  { t with rest := setD8 ((i - 56) / 64) t.rest (setD8 ((i - 56) / 8 % 8) (getD8 ((i - 56) / 64) t.rest) (setD8 ((i - 56) % 8) (getD8 ((i - 56) / 8 % 8) (getD8 ((i - 56) / 64) t.rest)) v)) }
theorem pick8_eq {α R β : Type} {d : Nat} (hd : d < 8) (f : (B8 α → α) → (B8 α → (α → (α → R) → R) → (B8 α → R) → R) → β) : pick8 d f = f (getD8 d) (fun t g k => g (getD8 d t) fun x => k (setD8 d t x)) := by
  refine d8 (P := fun d => pick8 d f = f (getD8 d) (fun t g k => g (getD8 d t) fun x => k (setD8 d t x))) d hd ?_ ?_ ?_ ?_ ?_ ?_ ?_ ?_ <;> rfl
theorem leaf8_eq {α R β : Type} {d : Nat} (hd : d < 8) (f : (B8 α → α) → (B8 α → α → (B8 α → R) → R) → β) : leaf8 d f = f (getD8 d) (fun t x k => k (setD8 d t x)) := by
  refine d8 (P := fun d => leaf8 d f = f (getD8 d) (fun t x k => k (setD8 d t x))) d hd ?_ ?_ ?_ ?_ ?_ ?_ ?_ ?_ <;> rfl
theorem d7 {P : Nat → Prop} (d : Nat) (hd : d < 7) (h0 : P 0) (h1 : P 1) (h2 : P 2) (h3 : P 3) (h4 : P 4) (h5 : P 5) (h6 : P 6) : P d := by
  match d, hd with
  | 0, _ => exact h0
  | 1, _ => exact h1
  | 2, _ => exact h2
  | 3, _ => exact h3
  | 4, _ => exact h4
  | 5, _ => exact h5
  | 6, _ => exact h6
theorem top7_eq {R β : Type} {d : Nat} (hd : d < 7) (f : (T → B8 V) → (T → (B8 V → (B8 V → R) → R) → (T → R) → R) → β) : top7 d f = f (topG d) (fun t g k => g (topG d t) fun x => k (topS d t x)) := by
  refine d7 (P := fun d => top7 d f = f (topG d) (fun t g k => g (topG d t) fun x => k (topS d t x))) d hd ?_ ?_ ?_ ?_ ?_ ?_ ?_ <;> rfl
theorem slot_eq {i : Nat} (hi : i < 568) : (slotOf i).get = getI i ∧ ∀ v t k, (slotOf i).set v t k = k (setI i v t) := by
  unfold slotOf
  by_cases h : i < 56
  · have : Nat.blt i 56 = true := by unfold Nat.blt; rw [Nat.ble_eq]; exact h
    rw [this]
    simp only [cond_true]
    rw [top7_eq (by omega), leaf8_eq (by omega)]
    refine ⟨?_, fun v t k => ?_⟩
    · funext t; simp [getI, h]
    · simp [setI, h]
  · have : Nat.blt i 56 = false := by unfold Nat.blt; rw [Bool.eq_false_iff]; intro hb; rw [Nat.ble_eq] at hb; exact h hb
    rw [this]
    simp only [cond_false]
    rw [pick8_eq (by omega), pick8_eq (by omega), leaf8_eq (by omega)]
    refine ⟨?_, fun v t k => ?_⟩
    · funext t; simp [getI, h]
    · simp [setI, h, tp7]
theorem top_set {d e : Nat} (hd : d < 7) (he : e < 7) (t : T) (x : B8 V) : topG e (topS d t x) = (if e = d then x else topG e t) ∧ (topS d t x).rest = t.rest := by
  revert e
  refine d7 (P := fun d => ∀ {e : Nat}, e < 7 → topG e (topS d t x) = (if e = d then x else topG e t) ∧ (topS d t x).rest = t.rest) d hd ?_ ?_ ?_ ?_ ?_ ?_ ?_ <;> intro e he <;> refine d7 (P := fun e => topG e (topS _ t x) = (if e = _ then x else topG e t) ∧ (topS _ t x).rest = t.rest) e he ?_ ?_ ?_ ?_ ?_ ?_ ?_ <;> exact ⟨rfl, rfl⟩
theorem top_rest {d : Nat} (t : T) (r : B8 (B8 (B8 V))) : topG d { t with rest := r } = topG d t := by unfold topG; split <;> rfl
theorem get_set {i j : Nat} (hi : i < 568) (hj : j < 568) (v : V) (t : T) : getI j (setI i v t) = if j = i then v else getI j t := by
  unfold getI setI
  by_cases h1 : i < 56 <;> by_cases h2 : j < 56
  · simp only [h1, h2, if_true]
    rw [(top_set (by omega) (by omega) t _).1]
    by_cases e : j / 8 = i / 8
    · rw [if_pos e, get_set8 (by omega) (by omega)]
      by_cases e2 : j % 8 = i % 8
      · have : j = i := by omega
        simp [e2, this]
      · have : j ≠ i := by intro h; exact e2 (by rw [h])
        simp [e2, this, e]
    · have : j ≠ i := by intro h; exact e (by rw [h])
      simp [e, this]
  · simp only [h1, h2, if_true, if_false]
    rw [(top_set (d := i / 8) (e := 0) (by omega) (by omega) t _).2]
    have : j ≠ i := by omega
    simp [this]
  · simp only [h1, h2, if_true, if_false, top_rest]
    have : j ≠ i := by omega
    simp [this]
  · simp only [h1, h2, if_false]
    rw [get_set8 (by omega) (by omega)]
    by_cases e : (j - 56) / 64 = (i - 56) / 64
    · rw [if_pos e, get_set8 (by omega) (by omega)]
      by_cases e2 : (j - 56) / 8 % 8 = (i - 56) / 8 % 8
      · rw [if_pos e2, get_set8 (by omega) (by omega)]
        by_cases e3 : (j - 56) % 8 = (i - 56) % 8
        · have : j = i := by omega
          simp [this]
        · have : j ≠ i := by intro h; exact e3 (by rw [h])
          simp [e3, this, e2, e]
      · have : j ≠ i := by intro h; exact e2 (by rw [h])
        simp [e2, this, e]
    · have : j ≠ i := by intro h; exact e (by rw [h])
      simp [e, this]

/-! a tree and a list of slots -/
structure RT (n : Nat) (T0 : T) (t : List V) : Prop where
  len : t.length = n
  small : n ≤ 568
  val : ∀ (i : Nat) v, t[i]? = some v → getI i T0 = v
variable {n : Nat} {T0 : T} {t : List V}
theorem RT.get (hT : RT n T0 t) {i : Nat} (hi : i < n) : t[i]? = some ((slotOf i).get T0) := by
  have h1 : i < t.length := by rw [hT.len]; exact hi
  rw [(slot_eq (by have := hT.small; omega)).1, hT.val i t[i] (by simp [h1])]
  simp [h1]
theorem RT.set (hT : RT n T0 t) {i : Nat} (hi : i < n) (v : V) {k : T → OF} {x : SF} (h : (slotOf i).set v T0 k = some x) : ∃ T1, RT n T1 (t.set i v) ∧ k T1 = some x := by
  have hs := hT.small
  rw [(slot_eq (by omega)).2] at h
  refine ⟨_, ⟨by simp [hT.len], hT.small, fun j u hu => ?_⟩, h⟩
  have hj : j < n := by rw [← hT.len]; have := (List.getElem?_eq_some_iff.1 hu).1; simpa using this
  rw [get_set (by omega) (by omega)]
  rw [List.getElem?_set] at hu
  split at hu
  · rename_i e; subst e
    split at hu
    · cases hu; simp
    · cases hu
  · rename_i e
    rw [if_neg (Ne.symm e)]; exact hT.val j u hu

theorem ev_sub (hT : RT n T0 t) {x : Opd} (h : ∀ d ∈ x.slot, d < n) : ev G [] (sO T0 x) = ev G t x := by
  cases x with
  | t i => simp only [sO, ev]; exact (hT.get (h i (by simp [Opd.slot]))).symm
  | c v => rfl
  | g k => rfl
theorem evs_sub (hT : RT n T0 t) : ∀ {xs : List Opd}, (∀ d ∈ slots xs, d < n) → evs G [] (sOs T0 xs) = evs G t xs
  | [], _ => rfl
  | x :: xs, h => by
    simp only [sOs, List.map_cons, evs]
    rw [ev_sub hT (fun d hd => h d (by simp [slots, hd]))]
    have := evs_sub hT (xs := xs) (fun d hd => h d (by simp [slots, hd]))
    simp only [sOs] at this
    rw [this]
theorem evP_sub (hT : RT n T0 t) : ∀ {xs : List (Nat × Nat × Opd)}, (∀ d ∈ slotP xs, d < n) → evP G [] (sP T0 xs) = evP G t xs
  | [], _ => rfl
  | (a, b, x) :: xs, h => by
    simp only [sP, List.map_cons, evP]
    rw [ev_sub hT (fun d hd => h d (by simp [slotP, hd]))]
    have := evP_sub hT (xs := xs) (fun d hd => h d (by simp [slotP, hd]))
    simp only [sP] at this
    rw [this]
theorem bound_sub (hT : RT n T0 t) {df : Nat} {x : Option Opd} (h : ∀ d ∈ slotO x, d < n) : boundOf G [] df (sOo T0 x) = boundOf G t df x := by
  cases x with
  | none => rfl
  | some x => simp only [sOo, boundOf]; rw [ev_sub hT (fun d hd => h d hd)]

theorem opV_sub (hT : RT n T0 t) {C : FuncId → List V → H → Option Res} {m : MOp} {h : H} (hs : ∀ d ∈ m.slots, d < n) : opV G C [] (sOp T0 m) h = opV G C t m h := by
  cases m <;> simp only [opV, sOp] <;> simp only [MOp.slots, List.mem_append] at hs
  case alloc => rfl
  case mv x => unfold op_mv; rw [ev_sub hT hs]
  case box => unfold op_box; rw [ev_sub hT hs]
  case nilc => unfold op_nilc; rw [ev_sub hT hs]
  case un => unfold op_un; rw [ev_sub hT hs]
  case convI => unfold op_convI; rw [ev_sub hT hs]
  case s2b => unfold op_s2b; rw [ev_sub hT hs]
  case b2s => unfold op_b2s; rw [ev_sub hT hs]
  case faddr => unfold op_faddr; rw [ev_sub hT hs]
  case field => unfold op_field; rw [ev_sub hT hs]
  case extract => unfold op_extract; rw [ev_sub hT hs]
  case len => unfold op_len; rw [ev_sub hT hs]
  case lenS => unfold op_lenS; rw [ev_sub hT hs]
  case load => unfold op_load; rw [ev_sub hT hs]
  case pick => unfold op_pick; rw [ev_sub hT (fun d hd => hs d (.inl (.inl hd))), ev_sub hT (fun d hd => hs d (.inl (.inr hd))), ev_sub hT (fun d hd => hs d (.inr hd))]
  case build => unfold op_build; rw [evP_sub hT hs]
  case bslice => unfold op_bslice; rw [evP_sub hT hs]
  case store => unfold op_store; rw [ev_sub hT (fun d hd => hs d (.inl hd)), ev_sub hT (fun d hd => hs d (.inr hd))]
  case bin => unfold op_bin; rw [ev_sub hT (fun d hd => hs d (.inl hd)), ev_sub hT (fun d hd => hs d (.inr hd))]
  case iaddr => unfold op_iaddr; rw [ev_sub hT (fun d hd => hs d (.inl hd)), ev_sub hT (fun d hd => hs d (.inr hd))]
  case iaddrA => unfold op_iaddrA; rw [ev_sub hT (fun d hd => hs d (.inl hd)), ev_sub hT (fun d hd => hs d (.inr hd))]
  case idxA => unfold op_idxA; rw [ev_sub hT (fun d hd => hs d (.inl hd)), ev_sub hT (fun d hd => hs d (.inr hd))]
  case cntB => unfold op_cntB; rw [ev_sub hT (fun d hd => hs d (.inl hd)), ev_sub hT (fun d hd => hs d (.inr hd))]
  case idxB => unfold op_idxB; rw [ev_sub hT (fun d hd => hs d (.inl hd)), ev_sub hT (fun d hd => hs d (.inr hd))]
  case index => unfold op_index; rw [ev_sub hT (fun d hd => hs d (.inl hd)), ev_sub hT (fun d hd => hs d (.inr hd))]
  case append => unfold op_append; rw [ev_sub hT (fun d hd => hs d (.inl hd)), ev_sub hT (fun d hd => hs d (.inr hd))]
  case mkslice => unfold op_mkslice; rw [ev_sub hT (fun d hd => hs d (.inl hd)), ev_sub hT (fun d hd => hs d (.inr hd))]
  case mkfn => unfold op_mkfn; rw [evs_sub hT hs]
  case minmax => unfold op_minmax; rw [evs_sub hT hs]
  case call => unfold op_call; rw [ev_sub hT (fun d hd => hs d (.inl hd)), evs_sub hT (fun d hd => hs d (.inr hd))]
  case cut =>
    unfold op_cut
    rw [ev_sub hT (fun d hd => hs d (.inl (.inl (.inl hd))))]
    have h1 := fun df => bound_sub (G := G) (df := df) hT (fun d hd => hs d (.inl (.inl (.inr hd))))
    have h2 := fun df => bound_sub (G := G) (df := df) hT (fun d hd => hs d (.inl (.inr hd)))
    have h3 := fun df => bound_sub (G := G) (df := df) hT (fun d hd => hs d (.inr hd))
    rename_i s x a b c
    have h4 : ∀ v, cutV G [] s v (sOo T0 a) (sOo T0 b) (sOo T0 c) = cutV G t s v a b c := by
      intro v
      unfold cutV
      cases c with
      | none =>
        have h0 : sOo T0 none = none := rfl
        rw [h0] at h3 ⊢
        cases v <;> simp only [h1, h2, h3]
      | some y =>
        have h0 : sOo T0 (some y) = some (sO T0 y) := rfl
        rw [h0] at h3 ⊢
        cases v <;> simp only [h1, h2, h3]
        rename_i sz' els
        cases boundOf G t 0 a <;> cases boundOf G t els.length b <;> rfl
    simp only [h4]
  case cutS =>
    unfold op_cutS
    rw [ev_sub hT (fun d hd => hs d (.inl (.inl hd)))]
    have h1 := fun df => bound_sub (G := G) (df := df) hT (fun d hd => hs d (.inl (.inr hd)))
    have h2 := fun df => bound_sub (G := G) (df := df) hT (fun d hd => hs d (.inr hd))
    simp only [h1, h2]

end Go.Mini
