/- A part of the proof: MiniFastAll. No condition. -/
import Derived.Test.YtgknkkdemjjeoaaGreatDoorMiniFastRun
set_option linter.all false
set_option maxRecDepth 100000
namespace Go.Mini
set_option linter.unusedVariables false
set_option linter.unusedSimpArgs false
variable {G : Nat → Option V} {n : Nat} {t : List V} {C C' : FuncId → List V → H → Option Res} {n0 : Nat} {h : H}

theorem execF_ok (hC : Under C C') : ∀ {k : Nat} {mc : MCode} {a y : SF} {s : St} {e : Ex}, codeOk n mc = true → RS n a s → execF G C n0 k mc a = some (e, y) → ∃ s', exec G C' n0 k mc s = some (e, s') ∧ RS n y s'
  | 0, mc, a, y, s, e, _, _, h => by cases h
  | k + 1, mc, a, y, s, e, hk, hR, h => by
    have h' : exStepF G C n0 (execF G C n0 k) mc a = some (e, y) := h
    have seq : ∀ {c d : MCode}, codeOk n c = true → codeOk n d = true → exSeqF (execF G C n0 k) d (execF G C n0 k c a) = some (e, y) → ∃ s', exSeq (exec G C' n0 k) d (exec G C' n0 k c s) = some (e, s') ∧ RS n y s' := by
      intro c d hc hd hs
      unfold exSeqF at hs
      split at hs
      · rename_i e1 y1 h1
        obtain ⟨s1, g1, g2⟩ := execF_ok hC hc hR h1
        rw [g1]
        split at hs
        · obtain ⟨s2, g3, g4⟩ := execF_ok hC hd g2 hs
          exact ⟨s2, g3, g4⟩
        · rename_i hne
          rw [h1] at hs
          cases hs
          refine ⟨s1, ?_, g2⟩
          unfold exSeq
          cases e with
          | normal => exact (hne rfl).elim
          | exit id => rfl
          | ret => rfl
      · cases hs
    simp only [exec]
    cases mc <;> simp only [exStepF] at h' <;> simp only [exStep] <;> simp only [codeOk, Bool.and_eq_true] at hk
    case skip => cases h'; exact ⟨s, rfl, hR⟩
    case ret => cases h'; exact ⟨s, rfl, hR⟩
    case exit id => cases h'; exact ⟨s, rfl, hR⟩
    case seq c d => exact seq hk.1 hk.2 h'
    case loop c => exact seq hk (by simpa [codeOk] using hk) h'
    case cond x c d =>
      have hx : ∀ i ∈ x.slot, i < n := by
        intro i hi
        have h1 := hk.1.1
        cases x with
        | t j =>
          simp [Opd.slot] at hi; subst hi
          simp only [opdOk] at h1; unfold Nat.blt at h1; rw [Nat.ble_eq] at h1; exact h1
        | c v => simp [Opd.slot] at hi
        | g v => simp [Opd.slot] at hi
      rw [ev_sub hR.t hx] at h'
      unfold exCondF at h'
      split at h'
      · rename_i v hv
        rw [hv]
        split at h'
        · split at h'
          · obtain ⟨s1, g1, g2⟩ := execF_ok hC hk.1.2 hR h'; exact ⟨s1, g1, g2⟩
          · obtain ⟨s1, g1, g2⟩ := execF_ok hC hk.2 hR h'; exact ⟨s1, g1, g2⟩
        · cases h'
      · cases h'
    case block id c =>
      unfold exBlockF at h'
      split at h'
      · rename_i e1 y1 h1
        obtain ⟨s1, g1, g2⟩ := execF_ok hC hk hR h1
        rw [g1]
        split at h'
        · rename_i id'
          simp only [exBlock]
          cases hq : Nat.beq id' id
          · rw [hq, h1] at h'; cases h'
            have : id' ≠ id := by intro hh; subst hh; simp at hq
            exact ⟨s1, by rw [if_neg this], g2⟩
          · rw [hq] at h'; cases h'
            have := Nat.eq_of_beq_eq_true hq
            exact ⟨s1, by rw [if_pos this], g2⟩
        · rename_i hne
          rw [h1] at h'; cases h'
          refine ⟨s1, ?_, g2⟩
          unfold exBlock
          cases e with
          | normal => rfl
          | exit id' => exact (hne id' rfl).elim
          | ret => rfl
      · cases h'
    case reg ops =>
      unfold exRegF at h'
      split at h'
      · rename_i y1 h1; cases h'
        obtain ⟨s1, g1, g2⟩ := regF_ok hC (fun o ho => operOk_in (List.all_eq_true.1 hk o ho)) hR h1
        exact ⟨s1, by rw [g1]; rfl, g2⟩
      · cases h'
    case draw ops masks =>
      unfold exRegF at h'
      split at h'
      · rename_i y1 h1; cases h'
        obtain ⟨s1, g1, g2⟩ := drawF_ok hC (fun o ho => operOk_in (List.all_eq_true.1 hk o ho)) hR h1
        exact ⟨s1, by rw [g1]; rfl, g2⟩
      · cases h'

/-! arguments and results -/
theorem undef8 {d : Nat} (hd : d < 8) : getD8 d T1 = .undef := by
  refine d8 (P := fun d => getD8 d T1 = .undef) d hd ?_ ?_ ?_ ?_ ?_ ?_ ?_ ?_ <;> rfl
theorem getI_T0 {i : Nat} (hi : i < 568) : getI i T0 = .undef := by
  unfold getI
  split
  · have h1 : topG (i / 8) T0 = T1 := by
      refine d7 (P := fun d => topG d T0 = T1) (i / 8) (by omega) ?_ ?_ ?_ ?_ ?_ ?_ ?_ <;> rfl
    rw [h1]; exact undef8 (by omega)
  · have h1 : getD8 ((i - 56) / 64) T0.rest = T2 := by
      refine d8 (P := fun d => getD8 d T0.rest = T2) _ (by omega) ?_ ?_ ?_ ?_ ?_ ?_ ?_ ?_ <;> rfl
    have h2 : getD8 ((i - 56) / 8 % 8) T2 = T1 := by
      refine d8 (P := fun d => getD8 d T2 = T1) _ (by omega) ?_ ?_ ?_ ?_ ?_ ?_ ?_ ?_ <;> rfl
    rw [h1, h2]; exact undef8 (by omega)
theorem rt_T0 (hn : n ≤ 568) : RT n T0 (List.replicate n .undef) := by
  refine ⟨by simp, hn, fun i v hv => ?_⟩
  obtain ⟨h1, rfl⟩ := List.getElem?_eq_some_iff.1 hv
  simp at h1
  simp [getI_T0 (show i < 568 by omega)]
def setsV (t : List V) : Nat → List V → List V
  | _, [] => t
  | i, v :: l => setsV (t.set i v) (i + 1) l
theorem setArgs_ok : ∀ {l : List V} {i : Nat} {T' : T} {t : List V} {k : T → OF} {y : SF}, RT n T' t → i + l.length ≤ n → setArgs l i T' k = some y → ∃ T1, RT n T1 (setsV t i l) ∧ k T1 = some y
  | [], i, T', t, k, y, hT, _, h => ⟨T', hT, h⟩
  | v :: l, i, T', t, k, y, hT, hn, h => by
    have h' : (fV v fun v => (slotOf i).set v T' fun t => setArgs l (i + 1) t k) = some y := h
    rw [fV_eq] at h'
    simp at hn
    obtain ⟨T1, h1, h2⟩ := hT.set (i := i) (by omega) v h'
    exact setArgs_ok (l := l) h1 (by omega) h2
theorem setsV_eq : ∀ {l pre : List V} {k : Nat}, l.length ≤ k → setsV (pre ++ List.replicate k .undef) pre.length l = pre ++ l ++ List.replicate (k - l.length) .undef
  | [], pre, k, _ => by simp [setsV]
  | v :: l, pre, k, hk => by
    simp at hk
    obtain ⟨k', rfl⟩ : ∃ k', k = k' + 1 := ⟨k - 1, by omega⟩
    have h1 : (pre ++ List.replicate (k' + 1) V.undef).set pre.length v = (pre ++ [v]) ++ List.replicate k' .undef := by
      rw [List.set_append_right _ _ (Nat.le_refl _)]; simp [List.replicate_succ]
    have h2 := setsV_eq (l := l) (pre := pre ++ [v]) (k := k') (by omega)
    simp only [setsV, h1]
    rw [show pre.length + 1 = (pre ++ [v]).length by simp, h2]
    simp
theorem resF_ok {T' : T} (hT : RT n T' t) : ∀ {ms : List MRes} {x : List V × List Nat}, ms.all (resOk n) = true → resF h T' ms = some x → resV h t ms = some x
  | [], x, _, hx => hx
  | .tmp i :: ms, x, hm, hx => by
    simp only [List.all_cons, Bool.and_eq_true, resOk] at hm
    have hi : i < n := by have := hm.1; unfold Nat.blt at this; rw [Nat.ble_eq] at this; exact this
    simp only [resF] at hx
    split at hx
    · rename_i vs r h1; cases hx
      simp only [resV, hT.get hi, resF_ok hT hm.2 h1]
    · cases hx
  | .cell i agg :: ms, x, hm, hx => by
    simp only [List.all_cons, Bool.and_eq_true, resOk] at hm
    have hi : i < n := by have := hm.1; unfold Nat.blt at this; rw [Nat.ble_eq] at this; exact this
    simp only [resF] at hx
    split at hx
    · rename_i vs r h1
      split at hx
      · rename_i cells r1 h2
        split at hx
        · rename_i v h3; cases hx
          simp only [resV, hT.get hi, resF_ok hT hm.2 h1, h2, h3]
        · cases hx
      · cases hx
    · cases hx

theorem callOut_same {keep : Bool} {v : V} {r1 : List Nat} {t t' : List V} {h : H} {r w : List Nat} : callOut n0 keep v r1 ⟨t, h, r, w⟩ = callOut n0 keep v r1 ⟨t', h, r, w⟩ := rfl
theorem fRes_eq (r : Option Res) : fRes r = r := by
  cases r with
  | none => rfl
  | some x => cases x; simp only [fRes, fV_eq]

theorem callBodyF_ok (hC : Under C C') {E : Env} {k : Nat} {keep : Bool} {args : List V} {m : Option MFunc} {x : Res} (hx : callBodyF E C k keep args h m = some x) : callBody E C' k keep args h m = some x := by
  unfold callBodyF at hx
  split at hx
  · rename_i fn
    simp only [cond_eq_ite] at hx
    split at hx
    · rename_i hok
      simp only [Bool.and_eq_true] at hok
      obtain ⟨ho, ha⟩ := hok
      simp only [funcOk, Bool.and_eq_true, Nat.ble_eq] at ho
      rw [Nat.ble_eq] at ha
      rw [forceN_eq'] at hx
      split at hx
      · rename_i s0 hs
        obtain ⟨T1, h1, h2⟩ := setArgs_ok (rt_T0 ho.1.1) (by simpa using ha) hs
        cases h2
        have hset := setsV_eq (l := args) (pre := []) (k := fn.ntmps) ha
        simp at hset
        rw [hset] at h1
        simp only [callBody]
        unfold callEndF at hx
        split at hx
        · rename_i e y hy
          obtain ⟨s', g1, g2⟩ := execF_ok (s := ⟨args ++ List.replicate (fn.ntmps - args.length) .undef, h, [], []⟩) hC ho.1.2 ⟨h1, rfl, rfl, rfl⟩ hy
          rw [g1]
          have fin : callResF h.length keep fn.res y = some x → callRes h.length keep fn.res s' = some x := by
            intro hr
            unfold callResF at hr
            split at hr
            · rename_i vs r1 hv
              rw [g2.h] at hv
              unfold callRes
              rw [resF_ok g2.t ho.2 hv]
              rw [g2.h, g2.r, g2.w] at hr
              exact hr
            · cases hr
          split at hx
          · cases hx
          · rename_i hne
            cases e with
            | normal => exact fin hx
            | exit id => exact (hne id rfl).elim
            | ret => exact fin hx
        · cases hx
      · cases hx
    · cases hx
  · cases hx

theorem pureBodyF_ok (hC : Under C C') {E : Env} {k : Nat} {f : FuncId} {args : List V} {v : V} (hx : pureBodyF E C k f args = some v) : pureBody E C' k f args = some v := by
  unfold pureBodyF at hx
  unfold pureBody
  split at hx
  · rename_i heq; rw [heq]; exact hx
  · rename_i heq
    rw [heq]
    split at hx
    · rename_i x hb; cases hx
      simp only []
      rw [callBodyF_ok hC hb]
    · cases hx

theorem callF_ok {E : Env} : ∀ k, Under (callF E k) (call E k)
  | 0 => fun f args h x hx => by cases hx
  | k + 1 => fun f args h x hx => by
    have ih := callF_ok (E := E) k
    have hx' : callStepF E (callF E k) k f args h (E.mode f) = some x := hx
    simp only [call]
    unfold callStepF at hx'
    split at hx'
    · rename_i hm; rw [hm]; rw [fRes_eq] at hx'; exact callBodyF_ok ih hx'
    · rename_i hm; rw [hm]; rw [fRes_eq] at hx'; exact callBodyF_ok ih hx'
    · rename_i hm; rw [hm]; rw [fRes_eq] at hx'
      simp only [callStep]
      unfold callPure at hx' ⊢
      split at hx'
      · rename_i as
        split at hx'
        · rename_i v hv
          rw [pureBodyF_ok ih hv]
          exact hx'
        · cases hx'
      · cases hx'

/-- one more known call, by the kernel's machine -/
theorem known_fast {P : Program} {tab : FuncId → Option MFunc} (ht : ∀ f m, tab f = some m → ∃ fn, P.funcs[f]? = some fn ∧ compF P fn = some m) (hmix : P.follows .mixedOrders = true) (mode : FuncId → Mode) {l : List (FuncId × List V × V)} (hl : Known P l) (k : Nat) {f : FuncId} {args : List V} {v : V} (ha : args.all (low 100) = true)
    (hx : pureBodyF (envOf tab mode l) (callF (envOf tab mode l) k) k f args = some v) : PureOk P (fun _ => none) f args v :=
  known_call ht hmix mode hl k ha (pureBodyF_ok (callF_ok k) hx)
end Go.Mini
