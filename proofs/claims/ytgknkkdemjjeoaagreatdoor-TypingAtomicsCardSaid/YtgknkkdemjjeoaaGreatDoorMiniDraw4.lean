/- A part of the proof: MiniDraw4. No condition. -/
import Derived.Test.YtgknkkdemjjeoaaGreatDoorMiniDraw3
set_option linter.all false
set_option maxRecDepth 100000
namespace Go.Mini
set_option linter.unusedVariables false
set_option linter.unusedSimpArgs false
variable {P : Program} {G : Nat → Option V} {D : Nat → Prop} {base : Nat} {C : FuncId → List V → H → Option Res} {n0 : Nat} {all : Array Oper} {ms : List MOper} {ks : List Nat} {S : Nat → St} {X : Nat → Option Res}

def On (listed : Array Bool) (j : Nat) : Prop := listed.getD j false = true

theorem gd_lt {listed : Array Bool} {j : Nat} {d : Bool} (h : j < listed.size) : listed.getD j d = listed[j] := by
  rw [Array.getD_eq_getD_getElem?, Array.getElem?_eq_getElem h]; rfl
theorem gd_ge {listed : Array Bool} {j : Nat} (h : ¬ j < listed.size) : listed.getD j false = false := by
  rw [Array.getD_eq_getD_getElem?, Array.getElem?_eq_none (by omega)]; rfl

theorem count_set {l : List Bool} {i : Nat} (h : l[i]? = some false) : ((l.set i true).filter id).length = (l.filter id).length + 1 := by
  induction l generalizing i with
  | nil => simp at h
  | cons b l ih =>
    cases i with
    | zero => simp at h; subst h; simp
    | succ i =>
      simp at h
      cases b <;> simp [ih h]
theorem count_all {l : List Bool} (h : (l.filter id).length = l.length) : ∀ b ∈ l, b = true := by
  induction l with
  | nil => simp
  | cons b l ih =>
    intro c hc
    have hle := List.length_filter_le id l
    cases b with
    | false => simp at h; omega
    | true =>
      rcases List.mem_cons.1 hc with rfl | hc
      · rfl
      · exact ih (by simpa using h) c hc

theorem wpAny_mid (hC : CallOk P G C) (hL : LenOk C) (hr : Reg P G C n0 all ms ks S X) {forb0 : Nat → Prop} {φ0 : Phi} {w0 : World} {a0 : Act} (hD0 : ∀ b, n0 ≤ b → D b) (hDf : ∀ b, (b ∈ (S ms.length).r ∨ b ∈ (S ms.length).w) → D b) (Q : Exit → Act → World → Prop)
    (hQ : ∀ forb φ w a, (∀ L : Nat → Prop, (∀ j, j < ms.length → L j) → Mid G D base n0 ms S X forb0 φ0 w0 a0 L forb φ w a → Q .normal a w)) :
    ∀ (fuel : Nat) (listed : Array Bool) (forb : Nat → Prop) (φ : Phi) (w : World) (a : Act), listed.size = all.size → (listed.toList.filter id).length + fuel = all.size → Closed all (On listed) → Mid G D base n0 ms S X forb0 φ0 w0 a0 (On listed) forb φ w a → wpAny P .any all Q fuel listed a w := by
  intro fuel
  induction fuel with
  | zero =>
    intro listed forb φ w a hsz hcount hcl hM
    have hall := count_all (l := listed.toList) (by simpa [hsz] using hcount)
    have hon : ∀ j, j < all.size → On listed j := by
      intro j hj
      have : listed[j]'(by omega) = true := hall _ (by simp)
      show listed.getD j false = true
      rw [gd_lt (by omega)]; exact this
    refine ⟨?_, hQ forb φ w a _ (fun j hj => hon j (by rw [← hr.len]; exact hj)) hM⟩
    unfold Region.ready
    rw [List.filter_eq_nil_iff]
    intro j hj
    have hj' : j < all.size := by simpa using hj
    have := hon j hj'
    have e : listed.getD j false = true := this
    rw [gd_lt (by omega)] at e
    rw [gd_lt (by omega), e]; simp
  | succ fuel ih =>
    intro listed forb φ w a hsz hcount hcl hM
    have hready : ∀ i, i ∈ Region.ready .any all listed ↔ i < all.size ∧ ¬ On listed i ∧ ∀ o, all[i]? = some o → ∀ e ∈ o.after.toList, Region.binds .any e = true → On listed e.on := by
      intro i
      unfold Region.ready
      rw [List.mem_filter, List.mem_range]
      constructor
      · rintro ⟨h1, h2⟩
        have ho : all[i]? = some all[i] := by simp [h1]
        rw [ho] at h2
        simp only [Option.map_some, Option.getD_some, Bool.and_eq_true, Bool.not_eq_true'] at h2
        refine ⟨h1, ?_, fun o ho' e he hb => ?_⟩
        · have := h2.1
          rw [gd_lt (by omega)] at this
          simp only [On]
          rw [gd_lt (by omega), this]; simp
        · rw [ho] at ho'; cases ho'
          have h3 := h2.2
          rw [Array.all_eq_true'] at h3
          have h4 := h3 e (by simpa using he)
          simpa [hb, On] using h4
      · rintro ⟨h1, h2, h3⟩
        have ho : all[i]? = some all[i] := by simp [h1]
        refine ⟨h1, ?_⟩
        rw [ho]
        simp only [Option.map_some, Option.getD_some, Bool.and_eq_true, Bool.not_eq_true']
        refine ⟨?_, ?_⟩
        · simp only [On] at h2
          rw [gd_lt (by omega)] at h2 ⊢
          exact Bool.eq_false_iff.2 h2
        · rw [Array.all_eq_true']
          intro e he
          by_cases hb : Region.binds .any e = true
          · have := h3 _ ho e (by simpa using he) hb
            simpa [hb, On] using this
          · simp [hb]
    refine ⟨fun hnil => ?_, fun i hi => ?_⟩
    · refine hQ forb φ w a _ (fun j => ?_) hM
      induction j using Nat.strongRecOn with
      | _ j ihj =>
        intro hj
        refine Classical.byContradiction fun hne => ?_
        have hmem : j ∈ Region.ready .any all listed := by
          rw [hready]
          refine ⟨by rw [← hr.len]; exact hj, hne, fun o ho e he hb => ?_⟩
          obtain ⟨k, _, h2, _⟩ := hr.mask j o ho
          exact ihj e.on (h2 e he hb) (by have := h2 e he hb; omega)
        rw [hnil] at hmem; simp at hmem
    · obtain ⟨h1, h2, h3⟩ := (hready i).1 hi
      have ho : all[i]? = some all[i] := by simp [h1]
      have hson : ∀ j, On (listed.setIfInBounds i true) j ↔ (On listed j ∨ j = i) := by
        intro j
        simp only [On]
        by_cases e : j < listed.size
        · have e' : j < (listed.setIfInBounds i true).size := by simpa using e
          rw [gd_lt e, gd_lt e', Array.getElem_setIfInBounds]
          by_cases e2 : i = j
          · simp [e2]
          · simp [e2, Ne.symm e2]
          exact e
        · have e' : ¬ j < (listed.setIfInBounds i true).size := by simpa using e
          rw [gd_ge e, gd_ge e']
          simp only [Bool.false_eq_true, false_or, false_iff]
          omega
      refine hM.step hC hL hr hcl hD0 hDf ho h2 (h3 _ ho) Q _ fun forb' φ' a' w' hM' => ?_
      refine ih (listed.setIfInBounds i true) forb' φ' w' a' (by simpa using hsz) ?_ (fun j o hj hoj e he hb => ?_) ?_
      · have hf : listed.toList[i]? = some false := by
          have h2' : ¬ listed.getD i false = true := h2
          rw [gd_lt (by omega)] at h2'
          rw [Array.getElem?_toList, Array.getElem?_eq_getElem (by omega)]
          simpa using h2'
        have := count_set hf
        simp only [Array.toList_setIfInBounds]
        omega
      · rw [hson] at hj ⊢
        rcases hj with hj | rfl
        · exact .inl (hcl j o hj hoj e he hb)
        · exact .inl (h3 o hoj e he hb)
      · have : (fun j => On listed j ∨ j = i) = On (listed.setIfInBounds i true) := by funext j; exact propext (hson j).symm
        rw [← this]; exact hM'

/-- A region that draws its order. -/
theorem drawV_ok (hC : CallOk P G C) (hL : LenOk C) (hV : VbOk C) (hms : mapM? (compOper P all.toList) all.toList = some ms) (hks : masksOf [] all.toList = some ks) (hsl : slotsOk [] ms ks = true) {s s' : St} (hd : drawV G C n0 ms 0 ks [] s = some s')
    {forb : Nat → Prop} {φ : Phi} {w : World} {a : Act} (hB : ∀ v ∈ s.t, VB s.h.length v) (hH : HB s.h.length s.h) (ht : Tm G forb φ w s.t a) (hR : Rel forb φ D base s.h w) (hD0 : ∀ b, n0 ≤ b → D b) (hDf : ∀ b, (b ∈ s'.r ∨ b ∈ s'.w) → D b) (hn : n0 ≤ s.h.length) (hfree : ∀ b v, s.h.length ≤ b → b < s'.h.length → φ b v = none) (Q : Exit → Act → World → Prop)
    (hQ : ∀ forb' φ' a' w', Out G forb φ D base n0 w s s' a forb' φ' a' w' → Q .normal a' w') : wpAny P .any all Q all.size (Array.replicate all.size false) a w := by
  obtain ⟨S, X, hS0, hSn, hlen, hst⟩ := drawV_trace hd
  obtain ⟨g1, _, g3⟩ := masksOf_ok hks
  obtain ⟨h1, h2⟩ := slotsOk_ok hsl
  have hml := mapM?_length hms
  have hr : Reg P G C n0 all ms ks S X := by
    refine ⟨fun i o ho => ?_, by simpa using hml, by simpa using g1, fun i o ho => ?_, fun j q n m k hj hk hq hm hh => h2 j q n m k hj hk (by simp; exact hq) (by simpa using hm) hh, fun i m k hm hk => ?_, by rw [hS0]; exact hn, fun i hi => ?_⟩
    · have hi := (Array.getElem?_eq_some_iff.1 ho).1
      have him : i < ms.length := by rw [hml]; simpa using hi
      obtain ⟨x, p1, p2⟩ := mapM?_get hms i ms[i] (by simp [him])
      rw [Array.getElem?_toList, ho] at p1; cases p1
      exact ⟨ms[i], by simp [him], p2⟩
    · obtain ⟨m, p1, p2, p3⟩ := g3 i o (by rw [Array.getElem?_toList]; exact ho)
      simp at p1
      exact ⟨m, p1, fun e he hb => by have := p2 e he hb; simpa using this, p3⟩
    · obtain ⟨p1, p2⟩ := hst i m k hm hk
      refine ⟨p1, fun y hy q z hq hz hc => ?_⟩
      have := (p2 y hy).2 q z hq hz hc
      simpa using this
    · induction i with
      | zero => rw [hS0]; exact ⟨hB, hH⟩
      | succ i ih =>
        obtain ⟨q1, q2⟩ := ih (by omega)
        have hm : ms[i]? = some ms[i] := by simp [show i < ms.length by omega]
        have hk : ks[i]? = some (ks[i]'(by omega)) := by simp [show i < ks.length by omega]
        obtain ⟨x, p1, p2⟩ := mapM?_get hms i _ hm
        rcases (hst i _ _ hm hk).1 with ⟨_, y, _, e1, e2⟩ | ⟨_, _, e2⟩
        · rw [e2]
          have hok : ms[i].op.okC := compX_okC (wanted_ok ht p2).2.2
          exact regPut_vb hV hL ht.gb hok q1 q2 e1
        · rw [e2]; exact ⟨putV_vb q1 .undef, q2⟩
  have hmonoAll := fun k (hk : k ≤ ms.length) => hr.mono hL (i := 0) (k := k) (by omega) hk
  have hmid : Mid G D base n0 ms S X forb φ w a (On (Array.replicate all.size false)) forb φ w a := by
    have hoff : ∀ j, ¬ On (Array.replicate all.size false) j := by
      intro j
      show ¬ (Array.replicate all.size false).getD j false = true
      by_cases e : j < (Array.replicate all.size false).size
      · rw [gd_lt e]; simp
      · rw [gd_ge e]; simp
    have slot0 : ∀ d k, k ≤ ms.length → (∀ j, j < ms.length → Ws ms j d → (On (Array.replicate all.size false) j ↔ j < k)) → (S k).t[d]? = s.t[d]? := by
      intro d k hk hcond
      rw [← hS0]
      exact hr.slot_same hL (by omega) hk fun j _ hjk hW => hoff j ((hcond j (by omega) hW).2 hjk)
    have blk0 : ∀ b k, k ≤ ms.length → (∀ j, j < ms.length → Wr S X j b → (On (Array.replicate all.size false) j ↔ j < k)) → (S k).h[b]? = s.h[b]? := by
      intro b k hk hcond
      rw [← hS0]
      exact hr.blk_same hL (by omega) hk fun j _ hjk hW => hoff j ((hcond j (by omega) hW).2 hjk)
    refine ⟨fun d k hk hcond v hv => ht.val d v (by rw [← slot0 d k hk hcond]; exact hv), by rw [hS0]; exact ht.len, ht.glob, fun b k x v l hb hk hcond hx => hR.row b x v l hb (by rw [← blk0 b k hk hcond]; exact hx), fun b k x v l hb hk hcond hx => hR.new b x v l hb (by rw [← blk0 b k hk hcond]; exact hx), hR.low, hR.apart, hR.top, fun j hj _ b v hb1 hb2 => ?_, Ext.refl _ _, fun _ _ _ h => h, fun _ _ _ => rfl, fun _ _ _ _ _ _ => rfl, fun _ _ _ _ => rfl, rfl⟩
    refine hfree b v ?_ ?_
    · have := (hmonoAll j (by omega)).1; rw [hS0] at this; omega
    · have := (hr.mono hL (i := j + 1) (k := ms.length) (by omega) (Nat.le_refl _)).1; rw [hSn] at this; omega
  refine wpAny_mid hC hL hr hD0 (by rw [hSn]; exact hDf) Q (fun forb' φ' w' a' L hLall hM => ?_) all.size _ forb φ w a (by simp) (by simp) (fun j o hj _ _ _ _ => ?_) hmid
  · have hcond : ∀ W : Nat → Prop, ∀ j, j < ms.length → W j → (L j ↔ j < ms.length) := fun W j hj _ => ⟨fun _ => hj, fun _ => hLall j hj⟩
    have hlenT := (hmonoAll ms.length (Nat.le_refl _)).2.2.2
    refine hQ forb' φ' a' w' ⟨⟨?_, fun d v hv => ?_, hM.glob⟩, ⟨fun b x v l hb hx => ?_, hM.low, hM.apart, hM.top, fun b x v l hb hx => ?_⟩, hM.ext, hM.mono, fun b v hb => hM.far b v (by rw [hSn]; exact hb), fun b v l hb hl hn' => hM.loc b v l (by rw [hSn]; exact hb) hl (by rw [hSn]; exact hn'), fun b v hb hn' => hM.old b v hb (by rw [hSn]; exact hn'), hM.defers⟩
    · rw [hM.size, ← hSn, hlenT]
    · exact hM.slot d ms.length (Nat.le_refl _) (hcond _) v (by rw [hSn]; exact hv)
    · exact hM.row b ms.length x v l hb (Nat.le_refl _) (hcond _) (by rw [hSn]; exact hx)
    · exact hM.new b ms.length x v l hb (Nat.le_refl _) (hcond _) (by rw [hSn]; exact hx)
  · have hj' : (Array.replicate all.size false).getD j false = true := hj
    by_cases e : j < (Array.replicate all.size false).size
    · rw [gd_lt e] at hj'; simp at hj'
    · rw [gd_ge e] at hj'; simp at hj'
end Go.Mini
