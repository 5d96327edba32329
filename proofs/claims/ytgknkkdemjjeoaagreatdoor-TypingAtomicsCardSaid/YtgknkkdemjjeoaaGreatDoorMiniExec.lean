/- A part of the proof: MiniExec. No condition. -/
import Derived.Test.YtgknkkdemjjeoaaGreatDoorMiniDraw4
import Derived.LoopN
import Derived.Control
set_option linter.all false
set_option maxRecDepth 100000
namespace Go.Mini
set_option linter.unusedVariables false
set_option linter.unusedSimpArgs false
variable {P : Program} {G : Nat → Option V} {D : Nat → Prop} {base : Nat} {C : FuncId → List V → H → Option Res} {n0 : Nat}

/-- What a piece of code leaves of the machine. -/
structure Fr (n0 : Nat) (s s' : St) : Prop where
  len : s.h.length ≤ s'.h.length
  r : ∀ b ∈ s.r, b ∈ s'.r
  w : ∀ b ∈ s.w, b ∈ s'.w
  low : ∀ b ∈ s'.w, b ∈ s.w ∨ b < n0
  same : ∀ b, b < n0 → b ∉ s'.w → s'.h[b]? = s.h[b]?
  vb : (∀ v ∈ s.t, VB s.h.length v) → HB s.h.length s.h → (∀ v ∈ s'.t, VB s'.h.length v) ∧ HB s'.h.length s'.h

theorem Fr.refl (s : St) : Fr n0 s s := ⟨Nat.le_refl _, fun _ h => h, fun _ h => h, fun _ h => .inl h, fun _ _ _ => rfl, fun h1 h2 => ⟨h1, h2⟩⟩
theorem Fr.trans {s s1 s2 : St} (h : Fr n0 s s1) (k : Fr n0 s1 s2) : Fr n0 s s2 := by
  refine ⟨Nat.le_trans h.len k.len, fun b hb => k.r b (h.r b hb), fun b hb => k.w b (h.w b hb), fun b hb => ?_, fun b hb hn => ?_, fun h1 h2 => ?_⟩
  · rcases k.low b hb with h1 | h1
    · exact h.low b h1
    · exact .inr h1
  · rw [k.same b hb hn, h.same b hb fun h1 => hn (k.w b h1)]
  · obtain ⟨h3, h4⟩ := h.vb h1 h2; exact k.vb h3 h4

theorem fr_put (hL : LenOk C) (hV : VbOk C) (hG : GB G) {s : St} {m : MOp} (hm : m.okC) {x : Res} (hx : opV G C s.t m s.h = some x) (hn : n0 ≤ s.h.length) (d : Option Nat) : Fr n0 s (regPut n0 s d x) := by
  obtain ⟨h1, h2, h3⟩ := opV_len hL hx
  refine ⟨h1, fun b hb => uni_mem.2 (.inr hb), fun b hb => uni_mem.2 (.inr hb), fun b hb => ?_, fun b hb hnw => ?_, fun h4 h5 => regPut_vb hV hL hG hm h4 h5 hx⟩
  · rcases uni_mem.1 hb with ⟨_, h4⟩ | h4
    · exact .inr h4
    · exact .inl h4
  · exact h3 b (by omega) fun h4 => hnw (uni_mem.2 (.inl ⟨h4, hb⟩))
theorem fr_skip {s : St} (d : Option Nat) : Fr n0 s ⟨putV s.t d .undef, s.h, s.r, s.w⟩ :=
  ⟨Nat.le_refl _, fun _ h => h, fun _ h => h, fun _ h => .inl h, fun _ _ _ => rfl, fun h1 h2 => ⟨putV_vb h1 .undef, h2⟩⟩

theorem regV_fr (hL : LenOk C) (hV : VbOk C) (hG : GB G) : ∀ {ms : List MOper} {s s' : St}, (∀ m ∈ ms, m.op.okC) → regV G C n0 ms s = some s' → n0 ≤ s.h.length → Fr n0 s s'
  | [], s, s', _, h, _ => by cases h; exact .refl _
  | m :: ms, s, s', hm, h, hn => by
    simp only [regV, cond_eq_ite] at h
    split at h
    · unfold regStep at h
      split at h
      · rename_i x hx
        have h1 := fr_put hL hV hG (hm m (by simp)) hx hn m.dst
        exact h1.trans (regV_fr hL hV hG (fun m' h' => hm m' (by simp [h'])) h (Nat.le_trans hn h1.len))
      · cases h
    · exact (fr_skip m.dst).trans (regV_fr hL hV hG (fun m' h' => hm m' (by simp [h'])) h hn)
theorem drawV_fr (hL : LenOk C) (hV : VbOk C) (hG : GB G) : ∀ {ms : List MOper} {j : Nat} {masks : List Nat} {fs : List (Nat × List Nat × List Nat)} {s s' : St}, (∀ m ∈ ms, m.op.okC) → drawV G C n0 ms j masks fs s = some s' → n0 ≤ s.h.length → Fr n0 s s'
  | [], j, masks, fs, s, s', _, h, _ => by simp only [drawV] at h; cases h; exact .refl _
  | m :: ms, j, [], fs, s, s', _, h, _ => by simp [drawV] at h
  | m :: ms, j, k :: masks, fs, s, s', hm, h, hn => by
    simp only [drawV, cond_eq_ite] at h
    split at h
    · unfold drawStep at h
      split at h
      · rename_i x hx
        simp only [cond_eq_ite] at h
        split at h
        · have h1 := fr_put hL hV hG (hm m (by simp)) hx hn m.dst
          exact h1.trans (drawV_fr hL hV hG (fun m' h' => hm m' (by simp [h'])) h (Nat.le_trans hn h1.len))
        · cases h
      · cases h
    · exact (fr_skip m.dst).trans (drawV_fr hL hV hG (fun m' h' => hm m' (by simp [h'])) h hn)

theorem compOper_okC {ops : List Oper} {o : Oper} {m : MOper} (h : compOper P ops o = some m) : m.op.okC := by
  unfold compOper at h
  split at h
  · cases h; exact compX_okC rfl
  · split at h
    · cases h; exact compX_okC rfl
    · cases h
theorem opers_okC {ops ops' : List Oper} {ms : List MOper} (h : mapM? (compOper P ops) ops' = some ms) : ∀ m ∈ ms, m.op.okC := by
  intro m hm
  obtain ⟨i, hi⟩ := List.getElem?_of_mem hm
  obtain ⟨x, _, h2⟩ := mapM?_get h i m hi
  exact compOper_okC h2

/-- the small machine's code comes of the program's -/
def Comes (P : Program) (c : MCode) : Prop := ∃ k, comp P k = some c

theorem exec_fr (hL : LenOk C) (hV : VbOk C) (hG : GB G) : ∀ {n : Nat} {c : Code} {mc : MCode} {s s' : St} {e : Ex}, comp P c = some mc → exec G C n0 n mc s = some (e, s') → n0 ≤ s.h.length → Fr n0 s s'
  | 0, c, mc, s, s', e, _, h, _ => by simp [exec] at h
  | n + 1, c, mc, s, s', e, hc, h, hn => by
    simp only [exec] at h
    cases c <;> simp only [comp] at hc <;> try (cases hc; done)
    case skip => cases hc; cases h; exact .refl _
    case ret => cases hc; cases h; exact .refl _
    case exit id => cases hc; cases h; exact .refl _
    case seq x y =>
      split at hc
      · rename_i a b ha hb; cases hc
        simp only [exStep] at h
        unfold exSeq at h
        split at h
        · rename_i s1 h1
          have k1 := exec_fr hL hV hG ha h1 hn
          exact k1.trans (exec_fr hL hV hG hb h (Nat.le_trans hn k1.len))
        · exact exec_fr hL hV hG ha h hn
      · cases hc
    case cond d x y =>
      split at hc
      · rename_i d' a b hd ha hb; cases hc
        simp only [exStep] at h
        unfold exCond at h
        split at h
        · exact exec_fr hL hV hG ha h hn
        · exact exec_fr hL hV hG hb h hn
        · cases h
      · cases hc
    case block id x =>
      obtain ⟨a, ha, rfl⟩ := map_inv hc
      simp only [exStep] at h
      unfold exBlock at h
      split at h
      · rename_i h1
        split at h <;> cases h <;> exact exec_fr hL hV hG ha h1 hn
      · exact exec_fr hL hV hG ha h hn
    case loop x =>
      obtain ⟨a, ha, rfl⟩ := map_inv hc
      simp only [exStep] at h
      unfold exSeq at h
      split at h
      · rename_i s1 h1
        have k1 := exec_fr hL hV hG ha h1 hn
        exact k1.trans (exec_fr (c := .loop x) hL hV hG hc h (Nat.le_trans hn k1.len))
      · exact exec_fr hL hV hG ha h hn
    case region id ops draw =>
      split at hc
      · rename_i ms hms
        split at hc
        · split at hc
          · split at hc
            · cases hc
              simp only [exStep] at h
              unfold exReg at h
              split at h
              · rename_i h1; cases h; exact drawV_fr hL hV hG (opers_okC hms) h1 hn
              · cases h
            · cases hc
          · cases hc
        · cases hc
          simp only [exStep] at h
          unfold exReg at h
          split at h
          · rename_i h1; cases h; exact regV_fr hL hV hG (opers_okC hms) h1 hn
          · cases h
      · cases hc

theorem mapM?_range {α β : Type} {f : α → Option β} {g : Nat → Option β} : ∀ {l : List α} {k : Nat}, (∀ (i : Nat) x, l[i]? = some x → g (k + i) = f x) → mapM? g (List.range' k l.length) = mapM? f l
  | [], k, _ => rfl
  | x :: l, k, h => by
    have h0 := h 0 x rfl
    simp only [List.length_cons, List.range'_succ, mapM?]
    rw [mapM?_range (l := l) (k := k + 1) (f := f) fun i y hy => by have := h (i + 1) y (by simpa using hy); rw [show k + 1 + i = k + (i + 1) by omega]; exact this]
    simp only [Nat.add_zero] at h0
    rw [h0]

def Ex.to : Ex → Exit
  | .normal => .normal
  | .exit id => .exit id
  | .ret => .ret

/-- What is asked where a piece of code begins. -/
structure At (G : Nat → Option V) (D : Nat → Prop) (base n0 : Nat) (s s' : St) (forb : Nat → Prop) (φ : Phi) (w : World) (a : Act) : Prop where
  vb : ∀ v ∈ s.t, VB s.h.length v
  hb : HB s.h.length s.h
  tm : Tm G forb φ w s.t a
  rel : Rel forb φ D base s.h w
  free : ∀ b v, s.h.length ≤ b → b < s'.h.length → φ b v = none

theorem At.cut {s s1 s' : St} {forb φ w a} (h : At G D base n0 s s' forb φ w a) (hl : s1.h.length ≤ s'.h.length) : At G D base n0 s s1 forb φ w a :=
  ⟨h.vb, h.hb, h.tm, h.rel, fun b v h1 h2 => h.free b v h1 (by omega)⟩
theorem At.next {s s1 s' : St} {forb φ w a forb' φ' w' a'} (h : At G D base n0 s s' forb φ w a) (hf : Fr n0 s s1) (hO : Out G forb φ D base n0 w s s1 a forb' φ' a' w') : At G D base n0 s1 s' forb' φ' w' a' := by
  obtain ⟨h1, h2⟩ := hf.vb h.vb h.hb
  exact ⟨h1, h2, hO.tm, hO.rel, fun b v h3 h4 => by rw [hO.far b v h3]; exact h.free b v (Nat.le_trans hf.len h3) h4⟩

/-- Where the small machine goes, the model goes. -/
theorem exec_ok (hC : CallOk P G C) (hL : LenOk C) (hV : VbOk C) (hG : GB G) (hmix : P.follows .mixedOrders = true) (hD0 : ∀ b, n0 ≤ b → D b) : ∀ (n : Nat),
    (∀ {c : Code} {mc : MCode} {s s' : St} {e : Ex} {forb φ w a}, comp P c = some mc → exec G C n0 n mc s = some (e, s') → n0 ≤ s.h.length → At G D base n0 s s' forb φ w a → (∀ b, (b ∈ s'.r ∨ b ∈ s'.w) → D b) → ∀ Q : Exit → Act → World → Prop, (∀ forb' φ' a' w', Out G forb φ D base n0 w s s' a forb' φ' a' w' → Q e.to a' w') → c.wp P Q a w) ∧
    (∀ {c : Code} {mc : MCode} {s s' : St} {e : Ex} {forb φ w a}, comp P c = some mc → exec G C n0 n (.loop mc) s = some (e, s') → n0 ≤ s.h.length → At G D base n0 s s' forb φ w a → (∀ b, (b ∈ s'.r ∨ b ∈ s'.w) → D b) → ∀ Q : Exit → Act → World → Prop, (∀ forb' φ' a' w', Out G forb φ D base n0 w s s' a forb' φ' a' w' → Q e.to a' w') → Code.rounds P c Q n a w)
  | 0 => ⟨fun _ h => by simp [exec] at h, fun _ h => by simp [exec] at h⟩
  | n + 1 => by
    have hloop : ∀ {c : Code} {mc : MCode} {s s' : St} {e : Ex} {forb φ w a}, comp P c = some mc → exec G C n0 (n + 1) (.loop mc) s = some (e, s') → n0 ≤ s.h.length → At G D base n0 s s' forb φ w a → (∀ b, (b ∈ s'.r ∨ b ∈ s'.w) → D b) → ∀ Q : Exit → Act → World → Prop, (∀ forb' φ' a' w', Out G forb φ D base n0 w s s' a forb' φ' a' w' → Q e.to a' w') → Code.rounds P c Q (n + 1) a w := by
      intro c mc s s' e forb φ w a hc h hn hA hDf Q hQ
      simp only [exec, exStep] at h
      rw [rounds_succ]
      unfold exSeq at h
      split at h
      · rename_i s1 h1
        have f1 := exec_fr hL hV hG hc h1 hn
        have f2 : Fr n0 s1 s' := exec_fr (P := P) (c := .loop c) hL hV hG (by simp [comp, hc]) h (Nat.le_trans hn f1.len)
        refine (exec_ok hC hL hV hG hmix hD0 n).1 hc h1 hn (hA.cut f2.len) (fun b hb => hDf b (hb.imp (f2.r b) (f2.w b))) _ fun forb' φ' a' w' hO => ?_
        exact (exec_ok hC hL hV hG hmix hD0 n).2 hc h (Nat.le_trans hn f1.len) (hA.next f1 hO) hDf Q fun f2' φ2 a2 w2 hO2 => hQ _ _ _ _ (hO.trans hO2 f2.w f2.len)
      · rename_i hne
        refine (exec_ok hC hL hV hG hmix hD0 n).1 hc h hn hA hDf _ fun forb' φ' a' w' hO => ?_
        have hq := hQ forb' φ' a' w' hO
        cases e with
        | normal => exact (hne s' h).elim
        | exit id => exact hq
        | ret => exact hq
    refine ⟨?_, hloop⟩
    intro c mc s s' e forb φ w a hc h hn hA hDf Q hQ
    have h' := h
    simp only [exec] at h
    cases c <;> simp only [comp] at hc <;> try (cases hc; done)
    case skip => cases hc; cases h; exact wp_skip (hQ _ _ _ _ (Out.refl hA.tm hA.rel))
    case ret => cases hc; cases h; exact wp_ret (hQ _ _ _ _ (Out.refl hA.tm hA.rel))
    case exit id => cases hc; cases h; exact wp_exit (hQ _ _ _ _ (Out.refl hA.tm hA.rel))
    case seq x y =>
      split at hc
      · rename_i ma mb ha hb; cases hc
        simp only [exStep] at h
        unfold exSeq at h
        refine wp_seq ?_
        split at h
        · rename_i s1 h1
          have f1 := exec_fr hL hV hG ha h1 hn
          have f2 := exec_fr hL hV hG hb h (Nat.le_trans hn f1.len)
          refine (exec_ok hC hL hV hG hmix hD0 n).1 ha h1 hn (hA.cut f2.len) (fun b hb => hDf b (hb.imp (f2.r b) (f2.w b))) _ fun forb' φ' a' w' hO => ?_
          exact (exec_ok hC hL hV hG hmix hD0 n).1 hb h (Nat.le_trans hn f1.len) (hA.next f1 hO) hDf Q fun f2' φ2 a2 w2 hO2 => hQ _ _ _ _ (hO.trans hO2 f2.w f2.len)
        · rename_i hne
          refine (exec_ok hC hL hV hG hmix hD0 n).1 ha h hn hA hDf _ fun forb' φ' a' w' hO => ?_
          have hq := hQ forb' φ' a' w' hO
          cases e with
          | normal => exact (hne s' h).elim
          | exit id => exact hq
          | ret => exact hq
      · cases hc
    case cond d x y =>
      split at hc
      · rename_i d' ma mb hd ha hb; cases hc
        simp only [exStep] at h
        unfold exCond at h
        split at h
        · rename_i hv
          have hb := ev_ok hA.tm hd hv
          have hb' : a.eval d = .bool true := by cases hq : a.eval d <;> rw [hq] at hb <;> cases hb; rfl
          exact wp_cond_true hb' ((exec_ok hC hL hV hG hmix hD0 n).1 ha h hn hA hDf Q hQ)
        · rename_i hv
          have hb1 := ev_ok hA.tm hd hv
          have hb' : a.eval d = .bool false := by cases hq : a.eval d <;> rw [hq] at hb1 <;> cases hb1; rfl
          exact wp_cond_false hb' ((exec_ok hC hL hV hG hmix hD0 n).1 hb h hn hA hDf Q hQ)
        · cases h
      · cases hc
    case block id x =>
      obtain ⟨ma, ha, rfl⟩ := map_inv hc
      simp only [exStep] at h
      refine wp_block ?_
      unfold exBlock at h
      split at h
      · rename_i id' s1 h1
        split at h
        · rename_i he; cases h
          refine (exec_ok hC hL hV hG hmix hD0 n).1 ha h1 hn hA hDf _ fun forb' φ' a' w' hO => ?_
          simp only [Ex.to, Exit.inBlock, he, if_true]
          exact hQ _ _ _ _ hO
        · rename_i he; cases h
          refine (exec_ok hC hL hV hG hmix hD0 n).1 ha h1 hn hA hDf _ fun forb' φ' a' w' hO => ?_
          simp only [Ex.to, Exit.inBlock, he, if_false]
          exact hQ _ _ _ _ hO
      · rename_i hne
        refine (exec_ok hC hL hV hG hmix hD0 n).1 ha h hn hA hDf _ fun forb' φ' a' w' hO => ?_
        have hq := hQ forb' φ' a' w' hO
        cases e with
        | normal => exact hq
        | exit id' => exact (hne id' s' h).elim
        | ret => exact hq
    case loop x =>
      obtain ⟨ma, ha, rfl⟩ := map_inv hc
      exact wp_loop_rounds (n + 1) (hloop ha h' hn hA hDf Q hQ)
    case region id ops draw =>
      split at hc
      · rename_i ms hms
        split at hc
        · rename_i hdraw
          split at hc
          · rename_i ks hks
            split at hc
            · rename_i hsl; cases hc
              simp only [exStep] at h
              unfold exReg at h
              split at h
              · rename_i s1 h1; cases h
                subst hdraw
                have hE := Ext.drew forb w (w.drawn + 1)
                refine wp_region_any hmix (drawV_ok hC hL hV hms hks hsl h1 hA.vb hA.hb (hA.tm.ext hE fun _ _ _ h => h) (hA.rel.drew _) hD0 hDf hn hA.free Q fun forb' φ' a' w' hO => hQ forb' φ' a' w' ?_)
                exact ⟨hO.tm, hO.rel, hE.trans hO.ext, hO.mono, hO.far, hO.loc, hO.old, hO.defers⟩
              · cases h
            · cases hc
          · cases hc
        · rename_i hdraw; cases hc
          simp only [exStep] at h
          unfold exReg at h
          split at h
          · rename_i s1 h1; cases h
            have : draw = false := by simpa using hdraw
            subst this
            refine wp_region (regV_ok hC hL hV ops Q (List.range ops.size) ms s s' forb φ w a ?_ h1 hA.vb hA.hb hA.tm hA.rel hD0 hDf hn hA.free hQ)
            rw [← hms, List.range_eq_range']
            refine mapM?_range (l := ops.toList) fun i x hx => ?_
            simp only [Array.getElem?_toList] at hx
            simp [hx]
          · cases h
      · cases hc
end Go.Mini
