/- A part of the proof: MiniReg. No condition. -/
import Derived.Test.YtgknkkdemjjeoaaGreatDoorMiniOp
set_option linter.all false
set_option maxRecDepth 100000
namespace Go.Mini
set_option linter.unusedVariables false
set_option linter.unusedSimpArgs false
variable {P : Program} {G : Nat → Option V} {forb : Nat → Prop} {φ : Phi} {w : World} {t : List V} {a : Act} {D : Nat → Prop} {base : Nat} {h : H} {o : Oper}

/-- heaps only grow at their end -/
def LenOk (C : FuncId → List V → H → Option Res) : Prop := ∀ f args h x, C f args h = some x → h.length ≤ x.h.length ∧ (∀ b ∈ x.w, b < h.length) ∧ ∀ b, b < h.length → b ∉ x.w → x.h[b]? = h[b]?

theorem one_len {v : Option V} {h : H} {x : Res} (hx : one v h = some x) : x.h = h := by
  obtain ⟨u, _, rfl⟩ := one_some hx; rfl

theorem rowAt_lt {h : H} {b v : Nat} {x : Row} (hx : rowAt h b v = some x) : b < h.length := (List.getElem?_eq_some_iff.1 (rowAt_some hx).1).1

theorem newRow_frame {h : H} {sz : Nat} {els : List (List V)} : ∀ b, b < h.length → (newRow h sz els)[b]? = h[b]? := fun b hb => by simp only [newRow]; exact List.getElem?_append_left hb

theorem opV_len {C : FuncId → List V → H → Option Res} (hC : LenOk C) {t : List V} {m : MOp} {h : H} {x : Res} (hx : opV G C t m h = some x) : h.length ≤ x.h.length ∧ (∀ b ∈ x.w, b < h.length) ∧ ∀ b, b < h.length → b ∉ x.w → x.h[b]? = h[b]? := by
  cases m <;> simp only [opV] at hx
  case call => unfold op_call at hx; split at hx; exact hC _ _ _ _ hx; cases hx
  case alloc => unfold op_alloc at hx; cases hx; exact ⟨by simp [newRow], by simp, fun b hb _ => newRow_frame b hb⟩
  case store =>
    unfold op_store at hx
    split at hx
    · unfold storeV at hx
      split at hx
      · split at hx
        · rename_i hr
          repeat' split at hx
          all_goals first | (cases hx; exact ⟨by simp, by simpa using rowAt_lt hr, fun b hb hn => by simp at hn; rw [List.getElem?_set_ne (Ne.symm hn)]⟩) | cases hx
        · cases hx
      · cases hx
    · cases hx
  case append =>
    unfold op_append at hx
    split at hx
    · unfold appendV at hx
      split at hx
      · split at hx
        · repeat' split at hx
          all_goals first | (cases hx; exact ⟨Nat.le_refl _, by simp, fun _ _ _ => rfl⟩) | (cases hx; exact ⟨by simp [newRow], by simp, fun b hb _ => newRow_frame b hb⟩) | cases hx
        · repeat' split at hx
          all_goals first | (cases hx; exact ⟨Nat.le_refl _, by simp, fun _ _ _ => rfl⟩) | cases hx
        · split at hx
          · cases hx; exact ⟨Nat.le_refl _, by simp, fun _ _ _ => rfl⟩
          · split at hx
            · rename_i hr
              repeat' split at hx
              all_goals first
                | (cases hx; exact ⟨by simp [newRow], by simp, fun b hb _ => newRow_frame b hb⟩)
                | (cases hx; refine ⟨by simp, ?_, fun b hb hn => ?_⟩ <;> first | (simpa using rowAt_lt hr) | (simp at hn; rw [List.getElem?_set_ne (Ne.symm hn)]))
                | cases hx
            · cases hx
        · cases hx
      · cases hx
    · cases hx
  all_goals
    first | unfold op_mv at hx | unfold op_pick at hx | unfold op_box at hx | unfold op_build at hx | unfold op_bslice at hx | unfold op_load at hx | unfold op_nilc at hx | unfold op_bin at hx | unfold op_un at hx | unfold op_convI at hx | unfold op_s2b at hx | unfold op_b2s at hx | unfold op_mkfn at hx | unfold op_mkslice at hx | unfold op_cut at hx | unfold op_cutS at hx | unfold op_faddr at hx | unfold op_field at hx | unfold op_iaddr at hx | unfold op_iaddrA at hx | unfold op_index at hx | unfold op_idxB at hx | unfold op_cntB at hx | unfold op_idxA at hx | unfold op_extract at hx | unfold op_len at hx | unfold op_lenS at hx | unfold op_minmax at hx
    (try rw [forceI_eq] at hx)
    repeat' split at hx
    all_goals first
      | (obtain ⟨u, _, rfl⟩ := one_some hx; exact ⟨Nat.le_refl _, by simp, fun _ _ _ => rfl⟩)
      | (cases hx; exact ⟨Nat.le_refl _, by simp, fun _ _ _ => rfl⟩)
      | (cases hx; exact ⟨by simp [newRow], by simp, fun b hb _ => newRow_frame b hb⟩)
      | (simp only [forceI_eq] at hx; cases hx; exact ⟨Nat.le_refl _, by simp, fun _ _ _ => rfl⟩)
      | cases hx

theorem ins_mem {b c : Nat} {l : List Nat} : c ∈ ins b l ↔ c = b ∨ c ∈ l := by
  unfold ins
  split
  · rename_i h
    have : b ∈ l := by simpa using h
    constructor
    · exact .inr
    · rintro (rfl | h)
      · exact this
      · exact h
  · simp
theorem uni_mem {n0 c : Nat} : ∀ {l s : List Nat}, c ∈ uni n0 l s ↔ (c ∈ l ∧ c < n0) ∨ c ∈ s
  | [], s => by simp [uni]
  | x :: l, s => by
    unfold uni
    split
    · rename_i hx
      rw [ins_mem, uni_mem]
      simp only [List.mem_cons]
      constructor
      · rintro (rfl | ⟨h1, h2⟩ | h)
        · exact .inl ⟨.inl rfl, hx⟩
        · exact .inl ⟨.inr h1, h2⟩
        · exact .inr h
      · rintro (⟨rfl | h1, h2⟩ | h)
        · exact .inl rfl
        · exact .inr (.inl ⟨h1, h2⟩)
        · exact .inr (.inr h)
    · rename_i hx
      rw [uni_mem]
      simp only [List.mem_cons]
      constructor
      · rintro (⟨h1, h2⟩ | h)
        · exact .inl ⟨.inr h1, h2⟩
        · exact .inr h
      · rintro (⟨rfl | h1, h2⟩ | h)
        · exact (hx h2).elim
        · exact .inl ⟨h1, h2⟩
        · exact .inr h

theorem Tm.put (ht : Tm G forb φ w t a) {v : V} {c : Value} (hv : VR forb w φ v c) (d : Option Nat) : Tm G forb φ w (putV t d v) (a.put d c) := by
  cases d with
  | none => exact ht
  | some d =>
    refine ⟨by simp [Act.put, putV, ht.len], fun i u hu => ?_, ht.glob⟩
    simp only [putV] at hu
    rw [List.getElem?_set] at hu
    simp only [Act.put, Array.getElem?_setIfInBounds]
    split at hu
    · rename_i e; subst e
      split at hu
      · rename_i hl
        cases hu
        rw [if_pos rfl, if_pos (by rw [ht.len]; exact hl)]
        exact ⟨c, rfl, hv⟩
      · cases hu
    · rename_i e
      rw [if_neg e]
      exact ht.val i u hu

theorem Tm.ext {forb' : Nat → Prop} {φ' : Phi} {w' : World} (ht : Tm G forb φ w t a) (hE : Ext forb forb' w w') (hm : ∀ b v l, φ b v = some l → φ' b v = some l) : Tm G forb' φ' w' t a :=
  ⟨ht.len, fun i v hv => by obtain ⟨c, h1, h2⟩ := ht.val i v hv; exact ⟨c, h1, h2.ext hE φ' hm⟩, fun n v hv => (ht.glob n v hv).ext hE noPhi (fun _ _ _ h => h)⟩

theorem VR.bool_iff {v : V} {c : Value} (h : VR forb w φ v c) (b : Bool) : v = .bool b ↔ c = .bool b := by
  cases h <;> simp

theorem wanted_ok (ht : Tm G forb φ w t a) {all : Array Oper} {m : MOper} (hc : compOper P all.toList o = some m) : wantedV t m.guard = Region.wanted o (yielded all a.tmps) ∧ m.dst = o.dst ∧ compX P o = m.op := by
  unfold compOper at hc
  split at hc
  · rename_i h2; cases hc
    exact ⟨by simp [wantedV, Region.wanted, h2], rfl, rfl⟩
  · rename_i j want h2
    split at hc
    · rename_i d hd; cases hc
      refine ⟨?_, rfl, rfl⟩
      simp only [wantedV, Region.wanted, h2, yielded]
      have hd' : (all[j]?).bind (·.dst) = some d := by rw [← Array.getElem?_toList]; exact hd
      rw [hd']
      simp only [Option.bind_some]
      rcases hq : t[d]? with _ | v
      · have : a.tmps[d]? = none := by
          rw [Array.getElem?_eq_none]; rw [ht.len]; exact List.getElem?_eq_none_iff.1 hq
        simp [this]
      · obtain ⟨c, h3, h4⟩ := ht.val d v hq
        rw [h3]
        cases h4 <;> simp
    · cases hc

/-- What a piece of code of the small machine leaves. -/
structure Out (G : Nat → Option V) (forb : Nat → Prop) (φ : Phi) (D : Nat → Prop) (base n0 : Nat) (w : World) (s s' : St) (a : Act) (forb' : Nat → Prop) (φ' : Phi) (a' : Act) (w' : World) : Prop where
  tm : Tm G forb' φ' w' s'.t a'
  rel : Rel forb' φ' D base s'.h w'
  ext : Ext forb forb' w w'
  mono : ∀ b v l, φ b v = some l → φ' b v = some l
  far : ∀ b v, s'.h.length ≤ b → φ' b v = φ b v
  loc : ∀ b v l, b < n0 ∨ s'.h.length ≤ b → φ b v = some l → b ∉ s'.w → w'.heap[l.cb]? = w.heap[l.cb]?
  old : ∀ b v, b < n0 → b ∉ s'.w → φ' b v = φ b v
  defers : a'.defers = a.defers

theorem Out.refl {n0 : Nat} {s : St} (ht : Tm G forb φ w s.t a) (hR : Rel forb φ D base s.h w) : Out G forb φ D base n0 w s s a forb φ a w :=
  ⟨ht, hR, Ext.refl _ _, fun _ _ _ h => h, fun _ _ _ => rfl, fun _ _ _ _ _ _ => rfl, fun _ _ _ _ => rfl, rfl⟩

theorem Out.trans {n0 : Nat} {s s1 s2 : St} {forb1 forb2 : Nat → Prop} {φ1 φ2 : Phi} {a1 a2 : Act} {w1 w2 : World} (h : Out G forb φ D base n0 w s s1 a forb1 φ1 a1 w1) (k : Out G forb1 φ1 D base n0 w1 s1 s2 a1 forb2 φ2 a2 w2) (hw : ∀ b ∈ s1.w, b ∈ s2.w) (hl : s1.h.length ≤ s2.h.length) : Out G forb φ D base n0 w s s2 a forb2 φ2 a2 w2 := by
  refine ⟨k.tm, k.rel, h.ext.trans k.ext, fun b v l hb => k.mono _ _ _ (h.mono _ _ _ hb), fun b v hb => ?_, fun b v l hb hφ hn => ?_, fun b v hb hn => ?_, k.defers.trans h.defers⟩
  · rw [k.far b v hb, h.far b v (by omega)]
  · have h1 : b ∉ s1.w := fun h => hn (hw b h)
    rw [k.loc b v l hb (h.mono _ _ _ hφ) hn, h.loc b v l (by omega) hφ h1]
  · rw [k.old b v hb hn, h.old b v hb (fun h => hn (hw b h))]

/-- One operation behind another. -/
theorem out_put {n0 : Nat} {s : St} {x : Res} {c : Value} {w' : World} (ht : Tm G forb φ w s.t a) (hP : Post forb φ D base s.h w x c w') (hD0 : ∀ b, n0 ≤ b → D b) (hn : n0 ≤ s.h.length) (d : Option Nat) (hw0 : ∀ b ∈ x.w, b < s.h.length) :
    ∃ forb' φ', Out G forb φ D base n0 w s (regPut n0 s d x) a forb' φ' (a.put d c) w' := by
  obtain ⟨forb', φ', p1, p2, p3, p4, p5, p6, p7, p8⟩ := hP
  refine ⟨forb', φ', (ht.ext p3 p4).put p1 d, p2.part fun b hb => ?_, p3, p4, p5, fun b v l hb hφ hnw => p6 b v l hφ fun hx => ?_, fun b v hb hnw => p7 b v (by omega) fun hx => ?_, by cases d <;> rfl⟩
  · exact .inl hb
  · simp only [regPut] at hb hnw
    rcases hb with hb | hb
    · exact hnw (uni_mem.2 (.inl ⟨hx, hb⟩))
    · have := hw0 b hx; omega
  · exact hnw (uni_mem.2 (.inl ⟨hx, hb⟩))

theorem regV_mono {C : FuncId → List V → H → Option Res} (hC : LenOk C) {n0 : Nat} : ∀ {ms : List MOper} {s s' : St}, regV G C n0 ms s = some s' → s.h.length ≤ s'.h.length ∧ (∀ b ∈ s.r, b ∈ s'.r) ∧ (∀ b ∈ s.w, b ∈ s'.w)
  | [], s, s', h => by cases h; exact ⟨Nat.le_refl _, fun _ h => h, fun _ h => h⟩
  | m :: ms, s, s', h => by
    simp only [regV, cond_eq_ite] at h
    split at h
    · unfold regStep at h
      split at h
      · rename_i x hx
        obtain ⟨h1, h2, h3⟩ := regV_mono hC h
        have := (opV_len hC hx).1
        exact ⟨Nat.le_trans this h1, fun b hb => h2 b (uni_mem.2 (.inr hb)), fun b hb => h3 b (uni_mem.2 (.inr hb))⟩
      · cases h
    · have := regV_mono hC h; exact this

theorem putV_vb {n : Nat} {t : List V} {d : Option Nat} {v : V} (ht : ∀ x ∈ t, VB n x) (hv : VB n v) : ∀ x ∈ putV t d v, VB n x := by
  cases d with
  | none => exact ht
  | some d =>
    intro x hx
    rcases List.mem_or_eq_of_mem_set hx with h | rfl
    · exact ht x h
    · exact hv
theorem regPut_vb {C : FuncId → List V → H → Option Res} (hV : VbOk C) (hL : LenOk C) (hG : GB G) {m : MOp} (hm : m.okC) {n0 : Nat} {s : St} {d : Option Nat} {x : Res} (hB : ∀ v ∈ s.t, VB s.h.length v) (hH : HB s.h.length s.h) (hx : opV G C s.t m s.h = some x) : (∀ v ∈ (regPut n0 s d x).t, VB (regPut n0 s d x).h.length v) ∧ HB (regPut n0 s d x).h.length (regPut n0 s d x).h := by
  obtain ⟨h1, h2⟩ := opV_vb hV hG hm hB hH hx
  exact ⟨putV_vb (fun v hv => (hB v hv).mono (opV_len hL hx).1) h1, h2⟩

theorem regV_ok {C : FuncId → List V → H → Option Res} (hC : CallOk P G C) (hL : LenOk C) (hV : VbOk C) {n0 : Nat} (all : Array Oper) (Q : Exit → Act → World → Prop) : ∀ (rest : List Nat) (ms : List MOper) (s s' : St) (forb : Nat → Prop) (φ : Phi) (w : World) (a : Act),
    mapM? (fun i => match all[i]? with | some o => compOper P all.toList o | none => none) rest = some ms → regV G C n0 ms s = some s' → (∀ v ∈ s.t, VB s.h.length v) → HB s.h.length s.h → Tm G forb φ w s.t a → Rel forb φ D base s.h w → (∀ b, n0 ≤ b → D b) → (∀ b, (b ∈ s'.r ∨ b ∈ s'.w) → D b) → n0 ≤ s.h.length → (∀ b v, s.h.length ≤ b → b < s'.h.length → φ b v = none) →
    (∀ forb' φ' a' w', Out G forb φ D base n0 w s s' a forb' φ' a' w' → Q .normal a' w') → wpOps P all Q rest a w
  | [], ms, s, s', forb, φ, w, a, hm, hr, hB, hH, ht, hR, hD0, hDf, hn, hfree, hQ => by
    cases hm; cases hr
    exact hQ _ _ _ _ (Out.refl ht hR)
  | i :: rest, ms, s, s', forb, φ, w, a, hm, hr, hB, hH, ht, hR, hD0, hDf, hn, hfree, hQ => by
    unfold mapM? at hm
    split at hm
    · rename_i m ms' h1 h2
      cases hm
      split at h1
      · rename_i o ho
        obtain ⟨e1, e2, e3⟩ := wanted_ok ht h1
        simp only [wpOps, ho]
        simp only [regV, cond_eq_ite, e1] at hr
        split
        · rename_i hw
          rw [if_pos hw] at hr
          unfold regStep at hr
          split at hr
          · rename_i x hx
            have hmono := regV_mono hL hr
            have hop := opV_len hL hx
            have hxD : ∀ b, (b ∈ x.r ∨ b ∈ x.w) → D b := by
              intro b hb
              by_cases hb0 : n0 ≤ b
              · exact hD0 b hb0
              · refine hDf b ?_
                rcases hb with hb | hb
                · exact .inl (hmono.2.1 b (uni_mem.2 (.inl ⟨hb, by omega⟩)))
                · exact .inr (hmono.2.2 b (uni_mem.2 (.inl ⟨hb, by omega⟩)))
            have hg := opV_okX hC ht hR e3 (args_vb ht.gb (compX_okC e3) hB) hH hx hxD (fun b v hb1 hb2 => hfree b v hb1 (Nat.lt_of_lt_of_le hb2 hmono.1))
            refine .inl (hg.wp fun c w' hP => ?_)
            have hput := regPut_vb (n0 := n0) (d := m.dst) hV hL ht.gb (compX_okC e3) hB hH hx
            obtain ⟨forb', φ', hO⟩ := out_put ht hP hD0 hn m.dst hop.2.1
            rw [e2] at hO
            refine regV_ok hC hL hV all Q rest ms' _ s' forb' φ' w' _ h2 (by rw [e2] at hr; exact hr) (by rw [← e2]; exact hput.1) (by rw [← e2]; exact hput.2) hO.tm hO.rel hD0 hDf (Nat.le_trans hn hop.1) (fun b v hb1 hb2 => ?_) (fun f2 φ2 a2 w2 hO2 => ?_)
            · rw [hO.far b v hb1]; exact hfree b v (Nat.le_trans hop.1 hb1) hb2
            · rw [e2] at hmono; exact hQ f2 φ2 a2 w2 (hO.trans hO2 hmono.2.2 hmono.1)
          · cases hr
        · rename_i hw
          rw [if_neg hw] at hr
          have hmono := regV_mono hL hr
          have ht' : Tm G forb φ w (putV s.t m.dst .undef) (a.put o.dst Go.undef) := by rw [e2]; exact ht.put .undef o.dst
          refine regV_ok hC hL hV all Q rest ms' _ s' forb φ w _ h2 hr (putV_vb hB .undef) hH ht' hR hD0 hDf hn hfree (fun f2 φ2 a2 w2 hO2 => hQ f2 φ2 a2 w2 ?_)
          exact ⟨hO2.tm, hO2.rel, hO2.ext, hO2.mono, hO2.far, hO2.loc, hO2.old, by rw [hO2.defers]; cases o.dst <;> rfl⟩
      · cases h1
    · cases hm
end Go.Mini
