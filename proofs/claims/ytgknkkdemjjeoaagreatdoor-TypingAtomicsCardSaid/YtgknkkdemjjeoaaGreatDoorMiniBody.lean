/- A part of the proof: MiniBody. No condition. -/
import Derived.Test.YtgknkkdemjjeoaaGreatDoorMiniEnd
set_option linter.all false
set_option maxRecDepth 100000
namespace Go.Mini
set_option linter.unusedVariables false
set_option linter.unusedSimpArgs false
variable {P : Program} {G : Nat → Option V} {forb forb2 : Nat → Prop} {φ ψ : Phi} {w : World} {D : Nat → Prop} {base n0 : Nat} {h : H} {t : List V} {a : Act} {C : FuncId → List V → H → Option Res}

/-- an environment tells the program's functions -/
structure FnOk (P : Program) (E : Env) : Prop where
  fn : ∀ f m, E.fn f = some m → ∃ fn, P.funcs[f]? = some fn ∧ compF P fn = some m
  gb : GB E.G

theorem compF_some {fn : Func} {m : MFunc} (h : compF P fn = some m) : (fn.name == "runtime.NumGoroutine") = false ∧ ∃ k, fn.body = some k ∧ comp P k = some m.body ∧ m.ntmps = fn.ntmps ∧ mapM? (compRes P) fn.results.toList = some m.res := by
  unfold compF at h
  split at h
  · cases h
  · rename_i hn
    split at h
    · rename_i k hk
      split at h
      · rename_i h1 h2; cases h; exact ⟨by simpa using hn, k, hk, h1, rfl, h2⟩
      · cases h
    · cases h

/-- what a call of a body is -/
theorem callBody_some {E : Env} {n : Nat} {keep : Bool} {args : List V} {m : MFunc} {x : Res} (hx : callBody E C n keep args h (some m) = some x) :
    ∃ e s vs r1, exec E.G C h.length n m.body ⟨args ++ List.replicate (m.ntmps - args.length) .undef, h, [], []⟩ = some (e, s) ∧ (e = .normal ∨ e = .ret) ∧ resV s.h s.t m.res = some (vs, r1) ∧ callOut h.length keep (tupV vs) r1 s = some x := by
  simp only [callBody] at hx
  unfold callEnd at hx
  split at hx
  · rename_i s hs
    unfold callRes at hx
    split at hx
    · rename_i vs r1 hr; exact ⟨_, s, vs, r1, hs, .inl rfl, hr, hx⟩
    · cases hx
  · rename_i s hs
    unfold callRes at hx
    split at hx
    · rename_i vs r1 hr; exact ⟨_, s, vs, r1, hs, .inr rfl, hr, hx⟩
    · cases hx
  · cases hx

theorem callOut_keep {v : V} {r1 : List Nat} {s : St} {x : Res} (hx : callOut n0 true v r1 s = some x) : x = ⟨v, s.h, uni n0 r1 s.r, s.w⟩ := by simp [callOut] at hx; exact hx.symm
theorem callOut_frozen {v : V} {r1 : List Nat} {s : St} {x : Res} (hx : callOut n0 false v r1 s = some x) : ∃ u h', fz n0 s.h 100 false v = some u ∧ fzBlk n0 s.h s.w (s.h.take n0) = some h' ∧ x = ⟨u, h', uni n0 r1 s.r, s.w⟩ := by
  simp only [callOut, cond_false] at hx
  split at hx
  · rename_i u h' h1 h2; cases hx; exact ⟨u, h', h1, h2, rfl⟩
  · cases hx

theorem resV_vb (hB : ∀ v ∈ t, VB h.length v) (hH : HB h.length h) : ∀ {ms : List MRes} {vs : List V} {r : List Nat}, resV h t ms = some (vs, r) → ∀ v ∈ vs, VB h.length v
  | [], vs, r, hr => by simp only [resV] at hr; cases hr; simp
  | .tmp i :: ms, vs, r, hr => by
    simp only [resV] at hr
    split at hr
    · rename_i v vs' r' h3 h4; cases hr
      intro u hu
      rcases List.mem_cons.1 hu with rfl | hu
      · exact hB _ (List.mem_of_getElem? h3)
      · exact resV_vb hB hH h4 u hu
    · cases hr
  | .cell i agg :: ms, vs, r, hr => by
    simp only [resV] at hr
    split at hr
    · rename_i v vs' r' h3 h4
      split at hr
      · rename_i cells r1 hd
        split at hr
        · rename_i u hu; cases hr
          intro y hy
          rcases List.mem_cons.1 hy with rfl | hy
          · exact loadC_vb (deref_vb hH (hB _ (List.mem_of_getElem? h3)) hd) hu
          · exact resV_vb hB hH h4 y hy
        · cases hr
      · cases hr
    · cases hr
theorem tupV_vb {vs : List V} {n : Nat} (h : ∀ v ∈ vs, VB n v) : VB n (tupV vs) := by
  unfold tupV
  split
  · exact h _ (by simp)
  · exact .tup h

theorem exec_fr' (hL : LenOk C) (hV : VbOk C) {E : Env} (hE : FnOk P E) {f : FuncId} {m : MFunc} (hm : E.fn f = some m) {n : Nat} {args : List V} {e : Ex} {s : St} (hx : exec E.G C h.length n m.body ⟨args ++ List.replicate (m.ntmps - args.length) .undef, h, [], []⟩ = some (e, s)) : Fr h.length ⟨args ++ List.replicate (m.ntmps - args.length) .undef, h, [], []⟩ s := by
  obtain ⟨fn, h1, h2⟩ := hE.fn f m hm
  obtain ⟨_, k, _, h3, _⟩ := compF_some h2
  exact exec_fr hL hV hE.gb h3 hx (Nat.le_refl _)

theorem args_pad {args : List V} {n k : Nat} (h : ∀ v ∈ args, VB n v) : ∀ v ∈ args ++ List.replicate k .undef, VB n v := by
  intro v hv
  rcases List.mem_append.1 hv with h1 | h1
  · exact h v h1
  · obtain ⟨_, rfl⟩ := List.mem_replicate.1 h1; exact .undef

theorem takeH_get {l : H} {n b : Nat} (h : b < n) : (l.take n)[b]? = l[b]? := by rw [List.getElem?_take, if_pos h]

theorem fzBlk_vb {N : Nat} (hH : HB N h) {bs : List Nat} {h1 h2 : H} (hf : fzBlk n0 h bs h1 = some h2) (h1b : ∀ b x, b ∉ bs → h1[b]? = some (.row x) → ∀ el ∈ x.els, ∀ y ∈ el, VB n0 y) : HB n0 h2 := by
  obtain ⟨g1, g2, g3⟩ := fzBlk_ok hf
  intro b x hb el hel y hy
  by_cases e : b ∈ bs
  · have hlt : b < h1.length := by rw [← g1]; exact (List.getElem?_eq_some_iff.1 hb).1
    obtain ⟨x0, els, q1, q2, q3⟩ := g3 b e hlt
    rw [hb] at q3; cases q3
    obtain ⟨el0, p1, p2⟩ := mapM?_mem q2 hel
    obtain ⟨y0, p3, p4⟩ := mapM?_mem p2 hy
    exact (fz_vb (hH b x0 q1 el0 p1 y0 p3) hH p4).2
  · rw [g2 b e] at hb
    exact h1b b x e hb el hel y hy

theorem body_len (hL : LenOk C) (hV : VbOk C) {E : Env} (hE : FnOk P E) {f : FuncId} {m : MFunc} (hm : E.fn f = some m) {n : Nat} {keep : Bool} {args : List V} {x : Res} (hx : callBody E C n keep args h (some m) = some x) : h.length ≤ x.h.length ∧ (∀ b ∈ x.w, b < h.length) ∧ ∀ b, b < h.length → b ∉ x.w → x.h[b]? = h[b]? := by
  obtain ⟨e, s, vs, r1, h1, _, h3, h4⟩ := callBody_some hx
  have hF := exec_fr' hL hV hE hm h1
  have hw : ∀ b ∈ s.w, b < h.length := fun b hb => by rcases hF.low b hb with h5 | h5; exact absurd h5 (by simp); exact h5
  cases keep with
  | true => rw [callOut_keep h4]; exact ⟨hF.len, hw, hF.same⟩
  | false =>
    obtain ⟨u, h', h5, h6, rfl⟩ := callOut_frozen h4
    obtain ⟨g1, g2, g3⟩ := fzBlk_ok h6
    have hlen : h.length ≤ s.h.length := hF.len
    refine ⟨by simp only [g1, List.length_take]; omega, hw, fun b hb hn => ?_⟩
    show h'[b]? = h[b]?
    rw [g2 b hn, takeH_get hb]; exact hF.same b hb hn
theorem body_vb (hL : LenOk C) (hV : VbOk C) {E : Env} (hE : FnOk P E) {f : FuncId} {m : MFunc} (hm : E.fn f = some m) {n : Nat} {keep : Bool} {args : List V} {x : Res} (hx : callBody E C n keep args h (some m) = some x) (ha : ∀ v ∈ args, VB h.length v) (hh : HB h.length h) : VB x.h.length x.v ∧ HB x.h.length x.h := by
  obtain ⟨e, s, vs, r1, h1, _, h3, h4⟩ := callBody_some hx
  have hF := exec_fr' hL hV hE hm h1
  obtain ⟨v1, v2⟩ := hF.vb (args_pad ha) hh
  have v3 := tupV_vb (resV_vb v1 v2 h3)
  cases keep with
  | true => rw [callOut_keep h4]; exact ⟨v3, v2⟩
  | false =>
    obtain ⟨u, h', h5, h6, rfl⟩ := callOut_frozen h4
    have hlen : h.length ≤ s.h.length := hF.len
    have g1 := (fzBlk_ok h6).1
    have : h'.length = h.length := by rw [g1, List.length_take]; omega
    show VB h'.length u ∧ HB h'.length h'
    rw [this]
    refine ⟨(fz_vb v3 v2 h5).2, fzBlk_vb v2 h6 fun b y hn hb => ?_⟩
    have hb' : b < h.length := by
      have := (List.getElem?_eq_some_iff.1 hb).1
      simp at this; omega
    rw [takeH_get hb'] at hb
    rw [hF.same b hb' hn] at hb
    exact hh b y hb

/-- the blocks from n0 on, moved up by k -/
def up (n0 k : Nat) (φ : Phi) : Phi := fun b v => if b < n0 then φ b v else if b < n0 + k then none else φ (b - k) v
theorem up_low {k b v : Nat} (h : b < n0) : up n0 k φ b v = φ b v := by simp [up, h]
theorem up_mid {k b v : Nat} (h : n0 ≤ b) (h2 : b < n0 + k) : up n0 k φ b v = none := by simp [up, show ¬ b < n0 by omega, h2]
theorem up_high {k b v : Nat} (h : n0 ≤ b) : up n0 k φ (b + k) v = φ b v := by simp [up, show ¬ b + k < n0 by omega, show ¬ b < n0 by omega]
theorem up_some {k b v : Nat} {l : Loc} (h : up n0 k φ b v = some l) : (b < n0 ∧ φ b v = some l) ∨ (∃ b', n0 ≤ b' ∧ b = b' + k ∧ φ b' v = some l) := by
  unfold up at h
  split at h
  · exact .inl ⟨‹_›, h⟩
  · split at h
    · cases h
    · exact .inr ⟨b - k, by omega, by omega, h⟩

theorem rel_up (hR : Rel forb φ D base h w) (hH : HB h.length h) (k : Nat) : Rel forb (up h.length k φ) (fun b => D b ∨ h.length ≤ b) base h w := by
  refine ⟨fun b x v l hb hx h1 h2 hl => ?_, fun b v l hl => ?_, fun b v l b' v' l' hl hl' hcb => ?_, hR.top, fun b x v l hb hx hl => ?_⟩
  · have hlt := (List.getElem?_eq_some_iff.1 hx).1
    rw [up_low hlt] at hl
    obtain ⟨k1, k2, k3, k4, cells, ty, fr, k5, k6, k7⟩ := hR.row b x v l (hb.resolve_right (by omega)) hx h1 h2 hl
    refine ⟨k1, k2, k3, k4, cells, ty, fr, k5, k6, fun i el o y p1 p2 p3 p4 => ?_⟩
    obtain ⟨q1, c, q2, q3⟩ := k7 i el o y p1 p2 p3 p4
    exact ⟨q1, c, q2, q3.under (hH b x hx el (List.mem_of_getElem? p3) y (List.mem_of_getElem? p4)) fun b' v' l' hb' hl' => by rw [up_low hb']; exact hl'⟩
  · rcases up_some hl with ⟨_, h1⟩ | ⟨b', _, _, h1⟩ <;> exact hR.low _ _ _ h1
  · rcases up_some hl with ⟨g1, g2⟩ | ⟨c, g1, g2, g3⟩ <;> rcases up_some hl' with ⟨g1', g2'⟩ | ⟨c', g1', g2', g3'⟩
    · exact hR.apart _ _ _ _ _ _ g2 g2' hcb
    · have := (hR.apart _ _ _ _ _ _ g2 g3' hcb).1; omega
    · have := (hR.apart _ _ _ _ _ _ g3 g2' hcb).1; omega
    · obtain ⟨e1, e2⟩ := hR.apart _ _ _ _ _ _ g3 g3' hcb
      exact ⟨by omega, e2⟩
  · have hlt := (List.getElem?_eq_some_iff.1 hx).1
    rw [up_low hlt] at hl
    exact hR.new b x v l (hb.resolve_right (by omega)) hx hl

theorem rel_wide (hR : Rel forb φ D base h w) : Rel forb φ (fun b => D b ∨ h.length ≤ b) base h w :=
  ⟨fun b x v l hb hx => hR.row b x v l (hb.resolve_right (by have := (List.getElem?_eq_some_iff.1 hx).1; omega)) hx, hR.low, hR.apart, hR.top, fun b x v l hb hx => hR.new b x v l (hb.resolve_right (by have := (List.getElem?_eq_some_iff.1 hx).1; omega)) hx⟩

/-- A call of a body is the model's call. -/
theorem body_ok {E : Env} (hC : CallOk P E.G C) (hL : LenOk C) (hV : VbOk C) (hE : FnOk P E) (hmix : P.follows .mixedOrders = true) {f : FuncId} {m : MFunc} (hm : E.fn f = some m) {n : Nat} {keep : Bool} {args : List V} {x : Res} (hx : callBody E C n keep args h (some m) = some x) :
    Enters P f ∧ ∀ forb φ D base w cargs, (∀ v ∈ args, VB h.length v) → HB h.length h → VRs forb w φ args cargs → Rel forb φ D base h w → (∀ n v, E.G n = some v → VR forb w noPhi v (.pointer (some ⟨n, 0, none⟩))) → (∀ b, (b ∈ x.r ∨ b ∈ x.w) → D b) → (∀ b v, h.length ≤ b → b < x.h.length → φ b v = none) →
      Calls P f ⟨cargs⟩ w (fun e w' => ∃ c, e = .returned c ∧ Post forb φ D base h w x c w') := by
  obtain ⟨fn, hf, hcomp⟩ := hE.fn f m hm
  obtain ⟨hname, k, hb, hk, hn, hres⟩ := compF_some hcomp
  refine ⟨⟨fn, hf, by simp [hb], hname⟩, fun forb φ D base w cargs hvb hhb hargs hR hglob hD hfree => ?_⟩
  obtain ⟨e, s, vs, r1, h1, he, h3, h4⟩ := callBody_some hx
  have hF := exec_fr' hL hV hE hm h1
  have hlen : h.length ≤ s.h.length := hF.len
  have hw : ∀ b ∈ s.w, b < h.length := fun b hb => by rcases hF.low b hb with h5 | h5; exact absurd h5 (by simp); exact h5
  have hxrw : x.r = uni h.length r1 s.r ∧ x.w = s.w := by
    cases keep with
    | true => rw [callOut_keep h4]; exact ⟨rfl, rfl⟩
    | false => obtain ⟨u, h', _, _, rfl⟩ := callOut_frozen h4; exact ⟨rfl, rfl⟩
  have hDf : ∀ b, (b ∈ s.r ∨ b ∈ s.w) → (D b ∨ h.length ≤ b) := by
    intro b hb
    left; refine hD b ?_
    rw [hxrw.1, hxrw.2]
    rcases hb with hb | hb
    · exact .inl (uni_mem.2 (.inr hb))
    · exact .inr hb
  have hDr : ∀ b ∈ r1, (D b ∨ h.length ≤ b) := by
    intro b hb
    by_cases e : b < h.length
    · left; refine hD b (.inl ?_); rw [hxrw.1]; exact uni_mem.2 (.inl ⟨hb, e⟩)
    · right; omega
  cases keep with
  | true =>
    have hxe := callOut_keep h4
    subst hxe
    refine (body_run hC hL hV hE.gb hmix hf hb hk hn hres h1 he h3 hargs hvb hhb (rel_wide hR) hglob (fun b hb => .inr hb) hDf hDr hfree).mono fun ed w' ⟨c, hc, forb', φ', a', a0, hO, hv⟩ => ⟨c, hc, forb', φ', hv, hO.rel.part fun b hb => ?_, hO.ext, hO.mono, hO.far, fun b v l hφ hnw => ?_, hO.old, hlen⟩
    · rcases hb with hb | ⟨hb, _⟩
      · exact .inl hb
      · exact .inr hb
    · refine hO.loc b v l ?_ hφ hnw
      by_cases e1 : b < h.length
      · exact .inl e1
      · by_cases e2 : s.h.length ≤ b
        · exact .inr e2
        · rw [hfree b v (by omega) (by simpa using e2)] at hφ; cases hφ
  | false =>
    obtain ⟨u, h', h5, h6, hxe⟩ := callOut_frozen h4
    subst hxe
    obtain ⟨g1, g2, g3⟩ := fzBlk_ok h6
    have g1' : h'.length = h.length := by rw [g1, List.length_take]; omega
    obtain ⟨kk, hkk⟩ : ∃ kk, s.h.length = h.length + kk := ⟨s.h.length - h.length, by omega⟩
    have hargs' : VRs forb w (up h.length kk φ) args cargs := ⟨hargs.1, fun i v c hv hc => (hargs.2 i v c hv hc).under (hvb v (List.mem_of_getElem? hv)) fun b v l hb hl => by rw [up_low hb]; exact hl⟩
    refine (body_run hC hL hV hE.gb hmix hf hb hk hn hres h1 he h3 hargs' hvb hhb (rel_up hR hhb kk) hglob (fun b hb => .inr hb) hDf hDr (fun b v p1 p2 => up_mid p1 (by rw [hkk] at p2; exact p2))).mono fun ed w' ⟨c, hc, forb', φ', a', a0, hO, hv⟩ => ⟨c, hc, ?_⟩
    have mono2 : ∀ b v l, φ b v = some l → (fun b v => if b < h.length then φ' b v else φ b v : Phi) b v = some l := by
      intro b v l hl
      show (if b < h.length then φ' b v else φ b v) = some l
      split
      · rename_i e; exact hO.mono b v l (by rw [up_low e]; exact hl)
      · exact hl
    have old1 : ∀ b v, b < h.length → b ∉ s.w → φ' b v = φ b v := fun b v e hn => by rw [hO.old b v e hn, up_low e]
    have high : ∀ b v l, h.length ≤ b → φ b v = some l → φ' (b + kk) v = some l := fun b v l e hl => hO.mono _ _ _ (by rw [up_high e]; exact hl)
    refine ⟨fun cb => forb' cb ∧ ∀ b v l, h.length ≤ b → b < s.h.length → φ' b v = some l → l.cb ≠ cb, fun b v => if b < h.length then φ' b v else φ b v, ?_, ⟨fun b x v l hb hx hx1 hx2 hl => ?_, fun b v l hl => ?_, fun b v l b' v' l' hl hl' hcb => ?_, hO.rel.top, fun b x v l hb hx hl => ?_⟩, ⟨fun cb hcb => hO.ext.fb cb hcb.1, hO.ext.keep, hO.ext.shape, hO.ext.size, hO.ext.os, hO.ext.tape, hO.ext.output⟩, mono2, fun b v hb => ?_, fun b v l hl hnw => ?_, fun b v hb hnw => ?_, by show h.length ≤ h'.length; omega⟩
    · exact fz_ok (inn := false) (ψ := fun b v => if b < h.length then φ' b v else φ b v) hO.rel (fun b hb => .inr hb) (fun cb hcb => hcb.1) (fun b v l p1 p2 p3 p4 => p4.2 b v l p1 p2 p3 rfl) (fun b v l p1 p2 => by show (if b < h.length then φ' b v else φ b v) = some l; rw [if_pos p1]; exact p2) h5 hv
    · have hlt : b < h.length := by rw [← g1']; exact (List.getElem?_eq_some_iff.1 hx).1
      have hDb : D b := by
        rcases hb with hb | ⟨p1, _⟩
        · exact hb
        · omega
      have hl' : φ' b v = some l := by have : (if b < h.length then φ' b v else φ b v) = some l := hl; rwa [if_pos hlt] at this
      have hE2 : Ext forb (fun cb => forb' cb ∧ ∀ b v l, h.length ≤ b → b < s.h.length → φ' b v = some l → l.cb ≠ cb) w w' := ⟨fun cb hcb => hO.ext.fb cb hcb.1, hO.ext.keep, hO.ext.shape, hO.ext.size, hO.ext.os, hO.ext.tape, hO.ext.output⟩
      by_cases hbw : b ∈ s.w
      · obtain ⟨x0, els, q1, q2, q3⟩ := g3 b hbw (by rw [List.length_take]; omega)
        have : h'[b]? = some (.row x) := hx
        rw [q3] at this; cases this
        obtain ⟨k1, k2, k3, k4, cells, ty, fr, k5, k6, k7⟩ := hO.rel.row b x0 v l (.inl hDb) q1 hx1 hx2 hl'
        have hml := mapM?_length q2
        refine ⟨k1, by simpa [hml] using k2, by simpa [hml] using k3, fun el hel => ?_, cells, ty, fr, k5, k6, fun i el o y p1 p2 p3 p4 => ?_⟩
        · obtain ⟨el0, r1', r2⟩ := mapM?_mem q2 hel
          rw [mapM?_length r2]; exact k4 el0 r1'
        · obtain ⟨el0, r1', r2⟩ := mapM?_get q2 i el p3
          obtain ⟨y0, r3, r4⟩ := mapM?_get r2 o y p4
          obtain ⟨s1, c, s2, s3⟩ := k7 i el0 o y0 p1 p2 r1' r3
          refine ⟨by rw [fz_cell r4]; exact s1, c, s2, ?_⟩
          exact fz_ok (inn := false) (ψ := fun b v => if b < h.length then φ' b v else φ b v) hO.rel (fun b hb => .inr hb) (fun cb hcb => hcb.1) (fun b v l p1 p2 p3 p4 => p4.2 b v l p1 p2 p3 rfl) (fun b v l p1 p2 => by show (if b < h.length then φ' b v else φ b v) = some l; rw [if_pos p1]; exact p2) r4 s3
      · have hx' : h[b]? = some (.row x) := by
          have h7 : h'[b]? = some (.row x) := hx
          rw [g2 b hbw, takeH_get hlt, hF.same b hlt hbw] at h7; exact h7
        have hl0 : φ b v = some l := by rw [← old1 b v hlt hbw]; exact hl'
        exact (hR.row b x v l hDb hx' hx1 hx2 hl0).ext hE2 mono2 (hO.loc b v l (.inl hlt) (by rw [up_low hlt]; exact hl0) hbw)
    · have hl' : (if b < h.length then φ' b v else φ b v) = some l := hl
      split at hl'
      · rename_i e
        obtain ⟨p1, p2, p3⟩ := hO.rel.low b v l hl'
        refine ⟨p1, p2, p3, fun b' v' l' q1 q2 q3 q4 => ?_⟩
        have := (hO.rel.apart b' v' l' b v l q3 hl' q4).1; omega
      · rename_i e
        have hh := high b v l (by omega) hl'
        obtain ⟨p1, p2, p3⟩ := hO.rel.low _ v l hh
        refine ⟨p1, p2, p3, fun b' v' l' q1 q2 q3 q4 => ?_⟩
        have := (hO.rel.apart b' v' l' _ v l q3 hh q4).1; omega
    · have e1 : (if b < h.length then φ' b v else φ b v) = some l := hl
      have e2 : (if b' < h.length then φ' b' v' else φ b' v') = some l' := hl'
      split at e1 <;> split at e2
      · exact hO.rel.apart _ _ _ _ _ _ e1 e2 hcb
      · have := (hO.rel.apart _ _ _ _ _ _ e1 (high b' v' l' (by omega) e2) hcb).1; omega
      · have := (hO.rel.apart _ _ _ _ _ _ (high b v l (by omega) e1) e2 hcb).1; omega
      · exact hR.apart _ _ _ _ _ _ e1 e2 hcb
    · have hlt : b < h.length := by rw [← g1']; exact (List.getElem?_eq_some_iff.1 hx).1
      have hl' : (if b < h.length then φ' b v else φ b v) = some l := hl
      rw [if_pos hlt] at hl'
      have hDb : D b := by
        rcases hb with hb | ⟨p1, _⟩
        · exact hb
        · omega
      by_cases hbw : b ∈ s.w
      · obtain ⟨x0, els, q1, q2, q3⟩ := g3 b hbw (by rw [List.length_take]; omega)
        have : h'[b]? = some (.row x) := hx
        rw [q3] at this; cases this
        exact hO.rel.new b x0 v l (.inl hDb) q1 hl'
      · have h7 : h'[b]? = some (.row x) := hx
        rw [g2 b hbw, takeH_get hlt] at h7
        exact hO.rel.new b x v l (.inl hDb) h7 hl'
    · show (if b < h.length then φ' b v else φ b v) = φ b v
      have : h.length ≤ b := by rw [← g1']; exact hb
      rw [if_neg (by omega)]
    · by_cases e : b < h.length
      · exact hO.loc b v l (.inl e) (by rw [up_low e]; exact hl) hnw
      · refine hO.loc (b + kk) v l (.inr (by omega)) (by rw [up_high (by omega)]; exact hl) fun hc2 => ?_
        have := hw _ hc2; omega
    · show (if b < h.length then φ' b v else φ b v) = φ b v
      rw [if_pos hb]; exact old1 b v hb hnw
end Go.Mini
