/- A part of the proof: MiniOps2. No condition. -/
import Derived.Test.YtgknkkdemjjeoaaGreatDoorMiniInt
import Derived.Lib.Bytealg
import Derived.Laws.StructEq
import Derived.Laws.Strings2
import Derived.Laws.Slices
set_option linter.all false
set_option maxRecDepth 100000
namespace Go.Mini
set_option linter.unusedVariables false
set_option linter.unusedSimpArgs false
variable {P : Program} {G : Nat → Option V} {forb : Nat → Prop} {φ : Phi} {w : World} {t : List V} {a : Act} {D : Nat → Prop} {base : Nat} {h : H} {o : Oper}

theorem goes_same (hR : Rel forb φ D base h w) {v : V} {r : List Nat} {c : Value} (hrun : (execOp a.eval o).run P w = .ok (.value c) w) (hv : VR forb w φ v c) : Goes P o a w (Post forb φ D base h w ⟨v, h, r, []⟩) :=
  goes_value hrun (post_same hR hv)

theorem one_some {v : Option V} {h : H} {x : Res} (hx : one v h = some x) : ∃ u, v = some u ∧ x = ⟨u, h, [], []⟩ := by
  unfold one at hx; split at hx <;> cases hx; exact ⟨_, rfl, rfl⟩

theorem op_mv_ok (ht : Tm G forb φ w t a) (hR : Rel forb φ D base h w) {x : Operand} {d : Opd} (ho : o.op = .move x ∨ o.op = .assign x) (hd : opd x = some d) {r : Res} (hr : op_mv G t d h = some r) : Goes P o a w (Post forb φ D base h w r) := by
  obtain ⟨u, hu, rfl⟩ := one_some hr
  refine goes_same hR (c := a.eval x) ?_ (ev_ok ht hd hu)
  rcases ho with ho | ho <;> (unfold execOp; rw [ho]; rfl)

theorem op_pick_ok (ht : Tm G forb φ w t a) (hR : Rel forb φ D base h w) {c x y : Operand} {dc dx dy : Opd} (ho : o.op = .pick c x y) (hc : opd c = some dc) (hx : opd x = some dx) (hy : opd y = some dy) {r : Res} (hr : op_pick G t dc dx dy h = some r) : Goes P o a w (Post forb φ D base h w r) := by
  unfold op_pick at hr
  split at hr
  · rename_i hb
    have h1 := ev_ok ht hc hb
    obtain ⟨u, hu, rfl⟩ := one_some hr
    refine goes_same hR (c := a.eval x) ?_ (ev_ok ht hx hu)
    unfold execOp; rw [ho]
    generalize he : a.eval c = e at h1
    cases h1
    simp [he, asBool]
  · rename_i hb
    have h1 := ev_ok ht hc hb
    obtain ⟨u, hu, rfl⟩ := one_some hr
    refine goes_same hR (c := a.eval y) ?_ (ev_ok ht hy hu)
    unfold execOp; rw [ho]
    generalize he : a.eval c = e at h1
    cases h1
    simp [he, asBool]
  · cases hr

theorem op_nilc_ok (ht : Tm G forb φ w t a) (hR : Rel forb φ D base h w) {x : Operand} {dx : Opd} (ho : o.op = .nilCheck x) (hx : opd x = some dx) {r : Res} (hr : op_nilc G t dx h = some r) : Goes P o a w (Post forb φ D base h w r) := by
  unfold op_nilc at hr
  split at hr <;> cases hr
  all_goals
    rename_i hb
    have h1 := ev_ok ht hx hb
    refine goes_same hR (c := a.eval x) ?_ h1
    unfold execOp; rw [ho]
    generalize he : a.eval x = e at h1 ⊢
    cases h1
    simp only [he]
    rfl

theorem op_un_ok (ht : Tm G forb φ w t a) (hR : Rel forb φ D base h w) {op : UnOp} {ty : TypeId} {x : Operand} {dx : Opd} (ho : o.op = .unOp op ty x) (hx : opd x = some dx) {r : Res} (hr : op_un G t op dx h = some r) : Goes P o a w (Post forb φ D base h w r) := by
  unfold op_un at hr
  split at hr
  · rename_i v hb
    have h1 := ev_ok ht hx hb
    obtain ⟨u, hu, rfl⟩ := one_some hr
    have key : ∃ c, (Op.unary op (a.eval x)).run P w = .ok c w ∧ VR forb w φ u c := by
      generalize a.eval x = e at h1
      unfold unV at hu
      cases h1 <;> simp only [] at hu <;> (try cases hu)
      · cases op <;> simp only [] at hu <;> cases hu
        exact ⟨_, by simp [Op.unary], .bool⟩
      · cases op <;> simp only [forceI_eq, wrapF_eq] at hu <;> cases hu
        · exact ⟨_, by simp [Op.unary, Op.intArith], .int⟩
        · exact ⟨_, by simp [Op.unary, Op.intBits], .int⟩
    obtain ⟨c, h2, h3⟩ := key
    refine goes_same hR (c := c) ?_ h3
    unfold execOp; rw [ho]
    simp [h2]
  · cases hr

theorem op_convI_ok (ht : Tm G forb φ w t a) (hR : Rel forb φ D base h w) {src dst : TypeId} {k k0 : IntKind} {x : Operand} {dx : Opd} (ho : o.op = .convert src dst x) (h1 : P.underlying src = some (.int k0)) (h2 : P.underlying dst = some (.int k)) (hx : opd x = some dx) {r : Res} (hr : op_convI G t k dx h = some r) : Goes P o a w (Post forb φ D base h w r) := by
  unfold op_convI at hr
  split at hr
  · rename_i k' n hb
    have h3 := ev_ok ht hx hb
    rw [forceI_eq, wrapF_eq] at hr
    cases hr
    refine goes_same hR (c := .int k (k.wrap n)) ?_ .int
    unfold execOp; rw [ho]
    generalize he : a.eval x = e at h3
    cases h3
    simp [he, convert, run_underlying h1, run_underlying h2, Conv.intToInt]
  · cases hr

theorem op_index_ok (ht : Tm G forb φ w t a) (hR : Rel forb φ D base h w) {ty : TypeId} {x i : Operand} {dx di : Opd} (ho : o.op = .index ty x i) (h1 : P.underlying ty = some .string) (hx : opd x = some dx) (hi : opd i = some di) {r : Res} (hr : op_index G t dx di h = some r) : Goes P o a w (Post forb φ D base h w r) := by
  unfold op_index at hr
  split at hr
  · rename_i s k n hb1 hb2
    have h3 := ev_ok ht hx hb1
    have h4 := ev_ok ht hi hb2
    split at hr
    · rename_i h0
      split at hr
      · rename_i b hs
        cases hr
        refine goes_same hR (c := .int .u8 b.toNat) ?_ .int
        unfold execOp; rw [ho]
        generalize he : a.eval x = e at h3
        generalize he' : a.eval i = e' at h4
        cases h3; cases h4
        have hb : ((⟨s.toArray⟩ : ByteArray)[n.toNat]? : Option UInt8) = some b := by
          have hlt := (List.getElem?_eq_some_iff.1 hs).1
          have hl : n.toNat < (⟨s.toArray⟩ : ByteArray).size := by show n.toNat < s.toArray.size; simpa using hlt
          rw [getElem?_pos (⟨s.toArray⟩ : ByteArray) n.toNat hl]
          have := (List.getElem?_eq_some_iff.1 hs).2
          show some ((s.toArray)[n.toNat]'(by simpa using hlt)) = some b
          simp [this]
        simp [he, he', Instr.index, asIntOf, run_underlying h1, h0, hb]
      · cases hr
    · cases hr
  · cases hr

theorem idxFrom_eq (n : Nat) (c : UInt8) (hc : c.toNat = n) : ∀ (l : List UInt8) (i : Nat), idxFrom n l i = if Lib.indexByte l c == -1 then -1 else Lib.indexByte l c + i
  | [], i => by simp [idxFrom, Lib.indexByte]
  | b :: l, i => by
    simp only [idxFrom, Lib.indexByte]
    have hb : (Nat.beq b.toNat n) = (b == c) := by
      rw [Bool.eq_iff_iff, Nat.beq_eq, beq_iff_eq, ← hc, UInt8.toNat_inj]
    rw [hb]
    have hge := Lib.indexByte_ge l c
    by_cases hbe : b = c
    · subst hbe; simp
    · have hbc : (b == c) = false := by simpa using hbe
      simp only [hbc, cond_false, Bool.false_eq_true, if_false]
      rw [idxFrom_eq n c hc l (i + 1)]
      by_cases hq : Lib.indexByte l c = -1
      · simp [hq]
      · have h1 : (Lib.indexByte l c == -1) = false := by simpa using hq
        have h2 : (Lib.indexByte l c + 1 == -1) = false := by
          rw [beq_eq_false_iff_ne]; omega
        simp only [h1, h2, Bool.false_eq_true, if_false]
        omega
theorem find_idx {fn : Func} (h : fn.name = "internal/bytealg.IndexByteString") : Extern.find fn = some Extern.BytealgIndexByte.indexByte := by
  unfold Extern.find
  rw [h]
  rfl
theorem op_idxB_ok (ht : Tm G forb φ w t a) (hR : Rel forb φ D base h w) {c : Call} {fo : Operand} {dx di : Opd} (ho : o.op = .call c) (hc : c.callee = .value fo) (hi : isIdx P fo = true) (has : mapM? opd c.args.toList = some [dx, di]) {r : Res} (hr : op_idxB G t dx di h = some r) : Goes P o a w (Post forb φ D base h w r) := by
  unfold isIdx at hi
  split at hi
  case h_2 => cases hi
  rename_i f
  split at hi
  case h_2 => cases hi
  rename_i fn hf
  simp only [Bool.and_eq_true, beq_iff_eq] at hi
  obtain ⟨⟨hb, hn⟩, hx⟩ := hi
  unfold op_idxB at hr
  split at hr
  · rename_i s n hb1 hb2
    cases hr
    obtain ⟨x0, p0, q0⟩ := mapM?_get has 0 dx rfl
    obtain ⟨x1, p1, q1⟩ := mapM?_get has 1 di rfl
    have hlen := mapM?_length has
    have hargs : c.args.toList = [x0, x1] := by
      rcases hq : c.args.toList with _ | ⟨y0, _ | ⟨y1, _ | ⟨y2, ys⟩⟩⟩ <;> rw [hq] at hlen p0 p1 <;> simp at hlen p0 p1
      subst p0 p1; rfl
    have hargs' : c.args = #[x0, x1] := by apply Array.ext'; rw [hargs]
    have h3 := ev_ok ht q0 hb1
    have h4 := ev_ok ht q1 hb2
    refine goes_same hR (c := .int .i64 (idxFrom n.toNat.toUInt8.toNat s 0)) ?_ .int
    unfold execOp; rw [ho]
    generalize he : a.eval x0 = e at h3
    generalize he' : a.eval x1 = e' at h4
    cases h3; cases h4
    have hidx : idxFrom n.toNat.toUInt8.toNat s 0 = Lib.indexByte s n.toNat.toUInt8 := by
      rw [idxFrom_eq _ _ rfl]
      have hge := Lib.indexByte_ge s n.toNat.toUInt8
      by_cases hq : Lib.indexByte s n.toNat.toUInt8 = -1
      · simp [hq]
      · have h1 : (Lib.indexByte s n.toNat.toUInt8 == -1) = false := by simpa using hq
        simp [h1]
    have hname : (fn.name == "runtime.NumGoroutine") = false := by rw [hn]; decide
    have hrun := run_callFunc_extern (P := P) hf hname hb (Option.isNone_iff_eq_none.1 hx) (find_idx hn) #[.string ⟨s.toArray⟩, .int .u8 n] w
    rw [Lib.run_indexByteString] at hrun
    have e1 : Act.eval a (.func f) = .func (.func f) #[] #[] := rfl
    simp only [resolve, hc, hargs', List.map_toArray, List.map_cons, List.map_nil, he, he', e1, Deferred.ofValue, pure_bind, invoke]
    rw [hidx]
    simpa [Sem.run_bind] using hrun
  · cases hr

theorem op_extract_ok (ht : Tm G forb φ w t a) (hR : Rel forb φ D base h w) {x : Operand} {i : Nat} {dx : Opd} (ho : o.op = .extract x i) (hx : opd x = some dx) {r : Res} (hr : op_extract G t dx i h = some r) : Goes P o a w (Post forb φ D base h w r) := by
  unfold op_extract at hr
  split at hr
  · rename_i vs hb
    have h3 := ev_ok ht hx hb
    obtain ⟨u, hu, rfl⟩ := one_some hr
    generalize he : a.eval x = e at h3
    cases h3
    case tup cs hl hv =>
      have hu' : (vs[i]? : Option V) = some u := hu
      have hi : i < cs.length := by rw [hl]; exact (List.getElem?_eq_some_iff.1 hu').1
      refine goes_same hR (c := cs[i]) ?_ (hv i u _ hu (by simp [hi]))
      unfold execOp; rw [ho]
      simp [he, Instr.extract, hi]
  · cases hr

theorem run_len {c : Call} {ty : TypeId} {x : Operand} (ho : o.op = .call c) (hc : c.callee = .builtin .len) (hts : c.argTypes.toList = [ty]) (has : c.args.toList = [x]) :
    (execOp a.eval o).run P w = ((Builtin.len_ #[ty] o.type #[a.eval x]).run P w).andThen fun v w' => .ok (.value v) w' := by
  have hts' : c.argTypes = #[ty] := by rw [← Array.toArray_toList (xs := c.argTypes), hts]
  have has' : c.args = #[x] := by rw [← Array.toArray_toList (xs := c.args), has]
  unfold execOp; rw [ho]
  simp [resolve, hc, has', hts', invoke, builtin]

theorem op_lenS_ok (ht : Tm G forb φ w t a) (hR : Rel forb φ D base h w) {ty : TypeId} {c : Call} {x : Operand} {dx : Opd} (ho : o.op = .call c) (hc : c.callee = .builtin .len) (hts : c.argTypes.toList = [ty]) (has : c.args.toList = [x])
    (hu : P.underlying ty = some .string) (hx : opd x = some dx) {r : Res} (hr : op_lenS G t dx h = some r) : Goes P o a w (Post forb φ D base h w r) := by
  have hrun := run_len (P := P) (w := w) (a := a) ho hc hts has
  unfold op_lenS at hr
  split at hr <;> cases hr
  rename_i hb
  have h3 := ev_ok ht hx hb
  generalize he : a.eval x = e at h3 hrun
  cases h3
  refine goes_same hR (c := .int .i64 _) ?_ .int
  rw [hrun]
  simp [Builtin.len_, run_underlying hu, goInt]
  rfl

theorem op_len_ok (ht : Tm G forb φ w t a) (hR : Rel forb φ D base h w) {ty el : TypeId} {c : Call} {x : Operand} {dx : Opd} (ho : o.op = .call c) (hc : c.callee = .builtin .len) (hts : c.argTypes.toList = [ty]) (has : c.args.toList = [x])
    (hu : P.underlying ty = some (.slice el)) (hx : opd x = some dx) {r : Res} (hr : op_len G t dx h = some r) : Goes P o a w (Post forb φ D base h w r) := by
  have hrun := run_len (P := P) (w := w) (a := a) ho hc hts has
  unfold op_len at hr
  split at hr <;> cases hr
  all_goals
    rename_i hb
    have h3 := ev_ok ht hx hb
    generalize he : a.eval x = e at h3 hrun
    cases h3
    refine goes_same hR (c := .int .i64 _) ?_ .int
    rw [hrun]
    simp [Builtin.len_, run_underlying hu, goInt]

theorem cntOf_eq (n : Nat) (c : UInt8) (hc : c.toNat = n) : ∀ (l : List UInt8) (k : Nat), cntOf n l k = k + Lib.countByte l c
  | [], k => by simp [cntOf, Lib.countByte]
  | b :: l, k => by
    simp only [cntOf]
    have hb : (Nat.beq b.toNat n) = (b == c) := by
      rw [Bool.eq_iff_iff, Nat.beq_eq, beq_iff_eq, ← hc, UInt8.toNat_inj]
    rw [hb, cntOf_eq n c hc l]
    unfold Lib.countByte
    rw [List.count_cons]
    cases b == c <;> simp <;> omega
theorem find_cnt {fn : Func} (h : fn.name = "internal/bytealg.CountString") : Extern.find fn = some Extern.BytealgCount.count := by
  unfold Extern.find
  rw [h]
  rfl
theorem op_cntB_ok (ht : Tm G forb φ w t a) (hR : Rel forb φ D base h w) {c : Call} {fo : Operand} {dx di : Opd} (ho : o.op = .call c) (hc : c.callee = .value fo) (hi : isCnt P fo = true) (has : mapM? opd c.args.toList = some [dx, di]) {r : Res} (hr : op_cntB G t dx di h = some r) : Goes P o a w (Post forb φ D base h w r) := by
  unfold isCnt at hi
  split at hi
  case h_2 => cases hi
  rename_i f
  split at hi
  case h_2 => cases hi
  rename_i fn hf
  simp only [Bool.and_eq_true, beq_iff_eq] at hi
  obtain ⟨⟨hb, hn⟩, hx⟩ := hi
  unfold op_cntB at hr
  split at hr
  · rename_i s n hb1 hb2
    cases hr
    obtain ⟨x0, p0, q0⟩ := mapM?_get has 0 dx rfl
    obtain ⟨x1, p1, q1⟩ := mapM?_get has 1 di rfl
    have hlen := mapM?_length has
    have hargs : c.args.toList = [x0, x1] := by
      rcases hq : c.args.toList with _ | ⟨y0, _ | ⟨y1, _ | ⟨y2, ys⟩⟩⟩ <;> rw [hq] at hlen p0 p1 <;> simp at hlen p0 p1
      subst p0 p1; rfl
    have hargs' : c.args = #[x0, x1] := by apply Array.ext'; rw [hargs]
    have h3 := ev_ok ht q0 hb1
    have h4 := ev_ok ht q1 hb2
    refine goes_same hR (c := .int .i64 (cntOf n.toNat.toUInt8.toNat s 0)) ?_ .int
    unfold execOp; rw [ho]
    generalize he : a.eval x0 = e at h3
    generalize he' : a.eval x1 = e' at h4
    cases h3; cases h4
    have hname : (fn.name == "runtime.NumGoroutine") = false := by rw [hn]; decide
    have hrun := run_callFunc_extern (P := P) hf hname hb (Option.isNone_iff_eq_none.1 hx) (find_cnt hn) #[.string ⟨s.toArray⟩, .int .u8 n] w
    have hcount : (Extern.BytealgCount.count #[.string ⟨s.toArray⟩, .int .u8 n]).run P w = .ok (.int .i64 (cntOf n.toNat.toUInt8.toNat s 0)) w := by
      rw [Lib.run_countString, cntOf_eq _ _ rfl, Nat.zero_add]
    rw [hcount] at hrun
    have e1 : Act.eval a (.func f) = .func (.func f) #[] #[] := rfl
    simp only [resolve, hc, hargs', List.map_toArray, List.map_cons, List.map_nil, he, he', e1, Deferred.ofValue, pure_bind, invoke]
    simpa [Sem.run_bind] using hrun
  · cases hr
end Go.Mini
