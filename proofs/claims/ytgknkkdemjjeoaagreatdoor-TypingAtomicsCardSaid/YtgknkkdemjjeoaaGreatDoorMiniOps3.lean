/- A part of the proof: MiniOps3. No condition. -/
import Derived.Test.YtgknkkdemjjeoaaGreatDoorMiniOps2
set_option linter.all false
set_option maxRecDepth 100000
namespace Go.Mini
set_option linter.unusedVariables false
set_option linter.unusedSimpArgs false
variable {P : Program} {G : Nat → Option V} {forb : Nat → Prop} {φ : Phi} {w : World} {t : List V} {a : Act} {D : Nat → Prop} {base : Nat} {h : H} {o : Oper}

def FK.fits (P : Program) (ty : TypeId) : FK → Prop
  | .b => P.underlying ty = some .bool
  | .i => ∃ k, P.underlying ty = some (.int k)
  | .s => P.underlying ty = some .string

/-- the fields of a flat struct -/
inductive Flat (P : Program) : List Field → Nat → List FK → Prop
  | nil {n} : Flat P [] n []
  | cons {f fs n k ks} (h1 : f.name ≠ "_") (h2 : f.offset = n) (h3 : k.fits P f.type) (h4 : Flat P fs (n + 1) ks) : Flat P (f :: fs) n (k :: ks)

theorem flatF_ok : ∀ {fs : List Field} {n : Nat} {ks : List FK}, flatF P fs n = some ks → Flat P fs n ks
  | [], n, m, h => by cases h; exact .nil
  | f :: fs, n, m, h => by
    unfold flatF at h
    split at h
    · rename_i h1
      split at h
      · rename_i h2
        rcases h3 : flatF P fs (n + 1) with _ | ks
        · simp [h3] at h
        · simp [h3] at h; subst h; exact .cons h1.1 h1.2 h2 (flatF_ok h3)
      · rename_i k h2
        rcases h3 : flatF P fs (n + 1) with _ | ks
        · simp [h3] at h
        · simp [h3] at h; subst h; exact .cons h1.1 h1.2 ⟨k, h2⟩ (flatF_ok h3)
      · rename_i h2
        rcases h3 : flatF P fs (n + 1) with _ | ks
        · simp [h3] at h
        · simp [h3] at h; subst h; exact .cons h1.1 h1.2 h2 (flatF_ok h3)
      · cases h
    · cases h

theorem run_part_basic {ty : TypeId} {k : FK} {cs : Array Value} {off : Nat} {c : Value} (h : k.fits P ty) (hc : cs[off]? = some c) :
    (part ty cs off).run P w = .ok c w := by
  cases k <;> simp only [FK.fits] at h
  · simp [part, isAgg, run_underlying h, hc]
  · obtain ⟨k, h⟩ := h; simp [part, isAgg, run_underlying h, hc]
  · simp [part, isAgg, run_underlying h, hc]

theorem str_beq (x y : List UInt8) : ((⟨x.toArray⟩ : ByteArray).toList == (⟨y.toArray⟩ : ByteArray).toList) = (x == y) := by simp

theorem eqC_ok {k : FK} {x y : V} {b : Bool} {c d : Value} (h : eqC k x y = some b) (hx : VR forb w φ x c) (hy : VR forb w φ y d) (n : Nat) (ty : TypeId)
    (ht : k.fits P ty) : (Op.equalIn (n + 1) ty c d).run P w = .ok b w := by
  unfold eqC at h
  split at h
  · simp only [kindEq_eq, cond_eq_ite, decide_eq_true_eq] at h
    split at h <;> cases h
    subst_vars
    obtain ⟨k', ht⟩ := ht
    cases hx; cases hy
    rw [run_equalIn_int w n ty _ k' _ _ ht, eqF_eq]
  · cases h; cases hx; cases hy
    exact run_equalIn_bool' w n ty _ _ ht
  · cases h; cases hx; cases hy
    rw [run_equalIn_string w n ty _ _ ht, str_beq]
  · cases h

theorem eqCs_ok (d : Nat) (cs ds : Array Value) : ∀ {fs : List Field} {n : Nat} {ks : List FK} {xs ys : List V} {b : Bool}, Flat P fs n ks → eqCs ks xs ys = some b →
    (∀ (i : Nat) x, xs[i]? = some x → ∃ c, cs[n + i]? = some c ∧ VR forb w φ x c) → (∀ (i : Nat) y, ys[i]? = some y → ∃ c, ds[n + i]? = some c ∧ VR forb w φ y c) →
    (Op.eqFields (d + 1) cs ds fs).run P w = .ok b w
  | [], n, ks, xs, ys, b, hf, h, hx, hy => by
    cases hf
    cases xs <;> cases ys <;> simp [eqCs] at h
    subst h; simp [Op.eqFields]
  | f :: fs, n, ks, xs, ys, b, hf, h, hx, hy => by
    obtain ⟨k, ks', rfl, h1, h2, h3, h4⟩ : ∃ k ks', ks = k :: ks' ∧ f.name ≠ "_" ∧ f.offset = n ∧ k.fits P f.type ∧ Flat P fs (n + 1) ks' := by
      cases hf; exact ⟨_, _, rfl, by assumption, by assumption, by assumption, by assumption⟩
    cases xs with
    | nil => simp [eqCs] at h
    | cons x xs =>
    cases ys with
    | nil => simp [eqCs] at h
    | cons y ys =>
      simp only [eqCs] at h
      obtain ⟨c, hc, hvc⟩ := hx 0 x rfl
      obtain ⟨e, he, hve⟩ := hy 0 y rfl
      simp only [Nat.add_zero] at hc he
      simp only [Op.eqFields, h1, h2, ne_eq, not_false_eq_true, if_true, Sem.run_bind, run_part_basic h3 hc, run_part_basic h3 he, Result.andThen_ok]
      rcases hr : eqC k x y with _ | bb
      · rw [hr] at h; cases h
      · rw [eqC_ok hr hvc hve d f.type h3]
        rw [hr] at h
        cases bb
        · cases h; simp
        · simp only [] at h
          simp only [Result.andThen_ok, Bool.not_true, Bool.false_eq_true, if_false]
          refine eqCs_ok d cs ds h4 h (fun i z hz => ?_) (fun i z hz => ?_)
          · have := hx (i + 1) z (by simpa using hz); rwa [show n + (i + 1) = n + 1 + i by omega] at this
          · have := hy (i + 1) z (by simpa using hz); rwa [show n + (i + 1) = n + 1 + i by omega] at this

theorem run_bin {op : BinOp} {ty ty' : TypeId} {x y : Operand} (ho : o.op = .binOp op ty x y ty') : (execOp a.eval o).run P w = ((eqGuard op ty x y (a.eval x) (a.eval y)).run P w).andThen fun _ w' => ((Go.binOp op ty (a.eval x) (a.eval y)).run P w').andThen fun v w'' => .ok (.value v) w'' := by
  unfold execOp; rw [ho]
  simp only [Sem.run_bind]
  generalize (eqGuard op ty x y (a.eval x) (a.eval y)).run P w = r
  cases r <;> simp [Sem.run_pure]

theorem eqOp_ok {op : BinOp} {b : Bool} {z : V} (h : eqOp op b = some z) : (op = .eql ∧ z = .bool b) ∨ (op = .neq ∧ z = .bool !b) := by
  cases op <;> simp [eqOp] at h <;> subst h
  · exact .inl ⟨rfl, rfl⟩
  · exact .inr ⟨rfl, rfl⟩

theorem flatT_ok {ty : TypeId} {ks : List FK} (h : flatT P ty = some ks) : P.underlying ty = some (.struct (P.fieldsOf ty)) ∧ P.stoodInHeld ty = false ∧ P.eqGuardType P.depth ty = false ∧ Flat P (P.fieldsOf ty).toList 0 ks := by
  unfold flatT at h
  split at h
  · rename_i fs hu
    split at h
    · cases h
    · rename_i h1
      simp only [Bool.or_eq_true, not_or, Bool.not_eq_true] at h1
      have : P.fieldsOf ty = fs := by simp [Program.fieldsOf, hu]
      rw [this]
      exact ⟨hu, h1.1, h1.2, flatF_ok h⟩
  · cases h

theorem bin_str {op : BinOp} {x y : List UInt8} {z : V} (h : strV op x y = some z) (ty : TypeId) : ∃ e, (Go.binOp op ty (.string ⟨x.toArray⟩) (.string ⟨y.toArray⟩)).run P w = .ok e w ∧ VR forb w φ z e := by
  cases op <;> simp [strV] at h
  · obtain ⟨h1, rfl⟩ := h
    refine ⟨_, ?_, .str⟩
    have h2 : ¬ (((⟨x.toArray⟩ : ByteArray).size + (⟨y.toArray⟩ : ByteArray).size : Nat) : Int) > IntKind.i64.max := by
      show ¬ ((x.toArray.size + y.toArray.size : Nat) : Int) > IntKind.i64.max
      simp [IntKind.max, IntKind.signed, IntKind.bits]; omega
    simp only [Go.binOp, Op.stringOp, h2, if_false]
    have h3 : (⟨x.toArray⟩ : ByteArray) ++ ⟨y.toArray⟩ = ⟨(x ++ y).toArray⟩ := by
      apply ByteArray.ext; simp [ByteArray.data_append]
    rw [h3]; rfl
  · subst h; exact ⟨_, by simp [Go.binOp, Op.stringOp], .bool⟩
  · subst h; exact ⟨_, by simp [Go.binOp, Op.stringOp, bne], .bool⟩
  · subst h; exact ⟨_, by simp [Go.binOp, Op.stringOp], .bool⟩

theorem cmp_ptr {ty : TypeId} (h : cmpT P ty = .ptr) : ∃ e, P.underlying ty = some (.pointer e) := by
  unfold cmpT at h
  split at h <;> first | (split at h <;> cases h; done) | exact ⟨_, by assumption⟩ | cases h
theorem cmp_slice {ty : TypeId} (h : cmpT P ty = .slice) : ∃ e, P.underlying ty = some (.slice e) := by
  unfold cmpT at h
  split at h <;> first | (split at h <;> cases h; done) | exact ⟨_, by assumption⟩ | cases h
theorem cmp_func {ty : TypeId} (h : cmpT P ty = .func) : ∃ a b c, P.underlying ty = some (.func a b c) := by
  unfold cmpT at h
  split at h <;> first | (split at h <;> cases h; done) | exact ⟨_, _, _, by assumption⟩ | cases h

theorem eq_ptr {ty e : TypeId} (hu : P.underlying ty = some (.pointer e)) (p q : Option Addr) (h : p = none ∨ q = none) : (Op.equal ty (.pointer p) (.pointer q)).run P w = .ok (p.isNone && q.isNone) w := by
  unfold Op.equal Op.maxDepth Op.equalIn
  simp only [Sem.run_bind, run_underlying hu, Result.andThen_ok]
  rcases h with rfl | rfl
  · cases q <;> rfl
  · cases p <;> rfl
theorem eq_slice {ty e : TypeId} (hu : P.underlying ty = some (.slice e)) (p q : Option Addr) (m n m' n' : Nat) (h : p = none ∨ q = none) : (Op.equal ty (.slice p m n) (.slice q m' n')).run P w = .ok (p.isNone && q.isNone) w := by
  unfold Op.equal Op.maxDepth Op.equalIn
  simp only [Sem.run_bind, run_underlying hu, Result.andThen_ok]
  rcases h with rfl | rfl
  · cases q <;> rfl
  · cases p <;> rfl
theorem eq_func {ty : TypeId} {a b c} (hu : P.underlying ty = some (.func a b c)) : (Op.equal ty .nilFunc .nilFunc).run P w = .ok true w ∧ (∀ f x y, (Op.equal ty .nilFunc (.func f x y)).run P w = .ok false w) ∧ (∀ f x y, (Op.equal ty (.func f x y) .nilFunc).run P w = .ok false w) := by
  unfold Op.equal Op.maxDepth Op.equalIn
  simp only [Sem.run_bind, run_underlying hu, Result.andThen_ok]
  exact ⟨rfl, fun _ _ _ => rfl, fun _ _ _ => rfl⟩

set_option maxHeartbeats 2000000 in
theorem nil_run {op : BinOp} {cmp : Cmp} {ty : TypeId} {u v : V} {c d : Value} {p q : Bool} (hk : cmpT P ty = cmp) (h1 : VR forb w φ u c) (h2 : VR forb w φ v d) (ha : isNil cmp u = some p) (hb : isNil cmp v = some q) (hab : (p || q) = true) (x y : Operand) :
    (eqGuard op ty x y c d).run P w = .ok () w ∧ (Op.equal ty c d).run P w = .ok (p && q) w ∧ (op = .eql → (Go.binOp op ty c d) = (do pure (.bool (← Op.equal ty c d)))) ∧ (op = .neq → (Go.binOp op ty c d) = (do pure (.bool (!(← Op.equal ty c d))))) := by
  cases cmp
  case no => cases u <;> simp [isNil] at ha
  case bool => cases u <;> simp [isNil] at ha
  case flat => cases u <;> simp [isNil] at ha
  case iface =>
    exfalso
    unfold cmpT at hk
    split at hk <;> first | (split at hk <;> cases hk; done) | cases hk
  case ptr =>
    obtain ⟨e, hu⟩ := cmp_ptr hk
    cases u <;> simp [isNil] at ha <;> subst ha <;> cases v <;> simp [isNil] at hb <;> subst hb <;> simp at hab <;> cases h1 <;> cases h2 <;>
      exact ⟨by cases op <;> rfl, by first | (rw [eq_ptr hu _ _ (by simp)]; rfl) | (rw [eq_slice hu _ _ _ _ _ _ (by simp)]; rfl) | exact (eq_func hu).1 | exact (eq_func hu).2.1 _ _ _ | exact (eq_func hu).2.2 _ _ _, by rintro rfl; rfl, by rintro rfl; rfl⟩
  case slice =>
    obtain ⟨e, hu⟩ := cmp_slice hk
    cases u <;> simp [isNil] at ha <;> subst ha <;> cases v <;> simp [isNil] at hb <;> subst hb <;> simp at hab <;> cases h1 <;> cases h2 <;>
      exact ⟨by cases op <;> rfl, by first | (rw [eq_ptr hu _ _ (by simp)]; rfl) | (rw [eq_slice hu _ _ _ _ _ _ (by simp)]; rfl) | exact (eq_func hu).1 | exact (eq_func hu).2.1 _ _ _ | exact (eq_func hu).2.2 _ _ _, by rintro rfl; rfl, by rintro rfl; rfl⟩
  case func =>
    obtain ⟨e, e', e'', hu⟩ := cmp_func hk
    cases u <;> simp [isNil] at ha <;> subst ha <;> cases v <;> simp [isNil] at hb <;> subst hb <;> simp at hab <;> cases h1 <;> cases h2 <;>
      exact ⟨by cases op <;> rfl, by first | (rw [eq_ptr hu _ _ (by simp)]; rfl) | (rw [eq_slice hu _ _ _ _ _ _ (by simp)]; rfl) | exact (eq_func hu).1 | exact (eq_func hu).2.1 _ _ _ | exact (eq_func hu).2.2 _ _ _, by rintro rfl; rfl, by rintro rfl; rfl⟩

theorem nil_ok {op : BinOp} {ty : TypeId} {u v z : V} {c d : Value} (hz : nilV op (cmpT P ty) u v = some z) (h1 : VR forb w φ u c) (h2 : VR forb w φ v d) (x y : Operand) :
    ∃ e, ((eqGuard op ty x y c d).run P w = .ok () w) ∧ (Go.binOp op ty c d).run P w = .ok e w ∧ VR forb w φ z e := by
  unfold nilV at hz
  split at hz
  · rename_i a b ha hb
    split at hz
    · rename_i hab
      obtain ⟨k1, k2, k3, k4⟩ := nil_run (P := P) (op := op) rfl h1 h2 ha hb hab x y
      rcases eqOp_ok hz with ⟨rfl, rfl⟩ | ⟨rfl, rfl⟩
      · exact ⟨_, k1, by rw [k3 rfl]; simp [k2], .bool⟩
      · exact ⟨_, k1, by rw [k4 rfl]; simp [k2], .bool⟩
    · cases hz
  · cases hz

theorem op_bin_ok (ht : Tm G forb φ w t a) (hR : Rel forb φ D base h w) {op : BinOp} {ty ty' : TypeId} {x y : Operand} {dx dy : Opd} (ho : o.op = .binOp op ty x y ty') (hx : opd x = some dx) (hy : opd y = some dy) {r : Res} (hr : op_bin G t op (cmpT P ty) dx dy h = some r) : Goes P o a w (Post forb φ D base h w r) := by
  unfold op_bin at hr
  split at hr
  · rename_i u v hu hv
    have h1 := ev_ok ht hx hu
    have h2 := ev_ok ht hy hv
    obtain ⟨z, hz, rfl⟩ := one_some hr
    have hrun := run_bin (P := P) (w := w) (a := a) ho
    generalize he1 : a.eval x = c at h1 hrun
    generalize he2 : a.eval y = d at h2 hrun
    have key : ∃ e, ((eqGuard op ty x y c d).run P w = .ok () w) ∧ (Go.binOp op ty c d).run P w = .ok e w ∧ VR forb w φ z e := by
      unfold binV at hz
      split at hz
      · cases h1; cases h2
        obtain ⟨h3, h4⟩ := intV_ok P w ty hz
        refine ⟨_, by cases op <;> simp [eqGuard], h3, ?_⟩
        rcases h4 with ⟨n, rfl⟩ | ⟨b, rfl⟩
        · exact .int
        · exact .bool
      · cases h1; cases h2
        obtain ⟨e, h3, h4⟩ := bin_str (P := P) (w := w) (forb := forb) (φ := φ) hz ty
        exact ⟨e, by cases op <;> simp [eqGuard], h3, h4⟩
      · cases h1; cases h2
        unfold boolV at hz
        split at hz
        · rename_i hk
          have hu : P.underlying ty = some .bool := by
            unfold cmpT at hk
            split at hk <;> first | (split at hk <;> cases hk; done) | assumption | cases hk
          have he := fun a b => run_equalIn_bool' (P := P) w 9999 ty a b hu
          rcases eqOp_ok hz with ⟨rfl, rfl⟩ | ⟨rfl, rfl⟩
          · exact ⟨_, by simp [eqGuard], by simp [Go.binOp, Op.equal, Op.maxDepth, he], .bool⟩
          · exact ⟨_, by simp [eqGuard], by simp [Go.binOp, Op.equal, Op.maxDepth, he], .bool⟩
        · cases hz
      · rename_i xs ys
        unfold aggV at hz
        split at hz
        · rename_i ks hk
          split at hz
          · rename_i b hb
            have hf : flatT P ty = some ks := by
              unfold cmpT at hk
              split at hk
              · split at hk
                · cases hk; assumption
                · cases hk
              all_goals cases hk
            obtain ⟨f1, f2, f3, f4⟩ := flatT_ok hf
            cases h1
            case agg cs hl hc hv1 =>
            cases h2
            case agg ds hl' hc' hv2 =>
              have he := eqCs_ok (P := P) (forb := forb) (φ := φ) (w := w) 9998 ⟨cs⟩ ⟨ds⟩ f4 hb (fun i z hz => by
                  have hi : i < cs.length := by rw [hl]; exact (List.getElem?_eq_some_iff.1 hz).1
                  exact ⟨cs[i], by simp [hi], hv1 i z _ hz (by simp [hi])⟩) (fun i z hz => by
                  have hi : i < ds.length := by rw [hl']; exact (List.getElem?_eq_some_iff.1 hz).1
                  exact ⟨ds[i], by simp [hi], hv2 i z _ hz (by simp [hi])⟩)
              have he' := (run_equalIn_struct w 9999 ty ⟨cs⟩ ⟨ds⟩ f1 f2).trans he
              rcases eqOp_ok hz with ⟨rfl, rfl⟩ | ⟨rfl, rfl⟩
              · exact ⟨_, run_eqGuard_agg w _ ty x y _ _ f3, by rw [run_eql_struct, he']; rfl, .bool⟩
              · exact ⟨_, run_eqGuard_agg w _ ty x y _ _ f3, by rw [run_neq_struct, he']; rfl, .bool⟩
          · cases hz
        · cases hz
      · exact nil_ok hz h1 h2 x y
    obtain ⟨e, h3, h4, h5⟩ := key
    exact goes_same hR (by rw [hrun, h3]; simp [h4]) h5
  · cases hr
/-- against the literal nil of an interface type -/
theorem op_binI_ok (ht : Tm G forb φ w t a) (hR : Rel forb φ D base h w) {op : BinOp} {ty ty' : TypeId} {x : Operand} {dx : Opd} {ms : Array (String × TypeId)} (ho : o.op = .binOp op ty x (.const .nilIface) ty') (hu : P.underlying ty = some (.interface ms)) (hx : opd x = some dx) {r : Res} (hr : op_bin G t op .iface dx (.c .nilm) h = some r) : Goes P o a w (Post forb φ D base h w r) := by
  unfold op_bin at hr
  simp only [ev] at hr
  split at hr
  · rename_i u v hu1 hv1
    cases hv1
    have h1 := ev_ok ht hx hu1
    obtain ⟨z, hz, rfl⟩ := one_some hr
    have hrun := run_bin (P := P) (w := w) (a := a) ho
    generalize he1 : a.eval x = c at h1 hrun
    have he2 : a.eval (.const .nilIface) = .nilIface := rfl
    rw [he2] at hrun
    have hz2 : nilV op .iface u .nilm = some z := by
      cases u <;> first | exact hz | (simp only [binV] at hz; exact hz)
    unfold nilV at hz2
    have hun : u = .nilm := by
      cases u <;> simp [isNil] at hz2 ⊢
    subst hun
    simp only [isNil, Bool.or_self, if_true, Bool.and_self] at hz2
    cases h1
    have heq : (Op.equal ty .nilIface .nilIface).run P w = .ok true w := by
      unfold Op.equal Op.maxDepth Op.equalIn
      simp only [Sem.run_bind, run_underlying hu, Result.andThen_ok]
      rfl
    have hg : ∀ (k : op = .eql ∨ op = .neq), (eqGuard op ty x (.const .nilIface) .nilIface .nilIface).run P w = .ok () w := by
      intro k
      rcases k with rfl | rfl <;> cases x <;> rfl
    rcases eqOp_ok hz2 with ⟨rfl, rfl⟩ | ⟨rfl, rfl⟩
    · refine goes_same hR (c := .bool true) ?_ .bool
      rw [hrun, hg (.inl rfl)]
      have : (Go.binOp .eql ty .nilIface .nilIface) = (do pure (.bool (← Op.equal ty .nilIface .nilIface))) := rfl
      simp [this, heq]
    · refine goes_same hR (c := .bool (!true)) ?_ .bool
      rw [hrun, hg (.inr rfl)]
      have : (Go.binOp .neq ty .nilIface .nilIface) = (do pure (.bool (!(← Op.equal ty .nilIface .nilIface)))) := rfl
      simp [this, heq]
  · cases hr
end Go.Mini
