/-
What the statements' readings say, as values of the small machine.
-/
import Derived.Test.YtgknkkdemjjeoaaGreatDoorMiniMemo
import Derived.Carry
import Derived.WalkKit
import Derived.ProofKit
import Derived.Below
set_option linter.all false
set_option maxRecDepth 100000
namespace Go.Mini
set_option linter.unusedVariables false
set_option linter.unusedSimpArgs false
variable {P : Program}

def hasF (h : TypeId → List V → Prop) : List Field → List V → Prop
  | [], xs => xs = []
  | f :: fs, xs => ∃ a b, xs = a ++ b ∧ h f.type a ∧ hasF h fs b
/-- cells of a type -/
def hasT (P : Program) : Nat → TypeId → List V → Prop
  | 0, _, _ => False
  | k + 1, t, xs => match P.underlying t with
    | some .bool => ∃ b, xs = [.bool b]
    | some (.int kd) => ∃ n, xs = [.int kd n] ∧ kd.min ≤ n ∧ n ≤ kd.max
    | some .string => ∃ s, xs = [.str s]
    | some (.slice e) => xs = [.nils] ∨ ∃ els, xs = [.rs (P.cellsOf e) els] ∧ els.length ≤ 9223372036854775807 ∧ ∀ el ∈ els, hasT P k e el
    | some (.struct fs) => hasF (hasT P k) fs.toList xs
    | _ => False
def contF (P : Program) : List Field → Nat → Option Nat
  | [], n => some n
  | f :: fs, n => if f.offset = n then contF P fs (n + P.cellsOf f.type) else none
/-- types of which this speaks -/
def simpleT (P : Program) : Nat → TypeId → Bool
  | 0, _ => false
  | k + 1, t => match P.underlying t with
    | some .bool | some (.int _) | some .string => true
    | some (.slice e) => simpleT P k e
    | some (.struct fs) => (contF P fs.toList 0 == some (P.cellsOf t)) && fs.toList.all fun f => simpleT P k f.type
    | _ => false

theorem mapM_some {α β : Type} {f : α → Option β} : ∀ {l : List α} {r : List β}, l.mapM f = some r → r.length = l.length ∧ ∀ (i : Nat) x, l[i]? = some x → f x = r[i]?
  | [], r, h => by
    simp at h; subst h
    exact ⟨rfl, fun i x hx => by simp at hx⟩
  | a :: l, r, h => by
    rw [List.mapM_cons] at h
    rcases ha : f a with _ | b
    · rw [ha] at h; simp at h
    rw [ha] at h
    rcases hl : l.mapM f with _ | r'
    · rw [hl] at h; simp at h
    rw [hl] at h
    simp at h; subst h
    obtain ⟨h1, h2⟩ := mapM_some hl
    refine ⟨by simp [h1], fun i x hx => ?_⟩
    cases i with
    | zero => simp at hx; subst hx; simp [ha]
    | succ i => simp at hx ⊢; exact h2 i x hx
theorem cells_some {w : World} {a : Addr} {n : Nat} {l : List Value} (h : w.cells? 0 a n = some l) : l.length = n ∧ ∀ i, i < n → w.cell? (a.add i) = l[i]? := by
  unfold World.cells? at h
  rw [if_pos (Nat.zero_le _)] at h
  obtain ⟨h1, h2⟩ := mapM_some h
  rw [List.length_range] at h1
  exact ⟨h1, fun i hi => h2 i i (by rw [List.getElem?_range hi])⟩

/-- values cell by cell -/
def VRc (w : World) (xs : List V) (cs : List Value) : Prop := xs.length = cs.length ∧ (∀ (i : Nat) x c, xs[i]? = some x → cs[i]? = some c → VR noF w noPhi x c) ∧ ∀ x ∈ xs, x.isCell = true
theorem VRc.nil {w : World} : VRc w [] [] := ⟨rfl, fun i x c h => by simp at h, fun x h => by simp at h⟩
theorem VRc.one {w : World} {x : V} {c : Value} (h : VR noF w noPhi x c) (hc : x.isCell = true) : VRc w [x] [c] := by
  refine ⟨rfl, fun i y d hy hd => ?_, fun y hy => by simp at hy; subst hy; exact hc⟩
  cases i with
  | zero => simp at hy hd; subst hy hd; exact h
  | succ i => simp at hy
theorem VRc.app {w : World} {xs ys : List V} {cs ds : List Value} (h : VRc w xs cs) (k : VRc w ys ds) : VRc w (xs ++ ys) (cs ++ ds) := by
  obtain ⟨h1, h2, h3⟩ := h
  obtain ⟨k1, k2, k3⟩ := k
  refine ⟨by simp [h1, k1], fun i x c hx hc => ?_, fun x hx => ?_⟩
  · rw [List.getElem?_append] at hx hc
    by_cases hi : i < xs.length
    · rw [if_pos hi] at hx; rw [if_pos (by omega)] at hc; exact h2 i x c hx hc
    · rw [if_neg hi] at hx; rw [if_neg (by omega), ← h1] at hc; exact k2 _ x c hx hc
  · rcases List.mem_append.1 hx with hx | hx
    · exact h3 x hx
    · exact k3 x hx

section
variable {H : Type} {enc : TypeId × Value → H} {w : World} {sp : Nat → Bool} {held : Bool}
theorem fields_open {k fuel : Nat} (ih : ∀ {t : TypeId} {cs : List Value} {d : DataW H} {ps : List MemPlace}, simpleT P k t = true → DataW.trod enc P w 0 sp held fuel t cs = some (d, ps) → ∃ xs, VRc w xs cs ∧ hasT P k t xs) {cs : List Value} {m : Nat} :
    ∀ {fs : List Field} {n : Nat} {r : List (DataW H × List MemPlace)}, contF P fs n = some m → cs.length = m → n ≤ m → (fs.all fun f => simpleT P k f.type) = true →
      fs.mapM (fun f => DataW.trod enc P w 0 sp held fuel f.type ((cs.drop f.offset).take (P.cellsOf f.type))) = some r → ∃ xs, VRc w xs (cs.drop n) ∧ hasF (hasT P k) fs xs
  | [], n, r, hc, hl, hn, hs, h => by
    simp only [contF, Option.some.injEq] at hc; subst hc
    refine ⟨[], ?_, rfl⟩
    rw [List.drop_of_length_le (by omega)]; exact .nil
  | f :: fs, n, r, hc, hl, hn, hs, h => by
    simp only [contF] at hc
    split at hc
    · rename_i ho
      simp only [List.all_cons, Bool.and_eq_true] at hs
      rw [List.mapM_cons] at h
      rcases ha : DataW.trod enc P w 0 sp held fuel f.type ((cs.drop f.offset).take (P.cellsOf f.type)) with _ | ⟨d, ps⟩
      · rw [ha] at h; simp at h
      rw [ha] at h
      rcases hr : fs.mapM (fun f => DataW.trod enc P w 0 sp held fuel f.type ((cs.drop f.offset).take (P.cellsOf f.type))) with _ | r'
      · rw [hr] at h; simp at h
      have hle : n + P.cellsOf f.type ≤ m := by
        have : ∀ {fs : List Field} {n m : Nat}, contF P fs n = some m → n ≤ m := by
          intro fs; induction fs with
          | nil => intro n m h; simp only [contF, Option.some.injEq] at h; omega
          | cons g gs ih => intro n m h; simp only [contF] at h; split at h
                            · have := ih h; omega
                            · cases h
        exact this hc
      obtain ⟨xs, x1, x2⟩ := ih hs.1 ha
      obtain ⟨ys, y1, y2⟩ := fields_open ih hc hl hle hs.2 hr
      refine ⟨xs ++ ys, ?_, xs, ys, rfl, x2, y2⟩
      have e : cs.drop n = (cs.drop f.offset).take (P.cellsOf f.type) ++ cs.drop (n + P.cellsOf f.type) := by
        rw [ho, ← List.drop_drop, List.take_append_drop]
      rw [e]; exact x1.app y1
    · cases hc

theorem trod_open : ∀ {k fuel : Nat} {t : TypeId} {cs : List Value} {d : DataW H} {ps : List MemPlace}, simpleT P k t = true → DataW.trod enc P w 0 sp held fuel t cs = some (d, ps) → ∃ xs, VRc w xs cs ∧ hasT P k t xs
  | 0, _, _, _, _, _, hs, _ => by simp [simpleT] at hs
  | k + 1, 0, _, _, _, _, _, h => by simp [DataW.trod] at h
  | k + 1, fuel + 1, t, cs, d, ps, hs, h => by
    simp only [simpleT] at hs
    simp only [hasT]
    unfold DataW.trod at h
    rcases ht : P.underlying t with _ | u
    · rw [ht] at hs; cases hs
    rw [ht] at hs h
    cases u <;> simp only [] at hs <;> try (cases hs; done)
    case bool =>
      split at h <;> try (cases h; done)
      all_goals first | (rename_i hq; cases hq; done) | skip
      exact ⟨[.bool _], .one .bool rfl, _, rfl⟩
    case int kd =>
      split at h <;> try (cases h; done)
      all_goals first | (rename_i hq; cases hq; done) | skip
      rename_i hq; cases hq
      split at h
      · rename_i hw
        obtain ⟨rfl, hw⟩ := hw
        simp only [Lit.wf, Bool.and_eq_true, decide_eq_true_eq] at hw
        exact ⟨[.int _ _], .one .int rfl, _, rfl, hw.1, hw.2⟩
      · cases h
    case string =>
      split at h <;> try (cases h; done)
      all_goals first | (rename_i hq; cases hq; done) | skip
      rename_i s _
      exact ⟨[.str s.data.toList], .one .str rfl, _, rfl⟩
    case slice e =>
      split at h <;> try (cases h; done)
      all_goals first | (rename_i hq; cases hq; done) | skip
      · exact ⟨[.nils], .one .nils rfl, .inl rfl⟩
      · rename_i a len cap hq; cases hq
        simp only [] at h
        split at h
        · rename_i hb
          obtain ⟨_, hlc, hcm⟩ := hb
          rcases hm : (List.range len).mapM (fun i => (w.cells? 0 (a.add (i * P.cellsOf e)) (P.cellsOf e)).bind (DataW.trod enc P w 0 sp held fuel e)) with _ | elems
          · rw [hm] at h; cases h
          clear h
          obtain ⟨m1, m2⟩ := mapM_some hm
          rw [List.length_range] at m1
          have key : ∀ i, i < len → ∃ xs, xs.length = P.cellsOf e ∧ (∀ (o : Nat) x, xs[o]? = some x → x.isCell = true ∧ ∃ c, w.cell? (a.add (i * P.cellsOf e + o)) = some c ∧ VR noF w noPhi x c) ∧ hasT P k e xs := by
            intro i hi
            have h1 := m2 i i (by rw [List.getElem?_range hi])
            rw [List.getElem?_eq_getElem (by omega)] at h1
            rcases hc : w.cells? 0 (a.add (i * P.cellsOf e)) (P.cellsOf e) with _ | l
            · rw [hc] at h1; cases h1
            rw [hc] at h1
            obtain ⟨c1, c2⟩ := cells_some hc
            obtain ⟨xs, ⟨x1, x2, x3⟩, x4⟩ := trod_open hs h1
            refine ⟨xs, by omega, fun o x hx => ?_, x4⟩
            have ho : o < xs.length := (List.getElem?_eq_some_iff.1 hx).1
            refine ⟨x3 x (List.mem_of_getElem? hx), l[o], ?_, x2 o x _ hx (List.getElem?_eq_getElem (by omega))⟩
            rw [← Addr.add_add, c2 o (by omega), List.getElem?_eq_getElem (by omega)]
          let F : Nat → List V := fun i => if h : i < len then Classical.choose (key i h) else []
          have eF : ∀ i (h : i < len), F i = Classical.choose (key i h) := fun i h => dif_pos h
          have f1 : ∀ i, i < len → (F i).length = P.cellsOf e := fun i h => by rw [eF i h]; exact (Classical.choose_spec (key i h)).1
          have f2 : ∀ i, i < len → ∀ (o : Nat) x, (F i)[o]? = some x → x.isCell = true ∧ ∃ c, w.cell? (a.add (i * P.cellsOf e + o)) = some c ∧ VR noF w noPhi x c := fun i h => by rw [eF i h]; exact (Classical.choose_spec (key i h)).2.1
          have f3 : ∀ i, i < len → hasT P k e (F i) := fun i h => by rw [eF i h]; exact (Classical.choose_spec (key i h)).2.2
          clear_value F
          refine ⟨[.rs (P.cellsOf e) ((List.range len).map F)], .one ?_ rfl, .inr ⟨_, rfl, ?_, ?_⟩⟩
          · have hlen : ((List.range len).map F).length = len := by simp
            have h0 : ∀ (i : Nat) el, ((List.range len).map F)[i]? = some el → i < len ∧ el = F i := by
              intro i el he
              have hi : i < len := by
                have := (List.getElem?_eq_some_iff.1 he).1
                rw [hlen] at this; exact this
              rw [List.getElem?_map, List.getElem?_range hi] at he
              simp at he; exact ⟨hi, he.symm⟩
            have := @VR.rs noF w noPhi (P.cellsOf e) ((List.range len).map F) a cap (fun el hel => by
              obtain ⟨i, hi⟩ := List.getElem?_of_mem hel
              obtain ⟨h1, rfl⟩ := h0 i el hi
              exact f1 i h1) (by rw [hlen]; exact hlc) hcm (fun i el o x he hx => by
              obtain ⟨h1, rfl⟩ := h0 i el he
              obtain ⟨y1, c, y2, _⟩ := f2 i h1 o x hx
              exact ⟨fun h => h, y1, c, y2⟩) (fun i el o x c he hx hc => by
              obtain ⟨h1, rfl⟩ := h0 i el he
              obtain ⟨y1, c', y2, y3⟩ := f2 i h1 o x hx
              rw [y2] at hc; cases hc; exact y3)
            rw [hlen] at this; exact this
          · simp only [List.length_map, List.length_range]; exact Nat.le_trans hlc hcm
          · intro el hel
            obtain ⟨i, hi, rfl⟩ := List.mem_map.1 hel
            exact f3 i (List.mem_range.1 hi)
        · cases h
    case struct fs =>
      simp only [Bool.and_eq_true, beq_iff_eq] at hs
      split at h <;> try (cases h; done)
      all_goals first | (rename_i hq; cases hq; done) | exact (‹∀ fs_1 : Array Field, some (TypeDesc.struct fs) = some (TypeDesc.struct fs_1) → False› fs rfl).elim | skip
      rename_i cs _ _ fs' hq; cases hq
      split at h
      · rename_i hl
        rcases hm : fs.toList.mapM (fun f => DataW.trod enc P w 0 sp held fuel f.type ((cs.drop f.offset).take (P.cellsOf f.type))) with _ | r
        · rw [hm] at h; cases h
        have := fields_open (P := P) (fun {t cs d ps} h1 h2 => trod_open h1 h2) hs.1 hl (Nat.zero_le _) hs.2 hm
        rw [List.drop_zero] at this
        exact this
      · cases h
end
end Go.Mini
