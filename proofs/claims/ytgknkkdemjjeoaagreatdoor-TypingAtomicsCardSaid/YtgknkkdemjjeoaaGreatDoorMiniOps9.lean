/- A part of the proof: MiniOps9. No condition. -/
import Derived.Test.YtgknkkdemjjeoaaGreatDoorMiniOps8
import Derived.Laws.BytesArg
set_option linter.all false
set_option maxRecDepth 100000
namespace Go.Mini
set_option linter.unusedVariables false
set_option linter.unusedSimpArgs false
variable {P : Program} {G : Nat → Option V} {forb : Nat → Prop} {φ : Phi} {w : World} {t : List V} {a : Act} {D : Nat → Prop} {base : Nat} {h : H} {o : Oper}

/-- what a slice's elements are in the model -/
def ElR (forb : Nat → Prop) (w : World) (φ : Phi) (sz : Nat) (els : List (List V)) (A : Addr) : Prop :=
  (∀ el ∈ els, el.length = sz) ∧ ∀ (i : Nat) el (o : Nat) y, els[i]? = some el → el[o]? = some y → y.isCell = true ∧ ∃ u, w.cell? (A.add (i * sz + o)) = some u ∧ VR forb w φ y u

theorem elems_ok (hR : Rel forb φ D base h w) {v : V} {sz : Nat} {els : List (List V)} {r : List Nat} {c : Value} (he : elems h v = some (sz, els, r)) (hv : VR forb w φ v c) (hr : ∀ b ∈ r, D b) :
    ∃ A cap, c = .slice (some A) els.length cap ∧ els.length ≤ cap ∧ cap ≤ 9223372036854775807 ∧ ElR forb w φ sz els A := by
  unfold elems at he
  split at he
  · cases he
    obtain ⟨A, cap, rfl, q1, q2, q3, q4, q5⟩ := hv.rs_inv
    refine ⟨A, cap, rfl, q2, q3, q1, fun i el o y hi ho => ?_⟩
    obtain ⟨_, h4, u, h5⟩ := q4 i el o y hi ho
    exact ⟨h4, u, h5, (q5 i el o y u hi ho h5).less (fun _ h => h) (fun _ _ _ h => by cases h)⟩
  · rename_i b vv sz' i n clip
    split at he
    · rename_i x hx
      split at he
      · rename_i hc
        obtain ⟨hc1, hc2⟩ := hc
        cases he
        obtain ⟨L, A, cap, rfl, hφ, q1, q2, q3, q4, q5, q6, q7⟩ := hv.os_inv
        obtain ⟨hx1, hx2, hx3⟩ := rowAt_some hx
        obtain ⟨k1, k2, k3, k4, cs, ty, fr, k5, k6, k7⟩ := hR.row b x vv L (hr b (by simp)) hx1 hx2 hx3 hφ
        have hlen : ((x.els.drop i).take n).length = n := by simp; omega
        refine ⟨A, cap, by rw [hlen], by omega, q5, fun el hel => ?_, fun j el o y hj ho => ?_⟩
        · rw [← hc1]; exact k4 el (List.mem_of_mem_drop (List.mem_of_mem_take hel))
        · rw [List.getElem?_take] at hj
          split at hj
          · rename_i hjn
            rw [List.getElem?_drop] at hj
            obtain ⟨h3, u, h4, h5⟩ := k7 (i + j) el o y (by omega) (by omega) hj ho
            obtain ⟨hA, _⟩ := q7 (by omega)
            refine ⟨h3, u, ?_, h5⟩
            rw [hA, at_off]
            simp only [World.cell?, k5, Option.isSome_none, Bool.false_eq_true, if_false, Nat.zero_add]
            rw [← h4, q1]
            congr 1
            have : i + j - L.lo = (i - L.lo) + j := by omega
            rw [this, Nat.add_mul]; omega
          · cases hj
      · cases he
    · cases he
  · cases he

theorem op_mkslice_ok (ht : Tm G forb φ w t a) (hR : Rel forb φ D base h w) {ty el : TypeId} {inf : TypeInfo} {z : V} {l c : Operand} {dl dc : Opd} (ho : o.op = .makeSlice ty l c) (hu : P.underlying ty = some (.slice el)) (hi : P.info? el = some inf) (hz : zeroT P el = some z) (hl : opd l = some dl) (hc : opd c = some dc) (hs0 : inf.size ≠ 0) (hb0 : inf.bytes ≠ 0) (hzl : z.cells.length = inf.size) (hcc : z.cells.all V.isCell = true) {r : Res} (hr : op_mkslice G t inf.size inf.bytes z.cells dl dc h = some r) (hfree : ∀ v, φ h.length v = none) : Goes P o a w (Post forb φ D base h w r) := by
  unfold op_mkslice at hr
  split at hr
  · rename_i ln cn h1 h2
    split at hr
    · cases hr
    · rename_i hn
      simp only [not_or, Int.not_lt] at hn
      obtain ⟨n1, n2, n3⟩ := hn
      cases hr
      have v1 := ev_ok ht hl h1
      have v2 := ev_ok ht hc h2
      have e1 : a.eval l = .int .i64 ln := by generalize a.eval l = e at v1; cases v1; rfl
      have e2 : a.eval c = .int .i64 cn := by generalize a.eval c = e at v2; cases v2; rfl
      obtain ⟨it, zv, zi, z1, z2⟩ := zeroT_info hz
      obtain ⟨zv', z1', _⟩ := zeroT_ok hz
      have hzz : zv' = zv := by
        have := z1' w
        simp [zeroValue, typeInfo, zi, z1] at this
        exact this.symm
      subst hzz
      have hb1 : (1 : Int) ≤ inf.bytes := by omega
      have n3' : (inf.bytes : Int) * cn ≤ 140737488355328 := by omega
      have hcb : cn ≤ 140737488355328 := by
        have : cn ≤ inf.bytes * cn := by
          have := Int.mul_le_mul_of_nonneg_right hb1 (by omega : 0 ≤ cn)
          omega
        omega
      have w1 : IntKind.i64.wrap ln = ln := by rw [IntKind.wrap_i64]; omega
      have w2 : IntKind.i64.wrap cn = cn := by rw [IntKind.wrap_i64]; omega
      have hcr := cr_replicate (cr_zero hcc (z2 forb φ w)) cn.toNat inf.size hzl hs0
      refine goes_value (c := .slice (some ⟨w.heap.size, 0, none⟩) ln.toNat cn.toNat) (w' := grow w (.cells ((Array.range (cn.toNat * inf.size)).map (zv'.cells[· % zv'.cells.size]!)) el (0, 0))) ?_ ?_
      · have hroom : ¬ cn.toNat * inf.bytes > roomBytes := by
          have : ((cn.toNat * inf.bytes : Nat) : Int) ≤ 140737488355328 := by
            rw [Int.natCast_mul, Int.toNat_of_nonneg (by omega), Int.mul_comm]; exact n3'
          simp only [roomBytes]; omega
        have hsz : sizeT P el = some inf.size := by simp [sizeT, hi]
        have hti : (typeInfo el).run P w = .ok inf w := by simp [typeInfo, hi]
        have hmk : (Instr.makeSlice ty (.int .i64 ln) (.int .i64 cn)).run P w = .ok (.slice (some ⟨w.heap.size, 0, none⟩) ln.toNat cn.toNat) (grow w (.cells ((Array.range (cn.toNat * inf.size)).map (zv'.cells[· % zv'.cells.size]!)) el (0, 0))) := by
          unfold Instr.makeSlice
          have hcond : (decide (cn < 0) || decide ((inf.bytes : Int) * cn > 2 ^ 48) || decide (ln < 0) || decide (ln > cn)) = false := by
            simp; omega
          simp only [Sem.run_bind, run_underlying hu, Result.andThen_ok, asInt, asIntOf, Sem.run_pure, hti, w1, w2, hcond, Bool.false_eq_true, if_false, Sem.run_ite]
          have hask : (askRoom (cn.toNat * inf.bytes)).run P w = .ok () w := by unfold askRoom; rw [if_neg hroom]; rfl
          simp only [hask, Result.andThen_ok, run_sizeOf hsz]
          by_cases h0 : cn.toNat * inf.size = 0
          · have hc0 : cn.toNat = 0 := by rcases Nat.mul_eq_zero.1 h0 with h1 | h1; exact h1; exact (hs0 h1).elim
            simp only [h0, if_true, Sem.run_pure, Result.andThen_ok]
            simp [Go.newRow, newObj, Sem.run, hc0]
            have e0 : ∀ f g : Nat → Value, (Array.range 0).map f = (Array.range 0).map g := fun f g => by apply Array.ext <;> simp
            rw [e0]
          · simp only [h0, if_false, z1', Result.andThen_ok, Sem.run_pure, Sem.run_bind]
            simp [Go.newRow, newObj, Sem.run]
        unfold execOp; rw [ho]
        simp only [e1, e2]
        simp [hmk]
      · refine post_new hR inf.size (List.replicate cn.toNat z.cells) _ el (0, 0) (fun o _ => by simp) (fun e he => ?_) hfree (fun i e oo y hie hoy => ?_) (fun forb' φ' w' hφ' hw => ?_)
        · rw [List.eq_of_mem_replicate he]; exact hzl
        · have hilt : i < cn.toNat := by have := (List.getElem?_eq_some_iff.1 hie).1; simpa using this
          have he : e = z.cells := List.eq_of_mem_replicate (List.mem_of_getElem? hie)
          subst he
          have hol := (List.getElem?_eq_some_iff.1 hoy).1
          have hfl : (List.replicate cn.toNat z.cells).flatten[i * inf.size + oo]? = some y := by
            have hget : ∀ (n i : Nat), i < n → (List.replicate n z.cells).flatten[i * inf.size + oo]? = z.cells[oo]? := by
              intro n
              induction n with
              | zero => intro i hi; omega
              | succ n ih =>
                intro i hi
                rw [List.replicate_succ, List.flatten_cons]
                cases i with
                | zero => rw [List.getElem?_append_left (by omega)]; simp
                | succ i =>
                  rw [List.getElem?_append_right (by rw [Nat.add_mul]; omega)]
                  rw [show (i + 1) * inf.size + oo - z.cells.length = i * inf.size + oo by rw [Nat.add_mul]; omega]
                  exact ih i (by omega)
            rw [hget _ _ hilt, hoy]
          exact hcr.2 _ _ hfl
        · refine new_os hφ' (by simp; omega) (by omega) (by omega) (fun hh => by cases hh) hw (by simp)
  · cases hr

theorem op_s2b_ok (ht : Tm G forb φ w t a) (hR : Rel forb φ D base h w) {src dst el : TypeId} {x : Operand} {dx : Opd} (ho : o.op = .convert src dst x) (h1 : P.underlying src = some .string) (h2 : P.underlying dst = some (.slice el)) (h3 : P.underlying el = some (.int .u8)) (hx : opd x = some dx) {r : Res} (hr : op_s2b G t dx h = some r) (hfree : ∀ v, φ h.length v = none) : Goes P o a w (Post forb φ D base h w r) := by
  unfold op_s2b at hr
  split at hr
  · rename_i s hs
    split at hr
    · rename_i hlen
      cases hr
      have hv := ev_ok ht hx hs
      have he : a.eval x = .string ⟨s.toArray⟩ := by generalize a.eval x = e at hv; cases hv; rfl
      have hsz : (⟨s.toArray⟩ : ByteArray).size = s.length := by show s.toArray.size = _; simp
      generalize hcap : s.length + w.tape w.drawn (.appendCap s.length 0 el) % (2 ^ 63 - s.length) = cap
      have hc1 : s.length ≤ cap := by omega
      have hc2 : cap ≤ 9223372036854775807 := by
        have := Nat.mod_lt (w.tape w.drawn (.appendCap s.length 0 el)) (show 0 < 2 ^ 63 - s.length by omega)
        omega
      let cells : Array Value := (s.toArray.map fun b => Value.int .u8 b.toNat) ++ Array.replicate (cap - s.length) (.int .u8 0)
      have hcs : cells.size = cap := by simp [cells]; omega
      refine goes_value (c := .slice (some ⟨w.heap.size, 0, none⟩) s.length cap) (w' := grow { w with drawn := w.drawn + 1 } (.cells cells el (cap, cap + 1))) ?_ ?_
      · have hrun : (Conv.stringToBytes el ⟨s.toArray⟩).run P w = .ok (.slice (some ⟨w.heap.size, 0, none⟩) s.length cap) (grow { w with drawn := w.drawn + 1 } (.cells cells el (cap, cap + 1))) := by
          have hch : (choose (.appendCap s.length 0 el)).run P w = .ok cap { w with drawn := w.drawn + 1 } := by
            rw [← hcap]; rfl
          have hfr : ∀ w0 : World, ∀ cs : Array Value, cs.size = cap → (do let a ← Go.newRow el cs; markStringish a; pure (Value.slice (some a) s.length cap)).run P w0 = .ok (.slice (some ⟨w0.heap.size, 0, none⟩) s.length cap) (grow w0 (.cells cs el (cap, cap + 1))) := by
            intro w0 cs hcs
            have e1 : (w0.alloc (.cells cs el (0, 0))).shape? w0.heap.size = some (el, cs.size) := by
              unfold World.shape?
              show (match (w0.heap.push (Obj.cells cs el (0, 0)))[w0.heap.size]? with | some (.cells c e _) => some (e, c.size) | _ => none) = _
              simp
            simp only [Go.newRow, newObj, Sem.run_bind, Sem.run, Result.andThen_ok, Sem.run_pure]
            unfold markStringish
            simp only [shape, Sem.run_bind, Sem.run, Result.andThen_ok]
            have e2 : ({ w0 with heap := w0.heap.push (.cells cs el (0, 0)) } : World).shape? w0.heap.size = some (el, cs.size) := e1
            rw [e2]
            simp only [freeze, Sem.run, Result.andThen_ok, hcs]
            have e3 : ({ w0 with heap := w0.heap.push (.cells cs el (0, 0)) } : World).freeze ⟨w0.heap.size, cap, none⟩ 1 = grow w0 (.cells cs el (cap, cap + 1)) := by
              unfold World.freeze
              rw [if_neg (by decide)]
              show World.mk _ _ _ _ _ = World.mk _ _ _ _ _
              congr 1
              apply Array.ext_getElem?
              intro j
              rw [Array.getElem?_modify, Array.getElem?_push, Array.getElem?_push]
              by_cases e : j = w0.heap.size
              · subst e; simp
              · rw [if_neg (by simp only []; omega), if_neg e, if_neg e]
            rw [e3]
          unfold Conv.stringToBytes
          simp only [hsz, Sem.run_bind, hch, Result.andThen_ok]
          have := hfr { w with drawn := w.drawn + 1 } cells hcs
          simpa [Sem.run_bind, cells] using this
        unfold execOp; rw [ho]
        simp only [he]
        simp [convert, run_underlying h1, run_underlying h2, run_underlying h3, hrun]
      · have hp := post_new (hR.drew (w.drawn + 1)) (v := .os h.length 0 1 0 s.length false) (r := []) (c := .slice (some ⟨w.heap.size, 0, none⟩) s.length cap) 1 (s.map fun c => [V.int .u8 c.toNat]) cells el (cap, cap + 1) (fun o hoo => by simp; omega) (by simp) hfree (fun i e oo y hie hoy => ?_) (fun forb' φ' w' hφ' hw => new_os hφ' (by simp) hc1 hc2 (fun hh => by cases hh) hw (by omega))
        · obtain ⟨f', φ', p1, p2, p3, p4, p5, p6, p7, p8⟩ := hp
          exact ⟨f', φ', p1, p2, (Ext.drew forb w (w.drawn + 1)).trans p3, p4, p5, p6, p7, p8⟩
        · rw [List.getElem?_map] at hie
          rcases hq : s[i]? with _ | b
          · rw [hq] at hie; cases hie
          · rw [hq] at hie; cases hie
            cases oo with
            | zero =>
              simp at hoy; subst hoy
              have hil := (List.getElem?_eq_some_iff.1 hq).1
              refine ⟨rfl, .int .u8 b.toNat, ?_, .int⟩
              have : (s.toArray.map fun b => Value.int .u8 b.toNat)[i]? = some (.int .u8 b.toNat) := by simp [hq]
              simp only [cells, Nat.mul_one, Nat.add_zero]
              rw [Array.getElem?_append_left (by simpa using hil)]
              exact this
            | succ n => simp at hoy
    · cases hr
  · cases hr

theorem add_eq {A : Addr} {w : World} {c : Value} (h : w.cell? A = some c) (k : Nat) : A.add k = ⟨A.block, A.off + k, none⟩ := by
  have hs : A.spot = none := by
    unfold World.cell? at h
    split at h
    · split at h
      · cases h
      · rename_i hn; cases hA : A.spot with | none => rfl | some s => simp [hA] at hn
    · cases h
  unfold Addr.add
  split
  · rename_i h0; subst h0; cases A; simp at hs ⊢; exact hs
  · rfl

theorem bytes_run {src dst e : TypeId} (hs : P.underlying src = some (.slice e)) (he : P.underlying e = some (.int .u8)) (hd : P.underlying dst = some .string) {els : List (List V)} {bs : List UInt8} {A : Addr} {cap : Nat}
    (hel : ElR forb w φ 1 els A) (hb : mapM? (fun c => match c with | [V.int .u8 n] => some (UInt8.ofNat n.toNat) | _ => none) els = some bs) :
    (Go.convert src dst (.slice (some A) els.length cap)).run P w = .ok (.string ⟨bs.toArray⟩) w := by
  have hget : ∀ i, i < els.length → ∃ n : Int, els[i]? = some [V.int .u8 n] ∧ bs[i]? = some (UInt8.ofNat n.toNat) := by
    intro i hi
    have hl := mapM?_length hb
    obtain ⟨x, h1, h2⟩ := mapM?_get hb i bs[i] (by simp [show i < bs.length by omega])
    split at h2
    · rename_i n
      refine ⟨n, h1, ?_⟩
      rw [h2]; simp [show i < bs.length by omega]
    · cases h2
  let xs : List Int := els.map fun c => match c with | [V.int _ n] => n | _ => 0
  have hxs : ∀ (i : Nat) (n : Int), els[i]? = some [V.int .u8 n] → xs[i]? = some n := by
    intro i n h; simp [xs, List.getElem?_map, h]
  have hcell : ∀ i, i < els.length → w.cell? (A.add i) = some (.int .u8 (xs.getD i 0)) := by
    intro i hi
    obtain ⟨n, h1, _⟩ := hget i hi
    obtain ⟨_, u, h3, h4⟩ := hel.2 i _ 0 _ h1 rfl
    cases h4
    simpa [List.getD, hxs i n h1] using h3
  have hbs : strOfNums xs = ⟨bs.toArray⟩ := by
    unfold strOfNums
    congr 2
    apply List.ext_getElem?
    intro i
    by_cases hi : i < els.length
    · obtain ⟨n, h1, h2⟩ := hget i hi
      rw [List.getElem?_map, hxs i n h1, h2]; rfl
    · have hl := mapM?_length hb
      rw [List.getElem?_eq_none (by simp [xs]; omega), List.getElem?_eq_none (by omega)]
  rcases Nat.eq_zero_or_pos els.length with h0 | h0
  · have hA : ∀ i, i < els.length → w.cell? ⟨A.block, A.off + i, none⟩ = some (.int .u8 (xs.getD i 0)) := fun i hi => by omega
    have h1 := run_convert_bytes_string (P := P) w src dst e (some A) els.length cap hs he hd
    rw [h1, ← hbs]
    have : xs = [] := by apply List.eq_nil_of_length_eq_zero; simp [xs, h0]
    rw [this, h0]
    simp [Conv.bytesToString, loadCells, loadCellsFrom, strOfNums]
    rfl
  · have h00 : w.cell? A = some (.int .u8 (xs.getD 0 0)) := hcell 0 h0
    have hA := add_eq h00
    have hA0 : A = ⟨A.block, A.off, none⟩ := hA 0
    rw [← hbs]
    rw [hA0]
    exact run_convert_bytes_arg w src e hs he A.block A.off els.length cap xs (by simp [xs]) (fun i hi => by have h1 := hcell i hi; rw [hA i] at h1; exact h1) dst hd

theorem op_b2s_ok (ht : Tm G forb φ w t a) (hR : Rel forb φ D base h w) {src dst el : TypeId} {x : Operand} {dx : Opd} (ho : o.op = .convert src dst x) (h1 : P.underlying src = some (.slice el)) (h2 : P.underlying dst = some .string) (h3 : P.underlying el = some (.int .u8)) (hx : opd x = some dx) {r : Res} (hr : op_b2s G t dx h = some r) (hD : ∀ b ∈ r.r, D b) : Goes P o a w (Post forb φ D base h w r) := by
  have hrun : ∀ c v, a.eval x = c → (Go.convert src dst c).run P w = .ok v w → (execOp a.eval o).run P w = .ok (.value v) w := by
    intro c v hc hv
    unfold execOp; rw [ho]
    simp only [hc]
    simp [hv]
  unfold op_b2s at hr
  split at hr
  · rename_i v hv
    have hvr := ev_ok ht hx hv
    split at hr
    · rename_i els rr hq
      split at hr
      · rename_i bs hb
        cases hr
        split at hq
        · cases hq
          simp [mapM?] at hb; subst hb
          have he : a.eval x = .slice none 0 0 := by generalize a.eval x = e at hvr; cases hvr; rfl
          exact goes_same hR (hrun _ _ he (run_convert_bytes_nil w src el h1 h3 0 0 dst h2)) .str
        · obtain ⟨A, cap, he, _, _, hel⟩ := elems_ok hR hq hvr hD
          exact goes_same hR (hrun _ _ he (bytes_run h1 h3 h2 hel hb)) .str
      · cases hr
    · cases hr
  · cases hr
end Go.Mini
