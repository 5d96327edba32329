/- A part of the proof: LawGl. No condition. -/
import Derived.Test.YtdidbboahhpaoaaDoorRows
import Derived.Test.YtdidbboahhpaoaaDoorTie
import Derived.Test.YtdidbboahhpaoaaDoorCards
import Derived.Test.YtdidbboahhpaoaaDoorGrLoop2
import Derived.WalkKit
import Derived.ProofKit
import Derived.Handy
import Derived.Lay
import Derived.SevenTiedAt
import Derived.OpenShut
import Derived.ChangeOld
import Derived.Below
import Derived.Carry
import Derived.SizedLaws
import Derived.MakeChecks
set_option linter.all false
set_option maxRecDepth 100000
set_option linter.all false
namespace Go.Proofs.YtdidbboahhpaoaaDoor.graphLoop
open Go.ChangeShapes Go.WideShapes Go.ChangeAt Go.RowKit Go.Mini
theorem own : ownKnob Tryd.prog.godebug = none := by kernel_rfl
theorem laidOut : laidOutB Tryd.prog = true := by kernel_rfl
def laid : List (String × DataW Unit) := [("weirgate/graph.input", Rows.laid_weirgate_graph_input)]
theorem inp_reads {W : World} {ps : List MemPlace} (hLV : DataW.LaidVars Tryd.prog W laid ps) : ∀ n v, Code.gS n = some v → VR noF W noPhi v (.pointer (some ⟨n, 0, none⟩)) := by
  have hLV' : DataW.LaidVars Tryd.prog W [("weirgate/graph.input", Rows.laid_weirgate_graph_input)] ps := hLV
  obtain ⟨g', t', cs, fuel, p, q, h1, h2, h3, h4, _, _⟩ := hLV'
  have hg : Tryd.prog.globalNamed "weirgate/graph.input" = some 0 := by kernel_rfl
  have ht : (Tryd.prog.globals[0]?).map (·.type) = some 40 := by kernel_rfl
  obtain rfl := Option.some.inj (hg.symm.trans h1)
  obtain rfl := Option.some.inj (ht.symm.trans h2)
  obtain ⟨y0, y1, m, e0, hl, k0, k1⟩ := trod_struct2 Tryd.underlying40 h4
  have c40 : Tryd.prog.cellsOf 40 = 2 := by kernel_rfl
  have c3 : Tryd.prog.cellsOf 3 = 1 := by kernel_rfl
  rw [c40] at hl
  obtain ⟨n0, a1, a2, _⟩ := DataW.trod_int Tryd.underlying3 k0
  obtain ⟨n1, b1, b2, _⟩ := DataW.trod_int Tryd.underlying3 k1
  subst a2 b2
  have e1 : (Rows.laid_weirgate_graph_input : DataW Unit) = .agg [.lit (.int .i64 n0), .lit (.int .i64 n1)] := (Prod.mk.inj e0).1
  have e2 : (DataW.agg [.lit (.int .i64 (-1)), .lit (.int .i64 (-1))] : DataW Unit) = .agg [.lit (.int .i64 n0), .lit (.int .i64 n1)] := e1
  have hn : n0 = -1 ∧ n1 = -1 := by
    simp at e2
    exact ⟨e2.1.symm, e2.2.symm⟩
  obtain ⟨rfl, rfl⟩ := hn
  have hcs : cs.toList = [.int .i64 (-1), .int .i64 (-1)] := by
    match hq : cs.toList, hl, a1, b1 with
    | [x, y], _, a1, b1 =>
      rw [c3] at a1 b1
      simp at a1 b1
      rw [a1, b1]
  have hcell : ∀ i, W.cell? ⟨0, i, none⟩ = ([.int .i64 (-1), .int .i64 (-1)] : List Value)[i]? := fun i => by
    rw [World.var?_cell hg h3 i, ← Array.getElem?_toList, hcs]
  intro n v hv
  unfold Code.gS tabG at hv
  rw [cond_eq_ite] at hv
  split at hv
  · rename_i hb
    have := Nat.eq_of_beq_eq_true hb
    subst this
    cases hv
    have key : ∀ (o : Nat) x, Code.inp[o]? = some x → x = .int .i64 (-1) ∧ W.cell? ((⟨0, 0, none⟩ : Addr).add o) = some (.int .i64 (-1)) := by
      intro o x hx
      have e3 : (⟨0, 0, none⟩ : Addr).add o = ⟨0, o, none⟩ := by unfold Addr.add; split <;> simp_all
      rw [e3, hcell]
      match o, hx with
      | 0, hx => cases hx; exact ⟨rfl, rfl⟩
      | 1, hx => cases hx; exact ⟨rfl, rfl⟩
      | o + 2, hx => simp [Code.inp] at hx
    refine .rp (fun o x hx => ?_) (fun o x c hx hcc => ?_)
    · obtain ⟨rfl, h2⟩ := key o x hx
      exact ⟨fun h => h, rfl, _, h2⟩
    · obtain ⟨rfl, h2⟩ := key o x hx
      rw [h2] at hcc; cases hcc; exact .int
  · cases hv
set_option maxRecDepth 100000 in
theorem lifted (os : Os) (started : os.Started) (H : Type) (enc : TypeId × Value → H) :
    ReturnsInHanded {} Tryd.checked os 4 .any (fun w args => (Rows.graphLoopSpec.pre enc Tryd.prog Tryd.f4 [] false w args ∧ laidMetH Tryd.prog laid w) ∧ sizedMet enc Tryd.prog Tryd.f4 (OpenSpec.ofChange Rows.graphLoopSpec) false w args)
      (Rows.graphLoopSpec.post enc Tryd.prog Tryd.f4 false true false false) := by
  refine returnsInHanded_of_change_and (C := Tryd.checked) (X := fun w _ => laidMetH Tryd.prog laid w) (fun _ _ _ hh h => h.of_heap hh) own started (by kernel_rfl) Tryd.func4
    (ChangeSpec.witness_shaped (enc := enc) (C := Tryd.checked) (os := os) (X := fun w _ => laidMetH Tryd.prog laid w) false (World.laidAll Tryd.prog os laid) #[.slice none 0 0, .slice none 0 0] 8 (World.laidAll_os _ _ _)
      (World.shaped_of_ZipB (by kernel_rfl) (by kernel_rfl)) (by kernel_rfl) (by kernel_rfl) (by kernel_rfl)
      (by rw [MakeChecks.laidMetH_plain _ _ _ (by kernel_rfl)]; exact laidMet_laidAll _ (by kernel_rfl) (by kernel_rfl))) ?_
  intro W base args ds gs before hval0 hW _ _ hL _
  have hval : ∀ (j : Nat) t v, Tryd.f4.params[j]? = some t → args[j]? = some v → Value.okWide Tryd.prog W .any base t v := hval0
  have hW' := hW
  obtain ⟨p, q, hA0, hV, rfl, hfz, hnd⟩ := hW
  have hA : DataW.TrodAll enc Tryd.prog W 0 (fun _ => true) true Tryd.f4.params.toList args.toList ds p := hA0
  rw [Tryd.params4] at hA hval
  obtain ⟨v0, vs0, d0, ds0, p0, q0, hargs, rfl, rfl, h0, r0⟩ := trodAll_cons hA
  obtain ⟨v1, vs1, d1, ds1, p1, q1, rfl, rfl, rfl, h1, r1⟩ := trodAll_cons r0
  obtain ⟨rfl, rfl, rfl⟩ := trodAll_nil r1
  obtain rfl : args = #[v0, v1] := by cases args; simp_all
  obtain ⟨rfl, rfl⟩ := trodVars_none hV
  rw [MakeChecks.laidMetH_plain _ _ _ (by kernel_rfl)] at hL
  obtain ⟨ps, hLV, _, _⟩ := hL
  have hG := inp_reads hLV
  have lt0 : ∀ x ∈ p0, x.block < W.heap.size := by obtain ⟨m, hm⟩ := h0; exact DataW.trod_lt m _ _ _ hm
  obtain ⟨x0, y0, z0⟩ := trod_arg (k := 4) (by kernel_rfl) (hval 0 34 v0 rfl rfl) h0
  have lt1 : ∀ x ∈ p1, x.block < W.heap.size := by obtain ⟨m, hm⟩ := h1; exact DataW.trod_lt m _ _ _ hm
  obtain ⟨x1, y1, z1⟩ := trod_arg (k := 4) (by kernel_rfl) (hval 1 35 v1 rfl rfl) h1
  refine (PureOk.belowG (Code.graphLoop_run x0 x1 z0 z1) (VRs.cons y0 (VRs.cons y1 VRs.nil)) hG).mono fun e W' ⟨he, bel⟩ => ?_
  subst he
  exact ⟨_, rfl, _, _, _, [], _, [], hW', trodAll_mk1 (shut_bool Tryd.underlying4 _), (trodAll_cons_mk (Below.trod laidOut (by kernel_rfl) (of_decide_eq_true (by kernel_rfl)) h0 bel lt0) (trodAll_cons_mk (Below.trod laidOut (by kernel_rfl) (of_decide_eq_true (by kernel_rfl)) h1 bel lt1) trodAll_mk0)), rfl, bel.frame _, fun h => by cases h⟩
theorem over : Rows.graphLoopRow.holds Tryd.pinned (OpenSpec.ofChange Rows.graphLoopSpec) :=
  OpenClaim.holds_of_wide 4 Tryd.f4 rfl rfl rfl rfl rfl rfl rfl ⟨rfl, rfl, rfl, rfl, rfl⟩ rfl rfl rfl rfl rfl (by kernel_rfl) Tryd.func4 (by kernel_rfl)
    (of_decide_eq_true (by kernel_rfl)) (by unfold Func.isWrapper; first | (rw [if_pos (by decide +kernel)]; kernel_rfl) | (rw [if_neg (by decide +kernel)]; exact ⟨rfl, rfl⟩))
    (fun os started H enc _ => lifted os started H enc)
theorem card : Rows.GraphLoopCardSaid :=
  Claim7.holds_tied_plain_at .later [] [.data] true (true, "02cf94bc0e9517536c5eb0d69b3825a59943c059622d4d37beb1eb9378ef9c6a") false over (fun _ h => by cases h) (by kernel_rfl) (fun _ h => by cases h) graphLoop_row_tie rfl ⟨rfl, rfl⟩ (by kernel_rfl) rfl
    (fun f fn hf hfn => by
      obtain rfl : f = 4 := Option.some.inj ((show Tryd.prog.funcNamed "weirgate/weirgatelaw05.GraphLoop" = some 4 by kernel_rfl).symm.trans hf) |>.symm
      obtain rfl : fn = Tryd.f4 := (Option.some.inj (Tryd.func4.symm.trans hfn)).symm
      exact ⟨by kernel_rfl, fun j t ht => by
        rw [Tryd.params4] at ht
        have hm : t ∈ [34, 35] := by simpa using Array.mem_of_getElem? ht
        have hall : ([34, 35].all fun u => !Tryd.prog.wantsStandIn u) = true := by kernel_rfl
        exact (show Tryd.prog.wantsStandIn t = false by simpa using List.all_eq_true.1 hall t hm)⟩)
    (by kernel_rfl)
end Go.Proofs.YtdidbboahhpaoaaDoor.graphLoop
namespace Go.Proofs.YtdidbboahhpaoaaDoor
/-- The card, under a short name, for the claim. -/
theorem graphLoop_holds : Rows.GraphLoopCardSaid := graphLoop.card
#print axioms graphLoop_holds
end Go.Proofs.YtdidbboahhpaoaaDoor
