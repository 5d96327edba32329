/- A part of the proof: Apart7. No condition. -/
import Derived.Test.YtgcehfooibpccaaApart6
import Derived.Test.YtgcehfooibpccaaKnown18
import Derived.Test.YtgcehfooibpccaaMiniLaw
set_option linter.all false
set_option maxRecDepth 100000
namespace Go.Proofs.Ytgcehfooibpccaa.Code
open Go.Mini
set_option maxRecDepth 100000
set_option linter.all false
theorem footOf {x : V} (h : hasV Try.prog 4 39 x) : ∃ a : F6, x = a.v := by
  rw [hasV_struct Try.underlying39] at h
  obtain ⟨xs, rfl, h⟩ := h
  rw [hasT_struct Try.underlying39] at h
  simp only [hasF, hasT_int Try.underlying32, hasT_bool Try.underlying4] at h
  obtain ⟨_, _, rfl, ⟨r, rfl, _⟩, _, _, rfl, ⟨w, rfl, _⟩, _, _, rfl, ⟨s, rfl, _⟩, _, _, rfl, ⟨c, rfl, _⟩, _, _, rfl, ⟨z, rfl, _⟩, _, _, rfl, ⟨p, rfl⟩, rfl⟩ := h
  exact ⟨⟨r, w, s, c, z, p⟩, rfl⟩
theorem footApart_run (x0 x1 : V) (h0 : hasV Try.prog 4 39 x0) (h1 : hasV Try.prog 4 39 x1) : PureOk Try.prog (fun _ => none) 4 [x0, x1] (.bool true) := by
  obtain ⟨a, rfl⟩ := footOf h0
  obtain ⟨b, rfl⟩ := footOf h1
  refine run_ok tab_ok mix (fun _ => .pure) (l := [(7, [], .bool true)]) (.cons k63 .nil) ?_ (law_run 0 a b)
  intro x hx
  simp only [List.mem_cons, List.not_mem_nil, or_false] at hx
  rcases hx with rfl | rfl
  · exact hasV_vb h0
  · exact hasV_vb h1
end Go.Proofs.Ytgcehfooibpccaa.Code
