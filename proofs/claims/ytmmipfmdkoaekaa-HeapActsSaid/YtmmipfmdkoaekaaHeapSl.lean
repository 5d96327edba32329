/- A part of the proof: HeapSl. No condition. -/
import Derived.Test.YtmmipfmdkoaekaaHeapAbs
import Derived.Test.YtmmipfmdkoaekaaHeapD
set_option linter.all false
set_option maxRecDepth 100000
namespace Go.Proofs.Ytmmipfmdkoaekaa.Code
open Go.Mini Go.HeapMath Go.HeapRun
set_option linter.all false
/-- a slice of n numbers g, handed in -/
structure Sl (x0 : V) (n : Nat) (g : Nat → Int) : Prop where
  len : ∀ {t : List V} {x : Opd} {h : H}, ev EH.G t x = some x0 → Ops EH t (.len x) h ⟨.int .i64 (n : Nat), h, [], []⟩
  at_ : ∀ {t : List V} {x y : Opd} {h : H} {k : IntKind} {u : Nat}, ev EH.G t x = some x0 → ev EH.G t y = some (.int k (u : Nat)) → u < n → Ops EH t (.iaddr 1 x y) h ⟨.rp [V.int .i64 (g u)], h, [], []⟩
  rng : ∀ u, -9223372036854775808 ≤ g u ∧ g u ≤ 9223372036854775807
theorem sl_nil : Sl .nils 0 (fun _ => 0) :=
  ⟨fun hx => ops_of (by simp only [opV, op_len, hx]; rfl), fun _ _ h => by omega, fun _ => by omega⟩
theorem sl_rs {By : List Int} (hby : ∀ x, -9223372036854775808 ≤ gI By x ∧ gI By x ≤ 9223372036854775807) : Sl (.rs 1 (ints By)) (ints By).length (gI By) :=
  ⟨fun hx => ops_of (by simp only [opV, op_len, hx]), fun {t x y h k u} hx hy hu => ops_iaddrR (n := (u : Int)) hx hy (by omega) rfl (by rw [Int.toNat_natCast]; rw [ints_len] at hu; exact ints_get hu), hby⟩
end Go.Proofs.Ytmmipfmdkoaekaa.Code
