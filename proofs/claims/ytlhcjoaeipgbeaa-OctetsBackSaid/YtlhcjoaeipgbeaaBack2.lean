/- The walk of back2: two lists that are the same. -/
import Derived.Test.YtlhcjoaeipgbeaaOctSpeaks
namespace Go.Proofs.Ytlhcjoaeipgbeaa
open Go.RowKit

set_option maxRecDepth 100000 in
theorem back2_same (v1 v2 : Value) (zs : List Int) (w : World) (h1 : Rd w v1 zs.length 1 (intsV zs)) (h2 : Rd w v2 zs.length 1 (intsV zs)) (hl : zs.length ≤ 140737488355328) :
    Calls Try.prog 35 #[v1, v2] w fun e w' => e = .returned (.bool true) ∧ Frm No w w' := by
  obtain ⟨a1, c1, rfl⟩ := h1.shape
  obtain ⟨a2, c2, rfl⟩ := h2.shape
  go_enter Try.func35, Try.ntmps35
  go_wp2_with fail
  go_loopw [5] (fun i wr => ∃ k : Nat, k ≤ zs.length ∧ i = .int .i64 (k : Int) ∧ Frm No w wr) (fun i _ => zs.length - (intOf i).toNat)
  case atStart => exact ⟨0, by omega, rfl, Frm.refl _ _⟩
  case round =>
    obtain ⟨k, hk, rfl, hf⟩ := hrel
    by_cases hkl : k < zs.length
    · obtain ⟨b, o, rfl, hc⟩ := (h1.frm hf (fun _ _ h => h)).at_ (by omega)
      obtain ⟨b', o', rfl, hc'⟩ := (h2.frm hf (fun _ _ h => h)).at_ (by omega)
      have k1 : wr.cell? ⟨b, o + k, none⟩ = some (.int .i64 zs[k]) := by rw [hc k (by omega)]; simp [intsV]
      have k2 : wr.cell? ⟨b', o' + k, none⟩ = some (.int .i64 zs[k]) := by rw [hc' k (by omega)]; simp [intsV]
      have kz : (k : Int) < (zs.length : Int) := by omega
      clear hc hc'
      go_wp2_with fail
      go_quiet (fail)
      go_wp2_with fail
      exact ⟨⟨k + 1, by omega, by go_num, hf.drewN _⟩, by simp [intOf]; omega⟩
    · obtain rfl : k = zs.length := by omega
      go_wp2_with fail
      go_ret
      exact ⟨rfl, hf⟩
end Go.Proofs.Ytlhcjoaeipgbeaa
