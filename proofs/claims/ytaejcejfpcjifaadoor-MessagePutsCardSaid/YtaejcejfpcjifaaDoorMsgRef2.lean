/- Which fields a kind of message has, as the document says it. -/
import Derived.Test.YtaejcejfpcjifaaDoorMsgRef1
namespace Go.Proofs.YtaejcejfpcjifaaDoor
open Go.RowKit
open Msg

theorem ten_full {m : Ms} {k : Int} (hk : m.kind = k) {f : Bool} (hf : m.full = f) (l : List UInt8) (h : lets k f = l) : lets m.kind m.full = l := by rw [hk, hf, h]
set_option maxRecDepth 100000 in
set_option maxHeartbeats 4000000 in
theorem rfields_any (m : Ms) (kv ev : Value) (w : World) (hk : kindG m = true) (hkv : ∃ a n c, kv = .slice a n c) (hev : ∃ a n c, ev = .slice a n c) :
    Calls Tryd.prog 14 #[msV m kv ev] w fun e w' => e = .returned (.string ⟨(lets m.kind m.full).toArray⟩) ∧ Frm No w w' := by
  obtain ⟨ka, kn, kc, rfl⟩ := hkv
  obtain ⟨ea, en, ec, rfl⟩ := hev
  unfold msV msC
  have hkk := kinds hk
  clear hk
  obtain ⟨kind, from_, born, known, view, last, op, commit, client, number, nonce, text, full, base, state, entries⟩ := m
  dsimp only at *
  rcases hkk with rfl | rfl | rfl | rfl | rfl | rfl | rfl | rfl | rfl | rfl | rfl | rfl
  all_goals (try (cases full))
  all_goals
    go_enter Tryd.func14, Tryd.ntmps14
    go_wp2_with fail
    go_ret
    exact ⟨rfl, by first | exact ((Frm.refl No w).alloc _).alloc _ | exact (((Frm.refl No w).alloc _).alloc _).drewN _⟩
end Go.Proofs.YtaejcejfpcjifaaDoor
