/- All fields of a message but its kind, read. -/
import Derived.Test.YtaejcejfpcjifaaDoorMsgR4
import Derived.Test.YtaejcejfpcjifaaDoorMsgR5
import Derived.Test.YtaejcejfpcjifaaDoorMsgR6
import Derived.Test.YtaejcejfpcjifaaDoorMsgR7
namespace Go.Proofs.YtaejcejfpcjifaaDoor
open Go.RowKit
open Msg

/-- The cells of a message of which only the kind is known; and whether it is full. -/
def msZ (k : Int) (kv : Value) (full : Bool) : List Value := [.int .i64 k, .int .i64 0, .int .i64 0, kv, .int .i64 0, .int .i64 0, .int .i64 0, .int .i64 0, .int .i64 0, .int .i64 0, .int .i64 0, .string ⟨#[]⟩, .bool full, .int .i64 0, .string ⟨#[]⟩, .slice none 0 0]
theorem RM.all {w0 wS w : World} {rb ib xb kb : Nat} {r : List UInt8} (m : Ms) (hW : WOk m) (hk : kindG m = true) (full0 : Bool) (hf : m.kind ≠ 10 → full0 = false) (h1 : m.kind = 1 → m.known = []) (hkx : kb ≠ xb) (hki : kb ≠ ib) (hkz : kb < w0.heap.size) (hkb : BC w kb (List.replicate m.known.length (.int .i64 0)))
    (h : RM w0 wS w rb ib xb kb (restB m ++ r) (msZ m.kind (.slice (some ⟨kb, 0, none⟩) m.known.length m.known.length) full0)) :
    Calls Tryd.prog 20 #[.pointer (some ⟨xb, 0, none⟩), .pointer (some ⟨rb, 0, none⟩)] w (RMA w0 rb ib xb kb r (proj m) (.slice (some ⟨kb, 0, none⟩) m.known.length m.known.length)) := by
  have hk' := kinds hk
  clear hk
  obtain ⟨kind, from_, born, known, view, last, op, commit, client, number, nonce, text, full, base, state, entries⟩ := m
  dsimp only at *
  rcases hk' with rfl | rfl | rfl | rfl | rfl | rfl | rfl | rfl | rfl | rfl | rfl | rfl
  · obtain rfl := h1 rfl
    obtain rfl := hf (by simp)
    refine RM.all1 from_ born [] view last op commit client number nonce text full base state entries hW _ (Rd.nil _ _ _ _) (fun g hg => ?_) h
    simp only [Value.ownBlock, Option.some.injEq] at hg
    subst hg
    rintro (e | e)
    · exact hki e
    · exact hkx e
  · obtain rfl := hf (by simp)
    exact RM.all2 from_ born known view last op commit client number nonce text full base state entries hW hkx hkz hkb h
  · obtain rfl := hf (by simp)
    exact RM.all3 from_ born known view last op commit client number nonce text full base state entries hW hkx hkz hkb h
  · obtain rfl := hf (by simp)
    exact RM.all4 from_ born known view last op commit client number nonce text full base state entries hW hkx hkz hkb h
  · obtain rfl := hf (by simp)
    exact RM.all5 from_ born known view last op commit client number nonce text full base state entries hW hkx hkz hkb h
  · obtain rfl := hf (by simp)
    exact RM.all6 from_ born known view last op commit client number nonce text full base state entries hW hkx hkz hkb h
  · obtain rfl := hf (by simp)
    exact RM.all7 from_ born known view last op commit client number nonce text full base state entries hW hkx hkz hkb h
  · obtain rfl := hf (by simp)
    exact RM.all8 from_ born known view last op commit client number nonce text full base state entries hW hkx hkz hkb h
  · obtain rfl := hf (by simp)
    exact RM.all9 from_ born known view last op commit client number nonce text full base state entries hW hkx hkz hkb h
  · cases full
    · exact RM.all10f from_ born known view last op commit client number nonce text base state entries hW full0 hkx hkz hkb h
    · exact RM.all10t from_ born known view last op commit client number nonce text base state entries hW full0 hkx hkz hkb h
  · obtain rfl := hf (by simp)
    exact RM.all11 from_ born known view last op commit client number nonce text full base state entries hW hkx hkz hkb h
  · obtain rfl := hf (by simp)
    exact RM.all12 from_ born known view last op commit client number nonce text full base state entries hW hkx hkz hkb h
end Go.Proofs.YtaejcejfpcjifaaDoor
