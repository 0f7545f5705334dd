/- A student is no teacher (speaks). A turn's blocks. -/
import Derived.Test.YtekailaoanpcgaaRollH
import Derived.Test.YtekailaoanpcgaaRollP
import Derived.Test.YtekailaoanpcgaaRollTL
namespace Go.Proofs.Ytekailaoanpcgaa
open Go.RowKit
open Roll

theorem RlR.shapes {w : World} {mv cv : Value} {R : Rl} (h : RlR w mv cv R) : ∃ ma mc ca cc, mv = .slice ma R.mems.length mc ∧ cv = .slice ca R.clss.length cc := by
  obtain ⟨ma, mc, e1⟩ := h.mr.shape
  obtain ⟨cs, hcs, hcr, -⟩ := h.cr
  obtain ⟨ca, cc, e2⟩ := hcr.shape
  have hl : cs.length = R.clss.length := by rw [← hcs]; simp
  exact ⟨ma, mc, ca, cc, e1, by rw [e2, hl]⟩
/-- The same, the lengths left open. -/
theorem RlR.any {w : World} {mv cv : Value} {R : Rl} (h : RlR w mv cv R) : ∃ ma ml mc ca cl cc, mv = .slice ma ml mc ∧ cv = .slice ca cl cc := by
  obtain ⟨ma, mc, ca, cc, e1, e2⟩ := h.shapes
  exact ⟨_, _, _, _, _, _, e1, e2⟩
theorem nil_shapes {w : World} {mv cv : Value} (h : RlR w mv cv Roll.nil) : ∃ ma mc ca cc, mv = .slice ma 0 mc ∧ cv = .slice ca 0 cc := h.shapes
set_option maxRecDepth 100000 in
set_option maxHeartbeats 4000000 in
theorem rollspeaks (w : World) : Calls Try.prog 7 #[] w fun e w' => e = .returned (.bool true) ∧ Frm No w w' := by
  have h1 := hid (fun w1 => renrol_any Roll.nil (.slice none 0 0) (.slice none 0 0) [97] 1 w1 (nil_rd w1) inv_nil (by decide))
  have hI : Inv (enrol Roll.nil [97] 1).1 := inv_enrol inv_nil [97] 1
  have e1 : enrol Roll.nil [97] 1 = (⟨[⟨[97], 1, 4096⟩], []⟩, 0) := by kernel_rfl
  have e2 : open_ ⟨[⟨[97], 1, 4096⟩], []⟩ [99] [97] = (Roll.nil, 13) := by kernel_rfl
  have e3 : find Mem.name [⟨[97], 1, 4096⟩] [97] = some (⟨[97], 1, 4096⟩ : Mem) := by kernel_rfl
  rw [e1] at hI
  have h2 := hid (fun w1 mv cv (hr : RlR w1 mv cv ⟨[⟨[97], 1, 4096⟩], []⟩) => ropen_any _ mv cv [99] [97] w1 hr hI (by decide))
  have h3 := hid (fun w1 mv cv (hr : RlR w1 mv cv ⟨[⟨[97], 1, 4096⟩], []⟩) => rmember_any _ mv cv [97] w1 hr hI.ms (by decide))
  simp only [e1] at h1
  simp only [e2] at h2
  simp only [e3, Option.getD_some, Option.isSome_some, mag] at h3
  clear hI e1 e2 e3
  go_enter Try.func7, Try.ntmps7
  go_upto_region 2 with (go_at_call 8; refine (h1.out _).mono ?_; rintro e w1 ⟨mv, cv, rfl, hr, hf1⟩; obtain ⟨ma, mc, rfl⟩ := hr.mr.shape; obtain ⟨cs, hcs, hcr, -⟩ := hr.cr; obtain ⟨ca, cc, rfl⟩ := hcr.shape; have hl0 : cs.length = 0 := by (have := congrArg List.length hcs; simpa using this))
  try dsimp only at hr
  rw [hl0] at hr
  try rw [hl0]
  have B1 := Box.new hf1 [.slice ma 1 mc, .slice ca 0 cc] 27
  have hr1 : RlR (w1.alloc (.cells #[.slice ma 1 mc, .slice ca 0 cc] 27)) (.slice ma 1 mc) (.slice ca 0 cc) ⟨[⟨[97], 1, 4096⟩], []⟩ := hr.no ((Frm.refl No w1).alloc _)
  try dsimp only [List.length_cons, List.length_nil]
  generalize w1.alloc (.cells #[.slice ma 1 mc, .slice ca 0 cc] 27) = wa at *
  obtain ⟨b, hb⟩ : ∃ b, w1.heap.size = b := ⟨_, rfl⟩
  rw [hb] at B1
  try rw [hb]
  have c1 := B1.cell
  have HB := hid B1
  have HR := hid hr1
  clear B1 hr1 hr hcr hcs hf1 h1
  go_upto_region 3 with (go_at_call 9; refine (h2.out _ _ _ HR.out).mono ?_; rintro e w2 ⟨mv2, cv2, rfl, hr2, hf2⟩; obtain ⟨ma2, mc2, ca2, cc2, rfl, rfl⟩ := nil_shapes hr2)
  have B2 := (HB.out.no hf2).no ((Frm.refl No w2).alloc (.cells #[.slice ma2 0 mc2, .slice ca2 0 cc2] 27))
  have hr3 := (HR.out.no hf2).no ((Frm.refl No w2).alloc (.cells #[.slice ma2 0 mc2, .slice ca2 0 cc2] 27))
  generalize w2.alloc (.cells #[.slice ma2 0 mc2, .slice ca2 0 cc2] 27) = wb at *
  have c2 := B2.cell
  have HB2 := hid B2
  have HR2 := hid hr3
  clear c1 B2 hr3 hr2 hf2 HB HR h2
  go_wp2_with (go_at_call 14; refine (h3.out _ _ _ HR2.out).mono ?_; rintro e w3 ⟨rfl, hf3⟩)
  go_ret
  exact ⟨rfl, (HB2.out.no hf3).frm.alloc _⟩

theorem RdL.frmE {α : Type} {w w' : World} {v : Value} {size : Nat} {cells : α → List Value} {xs : List α} {S : Nat → Prop} (h : RdL w v size cells xs) (hsz : ∀ x ∈ xs, (cells x).length = size)
    (hf : Frm S w w') (hS : ∀ k, v.ownBlock = some k → xs ≠ [] → ¬ S k) : RdL w' v size cells xs := by
  by_cases hx : xs = []
  · subst hx
    obtain ⟨ao, c, rfl⟩ := h.shape
    exact ⟨.inl ⟨rfl, _, _, rfl⟩⟩
  · exact h.frm hsz hf (fun k hk => hS k hk hx)
/-- A block that holds no string is none of a roll's. -/
theorem RdL.noStr {α : Type} {w w' : World} {v : Value} {size : Nat} {cells : α → List Value} {xs : List α} {E : Nat} (h : RdL w v size cells xs) (hsz : ∀ x ∈ xs, (cells x).length = size) (h0 : 0 < size) (hs : ∀ x ∈ xs, ∃ s, (cells x)[0]? = some (.string s))
    (hE : ∀ j s, w.cell? ⟨E, j, none⟩ ≠ some (.string s)) (hf : Frm (One E) w w') : RdL w' v size cells xs := by
  refine h.frmE hsz hf (fun k hk hx e => ?_)
  have e : k = E := e
  subst e
  rcases h.cells with ⟨h1, _⟩ | ⟨b, o, c, rfl, hc⟩
  · exact hx h1
  · have hl : 0 < xs.length := List.length_pos_iff.2 hx
    obtain ⟨s, hs⟩ := hs xs[0] (List.getElem_mem hl)
    have := hc 0 hl 0 h0
    simp only [Value.ownBlock, Option.some.injEq] at hk
    subst hk
    rw [hs] at this
    exact hE _ _ this
theorem RlR.box {w w' : World} {mv cv : Value} {R : Rl} {E : Nat} (h : RlR w mv cv R) (hE : ∀ j s, w.cell? ⟨E, j, none⟩ ≠ some (.string s)) (hf : Frm (One E) w w') : RlR w' mv cv R := by
  obtain ⟨cs, h1, h2, h3⟩ := h.cr
  exact ⟨h.mr.noStr (fun _ _ => rfl) (by omega) (fun x _ => ⟨_, rfl⟩) hE hf, cs, h1, h2.noStr (fun _ _ => rfl) (by omega) (fun x _ => ⟨_, rfl⟩) hE hf, fun p hp => (h3 p hp).noStr (fun _ _ => rfl) (by omega) (fun x _ => ⟨_, rfl⟩) hE hf⟩
def NoStr (cs : List Value) : Prop := ∀ (j : Nat) s, cs[j]? ≠ some (.string s)
theorem noStr2 {a b : Value} (ha : ∃ x n c, a = .slice x n c) (hb : ∃ x n c, b = .slice x n c) : NoStr [a, b] := by
  obtain ⟨x, n, c, rfl⟩ := ha
  obtain ⟨y, m, d, rfl⟩ := hb
  intro j s
  match j with
  | 0 => simp
  | 1 => simp
  | j + 2 => simp
theorem noStr4 {a b c d : Value} (ha : ∃ x n c, a = .slice x n c) (hb : ∃ x n c, b = .slice x n c) (hc : ∃ x n e, c = .slice x n e) (hd : ∃ x n e, d = .slice x n e) : NoStr [a, b, c, d] := by
  obtain ⟨_, _, _, rfl⟩ := ha
  obtain ⟨_, _, _, rfl⟩ := hb
  obtain ⟨_, _, _, rfl⟩ := hc
  obtain ⟨_, _, _, rfl⟩ := hd
  intro j s
  match j with
  | 0 => simp
  | 1 => simp
  | 2 => simp
  | 3 => simp
  | j + 4 => simp
/-- A roll, and a block of the call's own that holds no string. -/
structure RB (w0 w : World) (E : Nat) (cs : List Value) : Prop where
  box : Box w0 w E cs
  no : NoStr cs
theorem RB.rl {w0 w w' : World} {E : Nat} {cs : List Value} {mv cv : Value} {R : Rl} (h : RB w0 w E cs) (hr : RlR w mv cv R) (hf : Frm (One E) w w') : RlR w' mv cv R :=
  hr.box (fun j s e => h.no j s (by rw [← h.box.cell j]; exact e)) hf
end Go.Proofs.Ytekailaoanpcgaa
