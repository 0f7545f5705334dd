/- The plain laws of frames: a frame opens to its body, nothing else does, and frames that were spoilt, cut off or lengthened are told. No program is in sight here. -/
import Derived.Test.YtebocnpbiiejmaaDoorPlainOct
import Derived.Test.YtebocnpbiiejmaaDoorCrc
namespace Go.Proofs.YtebocnpbiiejmaaDoor
namespace Frl

def wrap (b : List UInt8) : List UInt8 := if 1048576 < b.length then [] else Oct.enc b.length ++ b ++ Crc.sealOf (Crc.sum (Oct.enc b.length ++ b))
/-- What opening answers, of a text with the number n in its first k bytes. -/
def openN (s : List UInt8) (n : Int) (k : Nat) : List UInt8 × Int :=
  if n < 0 then ([], 2) else if 1048576 < n then ([], 6)
  else if s.length < k + n.toNat + 4 then ([], 3) else if k + n.toNat + 4 < s.length then ([], 4)
  else if s.drop (k + n.toNat) = Crc.sealOf (Crc.sum (s.take (k + n.toNat))) then ((s.drop k).take n.toNat, 0) else ([], 5)
def open_ (s : List UInt8) : List UInt8 × Int := if (Oct.dec s).2.2 = 0 then openN s (Oct.dec s).1 (Oct.dec s).2.1 else ([], (Oct.dec s).2.2)

theorem seal_length (r : Crc.R) : (Crc.sealOf r).length = 4 := rfl
theorem wrap_eq {b : List UInt8} (h : b.length ≤ 1048576) : wrap b = Oct.enc b.length ++ b ++ Crc.sealOf (Crc.sum (Oct.enc b.length ++ b)) := if_neg (by omega)
theorem wrap_length {b : List UInt8} (h : b.length ≤ 1048576) : (wrap b).length = (Oct.enc b.length).length + b.length + 4 := by
  rw [wrap_eq h]; simp only [List.length_append, seal_length]
theorem dec_wrap {b : List UInt8} (h : b.length ≤ 1048576) (r : List UInt8) : Oct.dec (wrap b ++ r) = ((b.length : Int), (Oct.enc b.length).length, 0) := by
  rw [wrap_eq h, List.append_assoc, List.append_assoc]
  exact Oct.dec_enc _ (by omega) (by omega) _
theorem open_ok {s : List UInt8} {n : Int} {k : Nat} (hd : Oct.dec s = (n, k, 0)) : open_ s = openN s n k := by unfold open_; rw [hd]; rfl
theorem open_er {s : List UInt8} {n : Int} {k : Nat} {e : Int} (hd : Oct.dec s = (n, k, e)) (he : e ≠ 0) : open_ s = ([], e) := by unfold open_; rw [hd]; exact if_neg he

/-- A frame opens to its body. -/
theorem open_wrap {b : List UInt8} (h : b.length ≤ 1048576) : open_ (wrap b) = (b, 0) := by
  have hd := dec_wrap h []
  rw [List.append_nil] at hd
  have hl := wrap_length h
  rw [open_ok hd, openN, if_neg (by omega), if_neg (by omega)]
  simp only [Int.toNat_natCast]
  rw [if_neg (by omega), if_neg (by omega)]
  have hw := wrap_eq h
  have hlen : (Oct.enc b.length ++ b).length = (Oct.enc b.length).length + b.length := List.length_append
  have e1 : (wrap b).drop ((Oct.enc b.length).length + b.length) = Crc.sealOf (Crc.sum (Oct.enc b.length ++ b)) := by
    rw [hw, ← hlen, List.drop_left]
  have e2 : (wrap b).take ((Oct.enc b.length).length + b.length) = Oct.enc b.length ++ b := by
    rw [hw, ← hlen, List.take_left]
  have e3 : ((wrap b).drop (Oct.enc b.length).length).take b.length = b := by
    rw [hw, List.append_assoc, List.drop_left, List.take_left]
  rw [e1, e2, e3, if_pos rfl]

theorem openN_ok {s : List UInt8} {n : Int} {k : Nat} {b : List UInt8} (h : openN s n k = (b, 0)) :
    0 ≤ n ∧ n ≤ 1048576 ∧ s.length = k + n.toNat + 4 ∧ s.drop (k + n.toNat) = Crc.sealOf (Crc.sum (s.take (k + n.toNat))) ∧ b = (s.drop k).take n.toNat := by
  unfold openN at h
  split at h
  · simp at h
  · split at h
    · simp at h
    · split at h
      · simp at h
      · split at h
        · simp at h
        · split at h
          · rename_i hs
            simp only [Prod.mk.injEq, and_true] at h
            exact ⟨by omega, by omega, by omega, hs, h.symm⟩
          · simp at h
/-- Whatever opens is a frame. -/
theorem wrap_open {s b : List UInt8} (h : open_ s = (b, 0)) : s = wrap b ∧ b.length ≤ 1048576 := by
  obtain ⟨⟨n, k, e⟩, hd⟩ : ∃ x, Oct.dec s = x := ⟨_, rfl⟩
  by_cases he : e = 0
  · subst he
    rw [open_ok hd] at h
    obtain ⟨h0, h1, hl, hs, rfl⟩ := openN_ok h
    obtain ⟨-, -, henc, hk, -, -⟩ := Oct.dec_ok hd
    have hbl : ((s.drop k).take n.toNat).length = n.toNat := by simp; omega
    have hn : ((n.toNat : Nat) : Int) = n := by omega
    have e1 : Oct.enc ((((s.drop k).take n.toNat).length : Nat) : Int) ++ (s.drop k).take n.toNat = s.take (k + n.toNat) := by
      rw [hbl, hn, henc, List.take_add]
    refine ⟨?_, by omega⟩
    rw [wrap_eq (by omega), e1, ← hs, List.take_append_drop]
  · rw [open_er hd he] at h
    simp only [Prod.mk.injEq] at h
    exact absurd h.2 he
theorem wrap_inj {a b : List UInt8} (ha : a.length ≤ 1048576) (hb : b.length ≤ 1048576) (h : wrap a = wrap b) : a = b := by
  have := open_wrap ha
  rw [h, open_wrap hb] at this
  simp only [Prod.mk.injEq, and_true] at this
  exact this.symm
/-- The register behind a whole frame is always the same. -/
theorem reg_frame {b : List UInt8} (h : b.length ≤ 1048576) : Crc.reg 0xffffffff#32 (wrap b) = Crc.Tn 32 0xffffffff#32 := by
  rw [wrap_eq h]
  exact (Crc.reg_sealed _ _ rfl).2 rfl
/-- An error, or the body; never both. -/
theorem open_fst {s : List UInt8} (h : (open_ s).2 ≠ 0) : (open_ s).1 = [] := by
  unfold open_ openN at *
  repeat' split
  all_goals simp_all
/-- A frame in which a window of at most four bytes was turned is not opened. -/
theorem open_spoilt {b p x y q : List UInt8} (h : b.length ≤ 1048576) (hw : wrap b = p ++ (x ++ q)) (hl : x.length = y.length) (h4 : x.length ≤ 4) (hne : x ≠ y) : (open_ (p ++ (y ++ q))).2 ≠ 0 := by
  intro h0
  have ho : open_ (p ++ (y ++ q)) = ((open_ (p ++ (y ++ q))).1, 0) := by rw [← h0]
  obtain ⟨hc, hcl⟩ := wrap_open ho
  have h1 := reg_frame h
  have h2 := reg_frame hcl
  rw [← hc] at h2
  rw [hw, ← h2] at h1
  exact hne (Crc.reg_window _ p x y q hl h4 h1)
/-- A frame that was cut off is short. -/
theorem open_cut {b : List UInt8} (h : b.length ≤ 1048576) {m : Nat} (hm : m < (wrap b).length) : open_ ((wrap b).take m) = ([], 3) := by
  have hl := wrap_length h
  by_cases hk : m < (Oct.enc b.length).length
  · have : (wrap b).take m = (Oct.enc (b.length : Int) ++ (b ++ Crc.sealOf (Crc.sum (Oct.enc b.length ++ b)))).take m := by rw [wrap_eq h, List.append_assoc]
    rw [this]
    exact open_er (Oct.dec_cut _ (by omega) (by omega) _ m hk) (by omega)
  · have he : (wrap b).take m = Oct.enc (b.length : Int) ++ (b ++ Crc.sealOf (Crc.sum (Oct.enc b.length ++ b))).take (m - (Oct.enc b.length).length) := by
      rw [wrap_eq h, List.append_assoc, List.take_append, List.take_of_length_le (by omega)]
    have hd : Oct.dec ((wrap b).take m) = ((b.length : Int), (Oct.enc b.length).length, 0) := by
      rw [he]; exact Oct.dec_enc _ (by omega) (by omega) _
    rw [open_ok hd, openN, if_neg (by omega), if_neg (by omega)]
    simp only [Int.toNat_natCast]
    rw [if_pos (by rw [List.length_take]; omega)]
/-- A frame that has anything behind it has a tail. -/
theorem open_tail {b r : List UInt8} (h : b.length ≤ 1048576) (hr : r ≠ []) : open_ (wrap b ++ r) = ([], 4) := by
  have hl := wrap_length h
  have hrl : 0 < r.length := List.length_pos_iff.2 hr
  rw [open_ok (dec_wrap h r), openN, if_neg (by omega), if_neg (by omega)]
  simp only [Int.toNat_natCast, List.length_append]
  rw [if_neg (by omega), if_pos (by omega)]
/-- The reference's way to decide: by wrapping the body again. -/
theorem openN_ref {s : List UInt8} {n : Int} {k : Nat} (hd : Oct.dec s = (n, k, 0)) (h0 : 0 ≤ n) (h1 : n ≤ 1048576) (hl : s.length = k + n.toNat + 4) :
    openN s n k = if wrap ((s.drop k).take n.toNat) = s then ((s.drop k).take n.toNat, 0) else ([], 5) := by
  have hb : ((s.drop k).take n.toNat).length ≤ 1048576 := by rw [List.length_take]; omega
  by_cases hw : wrap ((s.drop k).take n.toNat) = s
  · have := open_wrap hb
    rw [hw, open_ok hd] at this
    rw [if_pos hw, this]
  · rw [if_neg hw]
    unfold openN
    rw [if_neg (by omega), if_neg (by omega), if_neg (by omega), if_neg (by omega)]
    split
    · rename_i hs
      have : open_ s = ((s.drop k).take n.toNat, 0) := by
        rw [open_ok hd, openN, if_neg (by omega), if_neg (by omega), if_neg (by omega), if_neg (by omega), if_pos hs]
      exact absurd (wrap_open this).1.symm hw
    · rfl
end Frl
end Go.Proofs.YtebocnpbiiejmaaDoor
