/- Bytes of a row of the call's own, some of which are turned: plain laws, and what the steps of a loop make of them. -/
import Derived.Test.YtebocnpbiiejmaaDoorLib
import Derived.Lib.ConvBytes
import Derived.Lib.AtoiErrMem
namespace Go.Proofs.YtebocnpbiiejmaaDoor
open Go.RowKit

theorem run_convert_cells {P : Program} {w : World} {src dst e : TypeId} (hs : P.underlying src = some (.slice e)) (he : P.underlying e = some (.int .u8)) (hd : P.underlying dst = some .string) (g o n cap : Nat) (l : List UInt8) (hlen : l.length = n)
    (hc : ∀ i (h : i < l.length), w.cell? ⟨g, o + i, none⟩ = some (.int .u8 (l[i].toNat : Int))) : (convert src dst (.slice (some ⟨g, o, none⟩) n cap)).run P w = .ok (.string ⟨l.toArray⟩) w := by
  have hx : strOfNums (l.map fun b => (b.toNat : Int)) = ⟨l.toArray⟩ := by
    unfold strOfNums
    congr 2
    rw [List.map_map]
    refine (List.map_congr_left fun b _ => ?_).trans (List.map_id l)
    show UInt8.ofNat (Int.toNat (b.toNat : Int)) = b
    rw [Int.toNat_natCast, UInt8.ofNat_toNat]
  rw [← hx]
  refine run_convert_bytes_arg w src e hs he g o n cap (l.map fun b => (b.toNat : Int)) (by simpa using hlen) (fun i hi => ?_) dst hd
  have hil : i < l.length := by omega
  rw [hc i hil]
  simp [hil]

def sbyte (n j : Nat) : UInt8 := UInt8.ofNat (n / 256 ^ j)
theorem sbyte_int (n j : Nat) : (n : Int) / 2 ^ (8 * j) % 256 = (((sbyte n j).toNat : Nat) : Int) := by
  have h2 : (2 : Int) ^ (8 * j) = (256 : Int) ^ j := by
    rw [Int.pow_mul]
    exact congrArg (fun x : Int => x ^ j) (by decide)
  rw [h2, sbyte, UInt8.toNat_ofNat', Int.natCast_emod, Int.natCast_ediv, Int.natCast_pow]
  rfl
namespace Spo
/-- The turned bytes: behind i rounds from p on. -/
def D (n p i j : Nat) : UInt8 := if p ≤ j ∧ j < p + i then sbyte n (j - p) else 0
def turned (s : List UInt8) (n p i : Nat) : List UInt8 := s.mapIdx fun j b => b ^^^ D n p i j
theorem turned_length (s : List UInt8) (n p i : Nat) : (turned s n p i).length = s.length := by simp [turned]
theorem turned_at (s : List UInt8) (n p i j : Nat) (h : j < (turned s n p i).length) : (turned s n p i)[j] = s[j]'(by rw [← turned_length s n p i]; exact h) ^^^ D n p i j := by simp [turned]
theorem xor_u8 (a x : UInt8) : bits BinOp.xor IntKind.u8 ((a.toNat : Nat) : Int) ((x.toNat : Nat) : Int) = (((a ^^^ x).toNat : Nat) : Int) := by
  have h : bits BinOp.xor IntKind.u8 ((a.toNat : Nat) : Int) ((x.toNat : Nat) : Int) = IntKind.wrap .u8 (((BitVec.ofInt 8 ((a.toNat : Nat) : Int) ^^^ BitVec.ofInt 8 ((x.toNat : Nat) : Int)).toNat : Nat) : Int) := rfl
  have e : ∀ c : UInt8, BitVec.ofInt 8 ((c.toNat : Nat) : Int) = c.toBitVec := by
    intro c
    apply BitVec.eq_of_toNat_eq
    rw [BitVec.toNat_ofInt]
    have := c.toNat_lt
    show _ = c.toNat
    omega
  rw [h, e, e]
  have h2 : (a.toBitVec ^^^ x.toBitVec).toNat = (a ^^^ x).toNat := rfl
  rw [h2]
  have := (a ^^^ x).toNat_lt
  exact IntWalk.u8_in _ ⟨by omega, by omega⟩
/-- The bytes of a row. -/
def BytesAt (w : World) (B : Nat) (l : List UInt8) : Prop := ∀ j (h : j < l.length), w.cell? ⟨B, j, none⟩ = some (.int .u8 ((l[j].toNat : Nat) : Int)) ∧ w.frozen? ⟨B, j, none⟩ = false
theorem bytes_start (w : World) (e : TypeId) (l : List UInt8) : BytesAt (Lib.bytesWorld w e ⟨l.toArray⟩) w.heap.size l := by
  intro j hj
  have hs : (⟨l.toArray⟩ : ByteArray).size = l.length := str_size l
  refine ⟨?_, ?_⟩
  · rw [Lib.bytesWorld_cell w e _ j (by omega)]
    simp [hj]
  · have hsz : l.length ≤ (Lib.bytesCells w e ⟨l.toArray⟩).size := by simp [Lib.bytesCells]
    have := Lib.bytesWorld_at_new w e ⟨l.toArray⟩
    simp only [World.frozen?, this]
    simp
    omega
theorem bytes_step {w : World} {B : Nat} {s : List UInt8} {n p i : Nat} (h : BytesAt w B (turned s n p i)) (hp : p + i < s.length) :
    BytesAt (w.setCell ⟨B, p + i, none⟩ (.int .u8 (((s[p + i] ^^^ sbyte n i).toNat : Nat) : Int))) B (turned s n p (i + 1)) := by
  intro j hj
  rw [turned_length] at hj
  have hj' : j < (turned s n p i).length := by rw [turned_length]; exact hj
  have ⟨h1, h2⟩ := h j hj'
  refine ⟨?_, by rw [World.frozen?_setCell]; exact h2⟩
  rw [turned_at]
  by_cases hji : j = p + i
  · subst hji
    have hd : D n p (i + 1) (p + i) = sbyte n i := by
      unfold D
      rw [if_pos (by omega), Nat.add_sub_cancel_left]
    rw [World.cell?_setCell_same _ _ _ h1, hd]
  · rw [World.cell?_setCell_other _ _ _ _ (fun e => by first | exact hji (congrArg Addr.off e) | exact hji (congrArg Addr.off e).symm), h1, turned_at]
    have hd : D n p (i + 1) j = D n p i j := by
      unfold D
      by_cases hh : p ≤ j ∧ j < p + i
      · rw [if_pos hh, if_pos (by omega)]
      · rw [if_neg hh, if_neg (by omega)]
    rw [hd]
theorem D_end {n p i j : Nat} {L : Nat} (hj : j < L) (hi : i ≤ 4) (h : i = 4 ∨ L ≤ p + i) : D n p i j = D n p 4 j := by
  unfold D
  by_cases hh : p ≤ j ∧ j < p + i
  · rw [if_pos hh, if_pos (by omega)]
  · rw [if_neg hh, if_neg (by omega)]
theorem turned_end {s : List UInt8} {n p i : Nat} (hi : i ≤ 4) (h : i = 4 ∨ s.length ≤ p + i) : turned s n p i = turned s n p 4 := by
  apply List.ext_getElem (by rw [turned_length, turned_length])
  intro j h1 h2
  rw [turned_at, turned_at, D_end (L := s.length) (by rw [turned_length] at h1; exact h1) hi h]
theorem turned_zero (s : List UInt8) (n p : Nat) : turned s n p 0 = s := by
  apply List.ext_getElem (turned_length s n p 0)
  intro j h1 h2
  rw [turned_at]
  have : D n p 0 j = 0 := if_neg (by omega)
  rw [this]; simp
end Spo
end Go.Proofs.YtebocnpbiiejmaaDoor
