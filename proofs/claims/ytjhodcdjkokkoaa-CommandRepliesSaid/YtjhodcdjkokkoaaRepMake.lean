/- The walk of the command laws' replies: the program's and the document's reply, made of a raw one. -/
import Derived.Test.YtjhodcdjkokkoaaAns
import Derived.Test.YtjhodcdjkokkoaaAppOwn
import Derived.Test.YtjhodcdjkokkoaaMark2
import Derived.Test.YtjhodcdjkokkoaaRepPut
import Derived.Deep.RegionHeld3
import Derived.Deep.RegionLaw
import Derived.Deep.Cut
import Derived.Deep.CutRange
import Derived.Deep.CutBlock
import Derived.BigQuiet
namespace Go.Proofs.Ytjhodcdjkokkoaa
open Go.RowKit

set_option maxRecDepth 100000 in
set_option maxHeartbeats 8000000 in
theorem replies_any (x : Rp) (tv mv : Value) (w : World) (hok : AnsOK w x tv mv) :
    Calls Try.prog 21 #[rpV x tv mv] w fun e w' => ∃ tv' mv', e = .returned (.tuple #[rpV (Rep.cut x) tv' mv', rpV (Rep.cut x) tv' mv']) ∧ Rd w' tv' (Rep.cut x).texts.length 1 (strsV (Rep.cut x).texts) ∧ Rd w' mv' (Rep.cut x).marks.length 1 (fltV (Rep.cut x).marks) ∧ Frm No w w' := by
  obtain ⟨o1, o2, o3, o4, o5, -, -, -, -, hT, hM⟩ := hok
  unfold maxLen at o1 o2 o3 o4
  obtain ⟨i0, gi, gz0, gz1, gz2⟩ := info_parts info_str
  obtain ⟨f0, fi, fz0, fz1, fz2⟩ := info_parts info_float
  obtain ⟨tao, tcp, rfl⟩ := hT.shape
  obtain ⟨mao, mcp, rfl⟩ := hM.shape
  have HRT := hid (fun w1 (hf : Frm No w w1) => hT.frm hf (fun _ _ h => h))
  have HRM := hid (fun w1 (hf : Frm No w w1) => hM.frm hf (fun _ _ h => h))
  have H3 := hid o3
  have H5 := hid o5
  clear hT hM o3 o5
  unfold rpV
  obtain ⟨k, line, col, count, text, texts, marks⟩ := x
  unfold Rep.cut
  dsimp only at *
  obtain ⟨cx, hcx⟩ : ∃ t, List.take (min (text.length : Int) 2000).toNat text = t := ⟨_, rfl⟩
  have hcx2 : text.take 2000 = cx := by
    rw [← hcx]
    rcases Nat.le_total text.length 2000 with h | h
    · rw [List.take_of_length_le h, List.take_of_length_le (by omega)]
    · congr 1
      omega
  rw [hcx2]
  clear hcx2
  go_enter Try.func21, Try.ntmps21
  go_wp2_with fail
  have HF3 : Hid (Frm No w (((w.alloc (.cells #[.int .i64 k, .int .i64 line, .int .i64 col, .int .i64 count, .string ⟨text.toArray⟩, .slice tao texts.length tcp, .slice mao marks.length mcp] 55)).alloc (.cells #[.int .i64 0, .int .i64 0, .int .i64 0, .int .i64 0, .string ⟨#[]⟩, .slice none 0 0, .slice none 0 0] 44)).alloc (.cells #[.int .i64 0, .int .i64 0, .int .i64 0, .int .i64 0, .string ⟨#[]⟩, .slice none 0 0, .slice none 0 0] 48))) := hid ((((Frm.refl No w).alloc _).alloc _).alloc _)
  have HX3 : Hid (∀ j, (((w.alloc (.cells #[.int .i64 k, .int .i64 line, .int .i64 col, .int .i64 count, .string ⟨text.toArray⟩, .slice tao texts.length tcp, .slice mao marks.length mcp] 55)).alloc (.cells #[.int .i64 0, .int .i64 0, .int .i64 0, .int .i64 0, .string ⟨#[]⟩, .slice none 0 0, .slice none 0 0] 44)).alloc (.cells #[.int .i64 0, .int .i64 0, .int .i64 0, .int .i64 0, .string ⟨#[]⟩, .slice none 0 0, .slice none 0 0] 48)).cell? ⟨w.heap.size, j, none⟩ = (#[.int .i64 k, .int .i64 line, .int .i64 col, .int .i64 count, .string ⟨text.toArray⟩, .slice tao texts.length tcp, .slice mao marks.length mcp] : Array Value)[j]?) := hid (fun j => (((Frm.refl No (w.alloc (.cells #[.int .i64 k, .int .i64 line, .int .i64 col, .int .i64 count, .string ⟨text.toArray⟩, .slice tao texts.length tcp, .slice mao marks.length mcp] 55))).alloc _).alloc _).box j)
  have HR1 : Hid (Box w (((w.alloc (.cells #[.int .i64 k, .int .i64 line, .int .i64 col, .int .i64 count, .string ⟨text.toArray⟩, .slice tao texts.length tcp, .slice mao marks.length mcp] 55)).alloc (.cells #[.int .i64 0, .int .i64 0, .int .i64 0, .int .i64 0, .string ⟨#[]⟩, .slice none 0 0, .slice none 0 0] 44)).alloc (.cells #[.int .i64 0, .int .i64 0, .int .i64 0, .int .i64 0, .string ⟨#[]⟩, .slice none 0 0, .slice none 0 0] 48)) (w.heap.size + 1) (#[.int .i64 0, .int .i64 0, .int .i64 0, .int .i64 0, .string ⟨#[]⟩, .slice none 0 0, .slice none 0 0] : Array Value).toList) := by
    have h := (Box.new ((Frm.refl No w).alloc (.cells #[.int .i64 k, .int .i64 line, .int .i64 col, .int .i64 count, .string ⟨text.toArray⟩, .slice tao texts.length tcp, .slice mao marks.length mcp] 55)) (#[.int .i64 0, .int .i64 0, .int .i64 0, .int .i64 0, .string ⟨#[]⟩, .slice none 0 0, .slice none 0 0] : Array Value).toList 44).no ((Frm.refl No _).alloc (.cells #[.int .i64 0, .int .i64 0, .int .i64 0, .int .i64 0, .string ⟨#[]⟩, .slice none 0 0, .slice none 0 0] 48))
    simp only [World.size_alloc] at h
    exact h
  have HR2 : Hid (Box w (((w.alloc (.cells #[.int .i64 k, .int .i64 line, .int .i64 col, .int .i64 count, .string ⟨text.toArray⟩, .slice tao texts.length tcp, .slice mao marks.length mcp] 55)).alloc (.cells #[.int .i64 0, .int .i64 0, .int .i64 0, .int .i64 0, .string ⟨#[]⟩, .slice none 0 0, .slice none 0 0] 44)).alloc (.cells #[.int .i64 0, .int .i64 0, .int .i64 0, .int .i64 0, .string ⟨#[]⟩, .slice none 0 0, .slice none 0 0] 48)) (w.heap.size + 1 + 1) (#[.int .i64 0, .int .i64 0, .int .i64 0, .int .i64 0, .string ⟨#[]⟩, .slice none 0 0, .slice none 0 0] : Array Value).toList) := by
    have h := (Box.new (((Frm.refl No w).alloc (.cells #[.int .i64 k, .int .i64 line, .int .i64 col, .int .i64 count, .string ⟨text.toArray⟩, .slice tao texts.length tcp, .slice mao marks.length mcp] 55)).alloc (.cells #[.int .i64 0, .int .i64 0, .int .i64 0, .int .i64 0, .string ⟨#[]⟩, .slice none 0 0, .slice none 0 0] 44)) (#[.int .i64 0, .int .i64 0, .int .i64 0, .int .i64 0, .string ⟨#[]⟩, .slice none 0 0, .slice none 0 0] : Array Value).toList 48)
    simp only [World.size_alloc] at h
    exact h
  have hz3 : w.heap.size + 1 + 1 + 1 = (((w.alloc (.cells #[.int .i64 k, .int .i64 line, .int .i64 col, .int .i64 count, .string ⟨text.toArray⟩, .slice tao texts.length tcp, .slice mao marks.length mcp] 55)).alloc (.cells #[.int .i64 0, .int .i64 0, .int .i64 0, .int .i64 0, .string ⟨#[]⟩, .slice none 0 0, .slice none 0 0] 44)).alloc (.cells #[.int .i64 0, .int .i64 0, .int .i64 0, .int .i64 0, .string ⟨#[]⟩, .slice none 0 0, .slice none 0 0] 48)).heap.size := by simp
  obtain ⟨w3, hw3⟩ : ∃ w3, w3 = (((w.alloc (.cells #[.int .i64 k, .int .i64 line, .int .i64 col, .int .i64 count, .string ⟨text.toArray⟩, .slice tao texts.length tcp, .slice mao marks.length mcp] 55)).alloc (.cells #[.int .i64 0, .int .i64 0, .int .i64 0, .int .i64 0, .string ⟨#[]⟩, .slice none 0 0, .slice none 0 0] 44)).alloc (.cells #[.int .i64 0, .int .i64 0, .int .i64 0, .int .i64 0, .string ⟨#[]⟩, .slice none 0 0, .slice none 0 0] 48)) := ⟨_, rfl⟩
  rw [← hw3] at HF3 HX3 HR1 HR2 hz3 ⊢
  clear hw3
  obtain ⟨b, hb⟩ : ∃ b, w.heap.size = b := ⟨_, rfl⟩
  rw [hb] at HX3 HR1 HR2 hz3
  simp only [hb]
  obtain ⟨r1, hr1⟩ : ∃ r, b + 1 = r := ⟨_, rfl⟩
  rw [hr1] at HR1 HR2 hz3
  simp only [hr1]
  obtain ⟨r2, hr2⟩ : ∃ r, r1 + 1 = r := ⟨_, rfl⟩
  rw [hr2] at HR2 hz3
  simp only [hr2]
  have hb3 : b < w3.heap.size := by omega
  have HX := hid (fun w' (hf : Frm No w3 w') j => (hf.cell (p := ⟨b, j, none⟩) hb3 (fun h => h)).trans (HX3.out j))
  clear HX3
  have HK : Hid (∀ w', Frm No w3 w' → w'.cell? ⟨b, 0, none⟩ = some (.int .i64 k) ∧ w'.cell? ⟨b, 1, none⟩ = some (.int .i64 line) ∧ w'.cell? ⟨b, 2, none⟩ = some (.int .i64 col) ∧ w'.cell? ⟨b, 3, none⟩ = some (.int .i64 count) ∧ w'.cell? ⟨b, 4, none⟩ = some (.string ⟨text.toArray⟩)) := hid fun w' hf => ⟨HX.out w' hf 0, HX.out w' hf 1, HX.out w' hf 2, HX.out w' hf 3, HX.out w' hf 4⟩
  go_cut [4] from 8 to 23 (fun p wq => ∃ A, p = .pointer (some ⟨A, 0, none⟩) ∧ Box w3 wq A [.int .i64 k, .int .i64 line, .int .i64 col, .int .i64 count, .string ⟨cx.toArray⟩, .slice none 0 0, .slice none 0 0])
  case first =>
    clear HR1 HR2 HX HF3 HRT HRM H3 H5
    have hs1 : (0 : Int) ≤ min (text.length : Int) 2000 := by omega
    have hs2 : min (text.length : Int) 2000 ≤ (text.length : Int) := by omega
    go_region_held3 (fun w' => w'.cell? ⟨b, 0, none⟩ = some (.int .i64 k) ∧ w'.cell? ⟨b, 1, none⟩ = some (.int .i64 line) ∧ w'.cell? ⟨b, 2, none⟩ = some (.int .i64 col) ∧ w'.cell? ⟨b, 3, none⟩ = some (.int .i64 count) ∧ w'.cell? ⟨b, 4, none⟩ = some (.string ⟨text.toArray⟩)) (exact HK.out _ (by repeat (first | with_reducible exact Frm.refl _ _ | with_reducible refine Frm.drew ?_ | with_reducible refine Frm.alloc ?_ _ | with_reducible refine Frm.setCell ?_ (fun h => by first | (simp at h; done) | (simp at h; omega)) _))) (first | fail)
    all_goals (dsimp only [Exit.then]; go_step; go_meet)
    all_goals exact ⟨_, rfl, (Box.new (Frm.refl No w3) [.int .i64 k, .int .i64 line, .int .i64 col, .int .i64 count, .string ⟨cx.toArray⟩, .slice none 0 0, .slice none 0 0] 44).no (Frm.refl No _).drew⟩
  case rest =>
    obtain ⟨A, rfl, hA⟩ := hcut
    clear HK
    go_upto_region 2 with (first | fail)
    go_cut [5] from 24 to 34 (fun p wq => ∃ B, p = .pointer (some ⟨B, 0, none⟩) ∧ A < B ∧ Box w3 wq A [.int .i64 k, .int .i64 line, .int .i64 col, .int .i64 count, .string ⟨cx.toArray⟩, .slice none 0 0, .slice none 0 0] ∧ Box w3 wq B [.int .i64 k, .int .i64 line, .int .i64 col, .int .i64 count, .string ⟨cx.toArray⟩, .slice none 0 0, .slice none 0 0])
    case first =>
      have x := HX.out _ hA.frm
      have a := hA.cell
      go_wp2_with fail
      go_meet
      exact ⟨_, rfl, hA.lC, hA.no ((Frm.refl No wc).alloc _), Box.new hA.frm [.int .i64 k, .int .i64 line, .int .i64 col, .int .i64 count, .string ⟨cx.toArray⟩, .slice none 0 0, .slice none 0 0] 48⟩
    case rest =>
    clear hA
    obtain ⟨B, rfl, hlA, hA', hB⟩ := hcut
    generalize wc = wB at *
    have hzB : B < wB.heap.size := hB.lC
    have hzw : w3.heap.size ≤ wB.heap.size := hB.frm.size
    have hA0 := hA'.hC
    have hB0 := hB.hC
    have HA := hid hA'
    have HB := hid hB
    clear hA' hB
    go_upto_block 0 with (first | fail)
    go_cut [6] from 35 to 63 (fun _ wq => ∃ tv, Box w3 wq A [.int .i64 k, .int .i64 line, .int .i64 col, .int .i64 count, .string ⟨cx.toArray⟩, tv, .slice none 0 0] ∧ Box w3 wq B [.int .i64 k, .int .i64 line, .int .i64 col, .int .i64 count, .string ⟨cx.toArray⟩, .slice none 0 0, .slice none 0 0] ∧ wq.ownsRow wB.heap.size 9 1 tv ((texts.take 50).map (List.take 500)).length (strsV ((texts.take 50).map (List.take 500))))
    case first =>
      go_wp2_with fail
      go_loopw [6] (fun i wr => ∃ (j : Nat) (tv : Value), j ≤ texts.length ∧ j ≤ 50 ∧ i = .int .i64 (j : Int) ∧ Box w3 wr A [.int .i64 k, .int .i64 line, .int .i64 col, .int .i64 count, .string ⟨cx.toArray⟩, tv, .slice none 0 0] ∧ Box w3 wr B [.int .i64 k, .int .i64 line, .int .i64 col, .int .i64 count, .string ⟨cx.toArray⟩, .slice none 0 0, .slice none 0 0] ∧ wr.ownsRow wB.heap.size 9 1 tv j (strsV (((texts.take 50).map (List.take 500)).take j)) ∧ wB.heap.size ≤ wr.heap.size) (fun i _ => 50 - (intOf i).toNat)
      case atStart => exact ⟨0, .slice none 0 0, by omega, by omega, rfl, HA.out, HB.out, World.ownsRow_nil _ _ _ _, Nat.le_refl _⟩
      case round =>
        obtain ⟨j, tv, hj, hj50, rfl, bA, bB, hom, hzr⟩ := hrel
        obtain ⟨uao, uc, rfl⟩ := ownsRow_shape hom
        have x := HX.out _ bA.frm
        by_cases hgo : j < texts.length ∧ j < 50
        · obtain ⟨hjl, hj5⟩ := hgo
          have hjz : (j : Int) < (texts.length : Int) := by omega
          have hj5z : (j : Int) < 50 := by omega
          obtain ⟨mb, mo, rfl, hmc⟩ := (HRT.out _ (HF3.out.thenNo bA.frm)).at_ (by omega)
          have hmk : wr.cell? ⟨mb, mo + j, none⟩ = some (.string ⟨texts[j].toArray⟩) := by rw [hmc j (by omega)]; simp [strsV]
          have hmb : mb < wr.heap.size := World.block_lt_of_cell? wr _ hmk
          have HS := hid (Rep.cut_texts_snoc hjl hj5)
          have hsl := H3.out _ (List.getElem_mem hjl)
          have Hmk := hid hmk
          clear hmc hmk
          generalize texts[j] = y at *
          have hs1 : (0 : Int) ≤ min (y.length : Int) 500 := by omega
          have hs2 : min (y.length : Int) 500 ≤ (y.length : Int) := by omega
          obtain ⟨py, hpy⟩ : ∃ t, List.take (min (y.length : Int) 500).toNat y = t := ⟨_, rfl⟩
          have hpy2 : y.take 500 = py := by
            rw [← hpy]
            rcases Nat.le_total y.length 500 with h | h
            · rw [List.take_of_length_le h, List.take_of_length_le (by omega)]
            · congr 1
              omega
          rw [hpy2] at HS
          clear hpy2
          have hAb : A < wr.heap.size := bA.lC
          have hmw : mb < w.heap.size := by
            obtain ⟨mb', mo', e, hc'⟩ := (HRT.out w (Frm.refl _ _)).at_ (by omega)
            simp only [Option.some.injEq, Addr.mk.injEq] at e
            obtain ⟨rfl, rfl, -⟩ := e
            exact World.block_lt_of_cell? w _ (hc' j (by omega))
          have HKK : Hid (∀ w', Frm (fun q => q = A ∨ Own (.slice uao j uc) q) wr w' → w'.cell? ⟨b, 5, none⟩ = some (.slice (some ⟨mb, mo, none⟩) texts.length tcp) ∧ w'.cell? ⟨mb, mo + j, none⟩ = some (.string ⟨y.toArray⟩)) := by
            have hn : ∀ q, q < A → ¬ (q = A ∨ Own (.slice uao j uc) q) := fun q hq e => by
              rcases e with e | e
              · omega
              · have := (hom.lt q e).1; omega
            refine hid fun w' hf => ⟨(hf.cell (p := ⟨b, 5, none⟩) (show b < wr.heap.size by omega) (hn b (by omega))).trans (x 5), (hf.cell (p := ⟨mb, mo + j, none⟩) hmb (hn mb (by omega))).trans Hmk.out⟩
          have a := bA.cell
          go_wp2_with fail
          clear x a
          have kA0 : wr.cell? ⟨A, 5, none⟩ = some (.slice uao j uc) := bA.cell 5
          have kA1 : ∀ o, (wr.alloc o).cell? ⟨A, 5, none⟩ = some (.slice uao j uc) := fun o => (bA.no ((Frm.refl No wr).alloc o)).cell 5
          have HBA := hid bA
          have HBB := hid bB
          have HOM := hid hom
          clear bA bB hom HRT HRM HR1 HR2 HX HA HB
          refine wp_region_held_drew (S := fun w' => w'.cell? ⟨b, 5, none⟩ = some (.slice (some ⟨mb, mo, none⟩) texts.length tcp) ∧ w'.cell? ⟨mb, mo + j, none⟩ = some (.string ⟨y.toArray⟩)) (by kernel_rfl) (HKK.out _ (Frm.refl _ _).drew) (fun hHeld => ?_)
          refine wpAnyH_take (i := 0) (oi := _) (v := _) rfl (by kernel_rfl) (by kernel_rfl) (by kernel_rfl) (fun _ _ _ h => h) (Or.inl ⟨by rfl, by intro w hSw; (try dsimp only at hSw); go_simp; all_goals with_reducible rfl⟩) (by assumption) ?_
          (try simp only [Act.put, List.getElem_toArray, List.getElem_cons_zero, List.setIfInBounds_toArray, List.set_cons_zero, List.set_cons_succ])
          refine wpAnyH_take (i := 2) (oi := _) (v := _) rfl (by kernel_rfl) (by kernel_rfl) (by kernel_rfl) (fun _ _ _ h => h) (Or.inl ⟨by rfl, by intro w hSw; (try dsimp only at hSw); go_simp; all_goals with_reducible rfl⟩) (by assumption) ?_
          (try simp only [Act.put, List.getElem_toArray, List.getElem_cons_succ, List.getElem_cons_zero, List.setIfInBounds_toArray, List.set_cons_zero, List.set_cons_succ])
          refine wpAnyH_take (i := 3) (oi := _) (v := _) rfl (by kernel_rfl) (by kernel_rfl) (by kernel_rfl) (fun _ _ _ h => h) (Or.inl ⟨by rfl, by intro w hSw; (try dsimp only at hSw); go_simp; all_goals with_reducible rfl⟩) (by assumption) ?_
          (try simp only [Act.put, List.getElem_toArray, List.getElem_cons_succ, List.getElem_cons_zero, List.setIfInBounds_toArray, List.set_cons_zero, List.set_cons_succ])
          refine wpAnyH_take (i := 4) (oi := _) (v := _) rfl (by kernel_rfl) (by kernel_rfl) (by kernel_rfl) (fun _ _ _ h => h) (Or.inl ⟨by rfl, by intro w hSw; (try dsimp only at hSw); go_simp; all_goals with_reducible rfl⟩) (by assumption) ?_
          (try simp only [Act.put, List.getElem_toArray, List.getElem_cons_succ, List.getElem_cons_zero, List.setIfInBounds_toArray, List.set_cons_zero, List.set_cons_succ])
          refine wpAnyH_take (i := 5) (oi := _) (v := _) rfl (by kernel_rfl) (by kernel_rfl) (by kernel_rfl) (fun _ _ _ h => h) (Or.inl ⟨by rfl, by intro w hSw; (try dsimp only at hSw); go_simp; all_goals with_reducible rfl⟩) (by assumption) ?_
          (try simp only [Act.put, List.getElem_toArray, List.getElem_cons_succ, List.getElem_cons_zero, List.setIfInBounds_toArray, List.set_cons_zero, List.set_cons_succ])
          refine wpAnyH_take (i := 6) (oi := _) (v := _) rfl (by kernel_rfl) (by kernel_rfl) (by kernel_rfl) (fun _ _ _ h => h) (Or.inl ⟨by rfl, by intro w hSw; (try dsimp only at hSw); go_simp; all_goals with_reducible rfl⟩) (by assumption) ?_
          (try simp only [Act.put, List.getElem_toArray, List.getElem_cons_succ, List.getElem_cons_zero, List.setIfInBounds_toArray, List.set_cons_zero, List.set_cons_succ])
          refine wpAnyH_take (i := 7) (oi := _) (v := _) rfl (by kernel_rfl) (by kernel_rfl) (by kernel_rfl) (fun _ _ _ h => h) (Or.inl ⟨by rfl, by intro w hSw; (try dsimp only at hSw); go_simp; all_goals with_reducible rfl⟩) (by assumption) ?_
          (try simp only [Act.put, List.getElem_toArray, List.getElem_cons_succ, List.getElem_cons_zero, List.setIfInBounds_toArray, List.set_cons_zero, List.set_cons_succ])
          refine wpAnyH_take (i := 8) (oi := _) (v := _) rfl (by kernel_rfl) (by kernel_rfl) (by kernel_rfl) (fun _ _ _ h => h) (Or.inl ⟨by rfl, by intro w hSw; (try dsimp only at hSw); go_simp; all_goals with_reducible rfl⟩) (by assumption) ?_
          (try simp only [Act.put, List.getElem_toArray, List.getElem_cons_succ, List.getElem_cons_zero, List.setIfInBounds_toArray, List.set_cons_zero, List.set_cons_succ])
          refine wpAnyH_take (i := 9) (oi := _) (v := _) rfl (by kernel_rfl) (by kernel_rfl) (by kernel_rfl) (fun _ _ _ h => h) (Or.inl ⟨by rfl, by intro w hSw; (try dsimp only at hSw); go_simp; all_goals with_reducible rfl⟩) (by assumption) ?_
          (try simp only [Act.put, List.getElem_toArray, List.getElem_cons_succ, List.getElem_cons_zero, List.setIfInBounds_toArray, List.set_cons_zero, List.set_cons_succ])
          refine wpAnyH_take (i := 10) (oi := _) (v := _) rfl (by kernel_rfl) (by kernel_rfl) (by kernel_rfl) (fun _ _ _ h => h) (Or.inl ⟨by rfl, by intro w hSw; (try dsimp only at hSw); go_simp; all_goals with_reducible rfl⟩) (by assumption) ?_
          (try simp only [Act.put, List.getElem_toArray, List.getElem_cons_succ, List.getElem_cons_zero, List.setIfInBounds_toArray, List.set_cons_zero, List.set_cons_succ])
          refine wpAnyH_take (i := 11) (oi := _) (v := _) rfl (by kernel_rfl) (by kernel_rfl) (by kernel_rfl) (fun _ _ _ h => h) (Or.inl ⟨by rfl, by intro w hSw; (try dsimp only at hSw); go_simp; all_goals with_reducible rfl⟩) (by assumption) ?_
          (try simp only [Act.put, List.getElem_toArray, List.getElem_cons_succ, List.getElem_cons_zero, List.setIfInBounds_toArray, List.set_cons_zero, List.set_cons_succ])
          refine wpAnyH_take (i := 12) (oi := _) (v := _) rfl (by kernel_rfl) (by kernel_rfl) (by kernel_rfl) (fun _ _ _ h => h) (Or.inl ⟨by rfl, by intro w hSw; (try dsimp only at hSw); go_simp; all_goals with_reducible rfl⟩) (by assumption) ?_
          (try simp only [Act.put, List.getElem_toArray, List.getElem_cons_succ, List.getElem_cons_zero, List.setIfInBounds_toArray, List.set_cons_zero, List.set_cons_succ])
          refine wpAnyH_take (i := 13) (oi := _) (v := _) rfl (by kernel_rfl) (by kernel_rfl) (by kernel_rfl) (fun _ _ _ h => h) (Or.inl ⟨by rfl, by intro w hSw; (try dsimp only at hSw); go_simp; all_goals with_reducible rfl⟩) (by assumption) ?_
          (try simp only [Act.put, List.getElem_toArray, List.getElem_cons_succ, List.getElem_cons_zero, List.setIfInBounds_toArray, List.set_cons_zero, List.set_cons_succ])
          refine wpAnyH_take (i := 14) (oi := _) (v := _) rfl (by kernel_rfl) (by kernel_rfl) (by kernel_rfl) (fun _ _ _ h => h) (Or.inl ⟨by rfl, by intro w hSw; (try dsimp only at hSw); go_simp; all_goals with_reducible rfl⟩) (by assumption) ?_
          (try simp only [Act.put, List.getElem_toArray, List.getElem_cons_succ, List.getElem_cons_zero, List.setIfInBounds_toArray, List.set_cons_zero, List.set_cons_succ])
          refine wpAnyH_ready (rs := [1, 15]) (by kernel_rfl) (by simp) ?_
          refine AllReadyH.cons rfl (fun K hK => ?_) (AllReadyH.cons rfl (fun K hK => ?_) AllReadyH.nil)
          · simp only [List.getElem_toArray, List.getElem_cons_succ, List.getElem_cons_zero]
            go_simp
            refine hK.out _ _ (HKK.out _ (by repeat (first | with_reducible exact Frm.refl _ _ | with_reducible exact F4 | with_reducible refine Frm.drew ?_ | with_reducible refine Frm.alloc ?_ _ | with_reducible refine Frm.setCell ?_ (fun h => by first | exact .inl rfl | (simp at h; done) | (simp at h; omega)) _))) (fun hHeld => ?_)
            clear hK K
            (try simp only [Act.put, List.getElem_toArray, List.getElem_cons_succ, List.getElem_cons_zero, List.setIfInBounds_toArray, List.set_cons_zero, List.set_cons_succ])
            refine wpAnyH_ready (rs := [15]) (by kernel_rfl) (by simp) ?_
            refine AllReadyH.cons rfl (fun K hK => ?_) AllReadyH.nil
            simp only [List.getElem_toArray, List.getElem_cons_succ, List.getElem_cons_zero]
            go_simp
            refine hK.out _ _ (HKK.out _ (by repeat (first | with_reducible exact Frm.refl _ _ | with_reducible exact F4 | with_reducible refine Frm.drew ?_ | with_reducible refine Frm.alloc ?_ _ | with_reducible refine Frm.setCell ?_ (fun h => by first | exact .inl rfl | (simp at h; done) | (simp at h; omega)) _))) (fun hHeld => ?_)
            clear hK K
            (try simp only [Act.put, List.getElem_toArray, List.getElem_cons_succ, List.getElem_cons_zero, List.setIfInBounds_toArray, List.set_cons_zero, List.set_cons_succ])
            refine wpAnyH_ready (rs := [16]) (by kernel_rfl) (by simp) ?_
            refine AllReadyH.cons rfl (fun K hK => ?_) AllReadyH.nil
            refine step_append_own rfl (.tmp 47) (.tmp 61) 22 22 rfl wB.heap.size 9 i0 _ 1 16 Try.underlying22 gi gz0 gz1 gz2 rfl (.slice uao j uc) j _ (by simp [Act.eval]) ((((Frm.refl No wr).alloc (.cells #[.string ⟨py.toArray⟩] 9)).drew).row HOM.out (fun _ _ h => h)) (.slice (some ⟨wr.heap.size, 0, none⟩) 1 1) 1 [.string ⟨py.toArray⟩] (by simp [Act.eval]) (src_new Try.underlying22 rfl) (by unfold maxLen; omega) (by omega) (by simp; omega) ?_
            intro v4 w4 hown4 hf4 hv4
            obtain ⟨ao4, c4, rfl⟩ := ownsRow_shape hown4
            have bA4 := (HBA.out.no (((Frm.refl No wr).alloc (.cells #[.string ⟨py.toArray⟩] 9)).drew)).other hf4 (fun e => by have := (HOM.out.lt A e).1; omega) (fun q hq => by have := (HOM.out.lt q hq).1; omega)
            have kA : w4.cell? ⟨A, 5, none⟩ = some (.slice uao j uc) := bA4.cell 5
            have zA : w4.frozen? ⟨A, 5, none⟩ = false := bA4.fr 5
            have F4 : Frm (fun q => q = A ∨ Own (.slice uao j uc) q) wr w4 := ((((Frm.refl No wr).alloc (.cells #[.string ⟨py.toArray⟩] 9)).drew).any.then_ hf4).weak (fun _ _ h => .inr h)
            refine hK.out _ _ (HKK.out _ (by repeat (first | with_reducible exact Frm.refl _ _ | with_reducible exact F4 | with_reducible refine Frm.drew ?_ | with_reducible refine Frm.alloc ?_ _ | with_reducible refine Frm.setCell ?_ (fun h => by first | exact .inl rfl | (simp at h; done) | (simp at h; omega)) _))) (fun hHeld => ?_)
            clear hK K
            (try simp only [Act.put, List.getElem_toArray, List.getElem_cons_succ, List.getElem_cons_zero, List.setIfInBounds_toArray, List.set_cons_zero, List.set_cons_succ])
            refine wpAnyH_take (i := 17) (oi := _) (v := _) rfl (by kernel_rfl) (by kernel_rfl) (by kernel_rfl) (fun _ _ _ h => h) (Or.inl ⟨by rfl, by intro w hSw; (try dsimp only at hSw); go_simp; all_goals with_reducible rfl⟩) (by assumption) ?_
            simp only [Act.put, List.getElem_toArray, List.getElem_cons_succ, List.getElem_cons_zero, List.setIfInBounds_toArray, List.set_cons_zero, List.set_cons_succ]
            refine wpAnyH_ready (rs := [18]) (by kernel_rfl) (by simp) ?_
            refine AllReadyH.cons rfl (fun K hK => ?_) AllReadyH.nil
            simp only [List.getElem_toArray, List.getElem_cons_succ, List.getElem_cons_zero]
            go_simp
            refine hK.out _ _ (HKK.out _ (by repeat (first | with_reducible exact Frm.refl _ _ | with_reducible exact F4 | with_reducible refine Frm.drew ?_ | with_reducible refine Frm.alloc ?_ _ | with_reducible refine Frm.setCell ?_ (fun h => by first | exact .inl rfl | (simp at h; done) | (simp at h; omega)) _))) (fun hHeld => ?_)
            clear hK K
            (try simp only [Act.put, List.getElem_toArray, List.getElem_cons_succ, List.getElem_cons_zero, List.setIfInBounds_toArray, List.set_cons_zero, List.set_cons_succ])
            refine wpAnyH_done (by kernel_rfl) ?_ _
            go_wp2_with fail
            have bA5 := bA4.set 5 (by simp) (.slice ao4 (j + 1) c4)
            have bB5 := ((HBB.out.no (((Frm.refl No wr).alloc (.cells #[.string ⟨py.toArray⟩] 9)).drew)).other hf4 (fun e => by have := (HOM.out.lt B e).1; omega) (fun q hq => by have := (HOM.out.lt q hq).1; omega)).setOther hA0 (by omega) 5 (.slice ao4 (j + 1) c4)
            have r5 := (setCell_none (w := w4) (B := A) (j := 5) (.slice ao4 (j + 1) c4)).row hown4 (fun q hq e => by have e : q = A := e; have := (hown4.lt q hq).1; omega)
            have z5 := F4.size
            refine ⟨⟨j + 1, _, by omega, by omega, by go_num, bA5, bB5, ?_, ?_⟩, by simp only [intOf]; omega⟩
            · rw [HS.out]
              exact r5
            · have := bA5.frm.size
              have := (setCell_none (w := w4) (B := A) (j := 5) (.slice ao4 (j + 1) c4)).size
              omega
          · simp only [List.getElem_toArray, List.getElem_cons_succ, List.getElem_cons_zero]
            go_simp
            refine hK.out _ _ (HKK.out _ (by repeat (first | with_reducible exact Frm.refl _ _ | with_reducible exact F4 | with_reducible refine Frm.drew ?_ | with_reducible refine Frm.alloc ?_ _ | with_reducible refine Frm.setCell ?_ (fun h => by first | exact .inl rfl | (simp at h; done) | (simp at h; omega)) _))) (fun hHeld => ?_)
            clear hK K
            (try simp only [Act.put, List.getElem_toArray, List.getElem_cons_succ, List.getElem_cons_zero, List.setIfInBounds_toArray, List.set_cons_zero, List.set_cons_succ])
            refine wpAnyH_ready (rs := [1]) (by kernel_rfl) (by simp) ?_
            refine AllReadyH.cons rfl (fun K hK => ?_) AllReadyH.nil
            simp only [List.getElem_toArray, List.getElem_cons_succ, List.getElem_cons_zero]
            go_simp
            refine hK.out _ _ (HKK.out _ (by repeat (first | with_reducible exact Frm.refl _ _ | with_reducible exact F4 | with_reducible refine Frm.drew ?_ | with_reducible refine Frm.alloc ?_ _ | with_reducible refine Frm.setCell ?_ (fun h => by first | exact .inl rfl | (simp at h; done) | (simp at h; omega)) _))) (fun hHeld => ?_)
            clear hK K
            (try simp only [Act.put, List.getElem_toArray, List.getElem_cons_succ, List.getElem_cons_zero, List.setIfInBounds_toArray, List.set_cons_zero, List.set_cons_succ])
            refine wpAnyH_ready (rs := [16]) (by kernel_rfl) (by simp) ?_
            refine AllReadyH.cons rfl (fun K hK => ?_) AllReadyH.nil
            refine step_append_own rfl (.tmp 47) (.tmp 61) 22 22 rfl wB.heap.size 9 i0 _ 1 16 Try.underlying22 gi gz0 gz1 gz2 rfl (.slice uao j uc) j _ (by simp [Act.eval]) ((((Frm.refl No wr).alloc (.cells #[.string ⟨py.toArray⟩] 9)).drew).row HOM.out (fun _ _ h => h)) (.slice (some ⟨wr.heap.size, 0, none⟩) 1 1) 1 [.string ⟨py.toArray⟩] (by simp [Act.eval]) (src_new Try.underlying22 rfl) (by unfold maxLen; omega) (by omega) (by simp; omega) ?_
            intro v4 w4 hown4 hf4 hv4
            obtain ⟨ao4, c4, rfl⟩ := ownsRow_shape hown4
            have bA4 := (HBA.out.no (((Frm.refl No wr).alloc (.cells #[.string ⟨py.toArray⟩] 9)).drew)).other hf4 (fun e => by have := (HOM.out.lt A e).1; omega) (fun q hq => by have := (HOM.out.lt q hq).1; omega)
            have kA : w4.cell? ⟨A, 5, none⟩ = some (.slice uao j uc) := bA4.cell 5
            have zA : w4.frozen? ⟨A, 5, none⟩ = false := bA4.fr 5
            have F4 : Frm (fun q => q = A ∨ Own (.slice uao j uc) q) wr w4 := ((((Frm.refl No wr).alloc (.cells #[.string ⟨py.toArray⟩] 9)).drew).any.then_ hf4).weak (fun _ _ h => .inr h)
            refine hK.out _ _ (HKK.out _ (by repeat (first | with_reducible exact Frm.refl _ _ | with_reducible exact F4 | with_reducible refine Frm.drew ?_ | with_reducible refine Frm.alloc ?_ _ | with_reducible refine Frm.setCell ?_ (fun h => by first | exact .inl rfl | (simp at h; done) | (simp at h; omega)) _))) (fun hHeld => ?_)
            clear hK K
            (try simp only [Act.put, List.getElem_toArray, List.getElem_cons_succ, List.getElem_cons_zero, List.setIfInBounds_toArray, List.set_cons_zero, List.set_cons_succ])
            refine wpAnyH_take (i := 17) (oi := _) (v := _) rfl (by kernel_rfl) (by kernel_rfl) (by kernel_rfl) (fun _ _ _ h => h) (Or.inl ⟨by rfl, by intro w hSw; (try dsimp only at hSw); go_simp; all_goals with_reducible rfl⟩) (by assumption) ?_
            simp only [Act.put, List.getElem_toArray, List.getElem_cons_succ, List.getElem_cons_zero, List.setIfInBounds_toArray, List.set_cons_zero, List.set_cons_succ]
            refine wpAnyH_ready (rs := [18]) (by kernel_rfl) (by simp) ?_
            refine AllReadyH.cons rfl (fun K hK => ?_) AllReadyH.nil
            simp only [List.getElem_toArray, List.getElem_cons_succ, List.getElem_cons_zero]
            go_simp
            refine hK.out _ _ (HKK.out _ (by repeat (first | with_reducible exact Frm.refl _ _ | with_reducible exact F4 | with_reducible refine Frm.drew ?_ | with_reducible refine Frm.alloc ?_ _ | with_reducible refine Frm.setCell ?_ (fun h => by first | exact .inl rfl | (simp at h; done) | (simp at h; omega)) _))) (fun hHeld => ?_)
            clear hK K
            (try simp only [Act.put, List.getElem_toArray, List.getElem_cons_succ, List.getElem_cons_zero, List.setIfInBounds_toArray, List.set_cons_zero, List.set_cons_succ])
            refine wpAnyH_done (by kernel_rfl) ?_ _
            go_wp2_with fail
            have bA5 := bA4.set 5 (by simp) (.slice ao4 (j + 1) c4)
            have bB5 := ((HBB.out.no (((Frm.refl No wr).alloc (.cells #[.string ⟨py.toArray⟩] 9)).drew)).other hf4 (fun e => by have := (HOM.out.lt B e).1; omega) (fun q hq => by have := (HOM.out.lt q hq).1; omega)).setOther hA0 (by omega) 5 (.slice ao4 (j + 1) c4)
            have r5 := (setCell_none (w := w4) (B := A) (j := 5) (.slice ao4 (j + 1) c4)).row hown4 (fun q hq e => by have e : q = A := e; have := (hown4.lt q hq).1; omega)
            have z5 := F4.size
            refine ⟨⟨j + 1, _, by omega, by omega, by go_num, bA5, bB5, ?_, ?_⟩, by simp only [intOf]; omega⟩
            · rw [HS.out]
              exact r5
            · have := bA5.frm.size
              have := (setCell_none (w := w4) (B := A) (j := 5) (.slice ao4 (j + 1) c4)).size
              omega
        · have hlen : ((texts.take 50).map (List.take 500)).length = j := by rw [List.length_map, List.length_take]; omega
          rw [List.take_of_length_le (by omega)] at hom
          have HH := hid (⟨bA, bB, hom⟩ : _ ∧ _ ∧ _)
          have HLN := hid hlen
          clear hlen hom
          by_cases hjl : j < texts.length
          · have hj5 : ¬ j < 50 := fun h => hgo ⟨hjl, h⟩
            have hjz : (j : Int) < (texts.length : Int) := by omega
            have hj5z : ¬ (j : Int) < 50 := by omega
            go_wp2_with fail
            go_meet
            exact ⟨_, HH.out.1, HH.out.2.1, by rw [HLN.out]; exact HH.out.2.2⟩
          · have hjz : ¬ (j : Int) < (texts.length : Int) := by omega
            go_wp2_with fail
            go_meet
            exact ⟨_, HH.out.1, HH.out.2.1, by rw [HLN.out]; exact HH.out.2.2⟩
    case rest =>
      clear HA HB HRT
      obtain ⟨ta, bA, bB, rT⟩ := hcut
      obtain ⟨uao, uc, rfl⟩ := ownsRow_shape rT
      have kA : wc.cell? ⟨A, 5, none⟩ = some (.slice uao ((texts.take 50).map (List.take 500)).length uc) := bA.cell 5
      have kB : wc.cell? ⟨B, 5, none⟩ = some (.slice none 0 0) := bB.cell 5
      have zB : wc.frozen? ⟨B, 5, none⟩ = false := bB.fr 5
      have bA6 := bA.setOther hB0 (show A ≠ B by omega) 5 (.slice uao ((texts.take 50).map (List.take 500)).length uc)
      have bB6 := bB.set 5 (by simp) (.slice uao ((texts.take 50).map (List.take 500)).length uc)
      have rT6 := (setCell_none (w := wc) (B := B) (j := 5) (.slice uao ((texts.take 50).map (List.take 500)).length uc)).row rT (fun q hq e => by have e : q = B := e; have := (rT.lt q hq).1; omega)
      generalize htx : ((texts.take 50).map (List.take 500)) = tx at *
      have HTX := hid htx
      clear htx
      have HA := hid bA6
      have HB := hid bB6
      have HT := hid rT6
      clear bA bB rT bA6 bB6 rT6
      go_upto_block 2 with (first | fail)
      generalize wc.setCell ⟨B, 5, none⟩ (.slice uao tx.length uc) = wD at *
      clear kA kB zB
      have hBD : B < wD.heap.size := HB.out.lC
      go_cut [7] from 67 to 88 (fun _ wq => ∃ mv, Box w3 wq A [.int .i64 k, .int .i64 line, .int .i64 col, .int .i64 count, .string ⟨cx.toArray⟩, (.slice uao tx.length uc), mv] ∧ Box w3 wq B [.int .i64 k, .int .i64 line, .int .i64 col, .int .i64 count, .string ⟨cx.toArray⟩, (.slice uao tx.length uc), .slice none 0 0] ∧ wq.ownsRow wB.heap.size 9 1 (.slice uao tx.length uc) tx.length (strsV tx) ∧ wq.ownsRow wD.heap.size 86 1 mv (marks.take 50).length (fltV (marks.take 50)))
      case first =>
        have HTL := hid (fun q hq => (HT.out.lt q hq).2)
        go_wp2_with fail
        go_loopw [7] (fun i wr => ∃ (j : Nat) (mv : Value), j ≤ marks.length ∧ j ≤ 50 ∧ i = .int .i64 (j : Int) ∧ Box w3 wr A [.int .i64 k, .int .i64 line, .int .i64 col, .int .i64 count, .string ⟨cx.toArray⟩, (.slice uao tx.length uc), mv] ∧ Box w3 wr B [.int .i64 k, .int .i64 line, .int .i64 col, .int .i64 count, .string ⟨cx.toArray⟩, (.slice uao tx.length uc), .slice none 0 0] ∧ wr.ownsRow wB.heap.size 9 1 (.slice uao tx.length uc) tx.length (strsV tx) ∧ wr.ownsRow wD.heap.size 86 1 mv j (fltV ((marks.take 50).take j)) ∧ wD.heap.size ≤ wr.heap.size) (fun i _ => 50 - (intOf i).toNat)
        case atStart => exact ⟨0, .slice none 0 0, by omega, by omega, rfl, HA.out, HB.out, HT.out, World.ownsRow_nil _ _ _ _, Nat.le_refl _⟩
        case round =>
          obtain ⟨j, mv, hj, hj50, rfl, bA, bB, hT, hom, hzr⟩ := hrel
          obtain ⟨vao, vc, rfl⟩ := ownsRow_shape hom
          have x := HX.out _ bA.frm
          by_cases hgo : j < marks.length ∧ j < 50
          · obtain ⟨hjl, hj5⟩ := hgo
            have hjz : (j : Int) < (marks.length : Int) := by omega
            have hj5z : (j : Int) < 50 := by omega
            obtain ⟨mb, mo, rfl, hmc⟩ := (HRM.out _ (HF3.out.thenNo bA.frm)).at_ (by omega)
            have hmk : wr.cell? ⟨mb, mo + j, none⟩ = some (.int .u64 ((marks[j] : Nat) : Int)) := by rw [hmc j (by omega)]; simp [bitV]
            have hmb : mb < wr.heap.size := World.block_lt_of_cell? wr _ hmk
            have HS := hid (Rep.cut_marks_snoc hjl hj5)
            have Hmk := hid hmk
            have hmw : mb < w.heap.size := by
              obtain ⟨mb', mo', e, hc'⟩ := (HRM.out w (Frm.refl _ _)).at_ (by omega)
              simp only [Option.some.injEq, Addr.mk.injEq] at e
              obtain ⟨rfl, rfl, -⟩ := e
              exact World.block_lt_of_cell? w _ (hc' j (by omega))
            clear hmc hmk
            generalize marks[j] = y at *
            have hof := of_bits y
            have hAb : A < wr.heap.size := bA.lC
            have HKK : Hid (∀ w', Frm (fun q => q = A ∨ Own (.slice vao j vc) q) wr w' → w'.cell? ⟨b, 6, none⟩ = some (.slice (some ⟨mb, mo, none⟩) marks.length mcp) ∧ w'.cell? ⟨mb, mo + j, none⟩ = some (.int .u64 (y : Int))) := by
              have hn : ∀ q, q < A → ¬ (q = A ∨ Own (.slice vao j vc) q) := fun q hq e => by
                rcases e with e | e
                · omega
                · have := (hom.lt q e).1; omega
              refine hid fun w' hf => ⟨(hf.cell (p := ⟨b, 6, none⟩) (show b < wr.heap.size by omega) (hn b (by omega))).trans (x 6), (hf.cell (p := ⟨mb, mo + j, none⟩) hmb (hn mb (by omega))).trans Hmk.out⟩
            have a := bA.cell
            go_wp2_with fail
            clear x a
            have kA0 : wr.cell? ⟨A, 6, none⟩ = some (.slice vao j vc) := bA.cell 6
            have kA1 : ∀ o, (wr.alloc o).cell? ⟨A, 6, none⟩ = some (.slice vao j vc) := fun o => (bA.no ((Frm.refl No wr).alloc o)).cell 6
            have HBA := hid bA
            have HBB := hid bB
            have HOM := hid hom
            have HTT := hid hT
            clear bA bB hom hT HRM HR1 HR2 HX HA HB HT
            refine wp_region_held_drew (S := fun w' => w'.cell? ⟨b, 6, none⟩ = some (.slice (some ⟨mb, mo, none⟩) marks.length mcp) ∧ w'.cell? ⟨mb, mo + j, none⟩ = some (.int .u64 (y : Int))) (by kernel_rfl) (HKK.out _ (Frm.refl _ _).drew) (fun hHeld => ?_)
            refine wpAnyH_take (i := 0) (oi := _) (v := _) rfl (by kernel_rfl) (by kernel_rfl) (by kernel_rfl) (fun _ _ _ h => h) (Or.inl ⟨by rfl, by intro w hSw; (try dsimp only at hSw); go_simp; all_goals with_reducible rfl⟩) (by assumption) ?_
            simp only [Act.put, List.getElem_toArray, List.getElem_cons_zero, List.setIfInBounds_toArray, List.set_cons_zero, List.set_cons_succ]
            refine wpAnyH_take (i := 2) (oi := _) (v := _) rfl (by kernel_rfl) (by kernel_rfl) (by kernel_rfl) (fun _ _ _ h => h) (Or.inl ⟨by rfl, by intro w hSw; (try dsimp only at hSw); go_simp; all_goals with_reducible rfl⟩) (by assumption) ?_
            simp only [Act.put, List.getElem_toArray, List.getElem_cons_succ, List.getElem_cons_zero, List.setIfInBounds_toArray, List.set_cons_zero, List.set_cons_succ]
            refine wpAnyH_take (i := 3) (oi := _) (v := _) rfl (by kernel_rfl) (by kernel_rfl) (by kernel_rfl) (fun _ _ _ h => h) (Or.inl ⟨by rfl, by intro w hSw; (try dsimp only at hSw); go_simp; all_goals with_reducible rfl⟩) (by assumption) ?_
            simp only [Act.put, List.getElem_toArray, List.getElem_cons_succ, List.getElem_cons_zero, List.setIfInBounds_toArray, List.set_cons_zero, List.set_cons_succ]
            refine wpAnyH_take (i := 4) (oi := _) (v := _) rfl (by kernel_rfl) (by kernel_rfl) (by kernel_rfl) (fun _ _ _ h => h) (Or.inl ⟨by rfl, by intro w hSw; (try dsimp only at hSw); go_simp; all_goals with_reducible rfl⟩) (by assumption) ?_
            simp only [Act.put, List.getElem_toArray, List.getElem_cons_succ, List.getElem_cons_zero, List.setIfInBounds_toArray, List.set_cons_zero, List.set_cons_succ]
            refine wpAnyH_take (i := 5) (oi := _) (v := _) rfl (by kernel_rfl) (by kernel_rfl) (by kernel_rfl) (fun _ _ _ h => h) (Or.inl ⟨by rfl, by intro w hSw; (try dsimp only at hSw); go_simp; all_goals with_reducible rfl⟩) (by assumption) ?_
            simp only [Act.put, List.getElem_toArray, List.getElem_cons_succ, List.getElem_cons_zero, List.setIfInBounds_toArray, List.set_cons_zero, List.set_cons_succ]
            refine wpAnyH_take (i := 6) (oi := _) (v := _) rfl (by kernel_rfl) (by kernel_rfl) (by kernel_rfl) (fun _ _ _ h => h) (Or.inl ⟨by rfl, by intro w hSw; (try dsimp only at hSw); go_simp; all_goals with_reducible rfl⟩) (by assumption) ?_
            simp only [Act.put, List.getElem_toArray, List.getElem_cons_succ, List.getElem_cons_zero, List.setIfInBounds_toArray, List.set_cons_zero, List.set_cons_succ]
            refine wpAnyH_ready (rs := [1, 7]) (by kernel_rfl) (by simp) ?_
            refine AllReadyH.cons rfl (fun K hK => ?_) (AllReadyH.cons rfl (fun K hK => ?_) AllReadyH.nil)
            · simp only [List.getElem_toArray, List.getElem_cons_succ, List.getElem_cons_zero]
              go_simp
              refine hK.out _ _ (HKK.out _ (by repeat (first | with_reducible exact Frm.refl _ _ | with_reducible exact F4 | with_reducible refine Frm.drew ?_ | with_reducible refine Frm.alloc ?_ _ | with_reducible refine Frm.setCell ?_ (fun h => by first | exact .inl rfl | (simp at h; done) | (simp at h; omega)) _))) (fun hHeld => ?_)
              clear hK K
              (try simp only [Act.put, List.getElem_toArray, List.getElem_cons_succ, List.getElem_cons_zero, List.setIfInBounds_toArray, List.set_cons_zero, List.set_cons_succ])
              refine wpAnyH_ready (rs := [7]) (by kernel_rfl) (by simp) ?_
              refine AllReadyH.cons rfl (fun K hK => ?_) AllReadyH.nil
              simp only [List.getElem_toArray, List.getElem_cons_succ, List.getElem_cons_zero]
              go_simp
              refine hK.out _ _ (HKK.out _ (by repeat (first | with_reducible exact Frm.refl _ _ | with_reducible exact F4 | with_reducible refine Frm.drew ?_ | with_reducible refine Frm.alloc ?_ _ | with_reducible refine Frm.setCell ?_ (fun h => by first | exact .inl rfl | (simp at h; done) | (simp at h; omega)) _))) (fun hHeld => ?_)
              clear hK K
              (try simp only [Act.put, List.getElem_toArray, List.getElem_cons_succ, List.getElem_cons_zero, List.setIfInBounds_toArray, List.set_cons_zero, List.set_cons_succ])
              refine wpAnyH_ready (rs := [8]) (by kernel_rfl) (by simp) ?_
              refine AllReadyH.cons rfl (fun K hK => ?_) AllReadyH.nil
              simp only [List.getElem_toArray, List.getElem_cons_succ, List.getElem_cons_zero]
              go_simp
              refine hK.out _ _ (HKK.out _ (by repeat (first | with_reducible exact Frm.refl _ _ | with_reducible exact F4 | with_reducible refine Frm.drew ?_ | with_reducible refine Frm.alloc ?_ _ | with_reducible refine Frm.setCell ?_ (fun h => by first | exact .inl rfl | (simp at h; done) | (simp at h; omega)) _))) (fun hHeld => ?_)
              clear hK K
              (try simp only [Act.put, List.getElem_toArray, List.getElem_cons_succ, List.getElem_cons_zero, List.setIfInBounds_toArray, List.set_cons_zero, List.set_cons_succ])
              refine wpAnyH_ready (rs := [9]) (by kernel_rfl) (by simp) ?_
              refine AllReadyH.cons rfl (fun K hK => ?_) AllReadyH.nil
              refine step_append_own rfl (.tmp 79) (.tmp 86) 42 42 rfl wD.heap.size 86 f0 _ 1 8 Try.underlying42 fi fz0 fz1 fz2 rfl (.slice vao j vc) j _ (by simp [Act.eval]) (((((Frm.refl No wr).alloc (.cells #[.float .f64 y] 86)).drew).row HOM.out (fun _ _ h => h))) (.slice (some ⟨wr.heap.size, 0, none⟩) 1 1) 1 [.float .f64 y] (by simp [Act.eval]) (src_new Try.underlying42 rfl) (by unfold maxLen; omega) (by omega) (by simp; omega) ?_
              intro v4 w4 hown4 hf4 hv4
              obtain ⟨ao4, c4, rfl⟩ := ownsRow_shape hown4
              have bA4 := (HBA.out.no (((Frm.refl No wr).alloc (.cells #[.float .f64 y] 86)).drew)).other hf4 (fun e => by have := (HOM.out.lt A e).1; omega) (fun q hq => by have := (HOM.out.lt q hq).1; omega)
              have kA : w4.cell? ⟨A, 6, none⟩ = some (.slice vao j vc) := bA4.cell 6
              have zA : w4.frozen? ⟨A, 6, none⟩ = false := bA4.fr 6
              have F4 : Frm (fun q => q = A ∨ Own (.slice vao j vc) q) wr w4 := ((((Frm.refl No wr).alloc (.cells #[.float .f64 y] 86)).drew).any.then_ hf4).weak (fun _ _ h => .inr h)
              refine hK.out _ _ (HKK.out _ (by repeat (first | with_reducible exact Frm.refl _ _ | with_reducible exact F4 | with_reducible refine Frm.drew ?_ | with_reducible refine Frm.alloc ?_ _ | with_reducible refine Frm.setCell ?_ (fun h => by first | exact .inl rfl | (simp at h; done) | (simp at h; omega)) _))) (fun hHeld => ?_)
              clear hK K
              (try simp only [Act.put, List.getElem_toArray, List.getElem_cons_succ, List.getElem_cons_zero, List.setIfInBounds_toArray, List.set_cons_zero, List.set_cons_succ])
              refine wpAnyH_take (i := 10) (oi := _) (v := _) rfl (by kernel_rfl) (by kernel_rfl) (by kernel_rfl) (fun _ _ _ h => h) (Or.inl ⟨by rfl, by intro w hSw; (try dsimp only at hSw); go_simp; all_goals with_reducible rfl⟩) (by assumption) ?_
              simp only [Act.put, List.getElem_toArray, List.getElem_cons_succ, List.getElem_cons_zero, List.setIfInBounds_toArray, List.set_cons_zero, List.set_cons_succ]
              refine wpAnyH_ready (rs := [11]) (by kernel_rfl) (by simp) ?_
              refine AllReadyH.cons rfl (fun K hK => ?_) AllReadyH.nil
              simp only [List.getElem_toArray, List.getElem_cons_succ, List.getElem_cons_zero]
              go_simp
              refine hK.out _ _ (HKK.out _ (by repeat (first | with_reducible exact Frm.refl _ _ | with_reducible exact F4 | with_reducible refine Frm.drew ?_ | with_reducible refine Frm.alloc ?_ _ | with_reducible refine Frm.setCell ?_ (fun h => by first | exact .inl rfl | (simp at h; done) | (simp at h; omega)) _))) (fun hHeld => ?_)
              clear hK K
              (try simp only [Act.put, List.getElem_toArray, List.getElem_cons_succ, List.getElem_cons_zero, List.setIfInBounds_toArray, List.set_cons_zero, List.set_cons_succ])
              refine wpAnyH_done (by kernel_rfl) ?_ _
              go_wp2_with fail
              have bA5 := bA4.set 6 (by simp) (.slice ao4 (j + 1) c4)
              have bB5 := ((HBB.out.no (((Frm.refl No wr).alloc (.cells #[.float .f64 y] 86)).drew)).other hf4 (fun e => by have := (HOM.out.lt B e).1; omega) (fun q hq => by have := (HOM.out.lt q hq).1; omega)).setOther hA0 (by omega) 6 (.slice ao4 (j + 1) c4)
              have r5 := (setCell_none (w := w4) (B := A) (j := 6) (.slice ao4 (j + 1) c4)).row hown4 (fun q hq e => by have e : q = A := e; have := (hown4.lt q hq).1; omega)
              have t5 := (setCell_none (w := w4) (B := A) (j := 6) (.slice ao4 (j + 1) c4)).row (hf4.row ((((Frm.refl No wr).alloc (.cells #[.float .f64 y] 86)).drew).row HTT.out (fun _ _ h => h)) (fun q hq e => by have := (HTL.out q hq); have := (HOM.out.lt q e).1; omega)) (fun q hq e => by have e : q = A := e; have := (HTT.out.lt q hq).1; omega)
              have z5 := F4.size
              refine ⟨⟨j + 1, _, by omega, by omega, by go_num, bA5, bB5, t5, ?_, ?_⟩, by simp only [intOf]; omega⟩
              · rw [HS.out]
                exact r5
              · have := (setCell_none (w := w4) (B := A) (j := 6) (.slice ao4 (j + 1) c4)).size
                omega
            · simp only [List.getElem_toArray, List.getElem_cons_succ, List.getElem_cons_zero]
              go_simp
              refine hK.out _ _ (HKK.out _ (by repeat (first | with_reducible exact Frm.refl _ _ | with_reducible exact F4 | with_reducible refine Frm.drew ?_ | with_reducible refine Frm.alloc ?_ _ | with_reducible refine Frm.setCell ?_ (fun h => by first | exact .inl rfl | (simp at h; done) | (simp at h; omega)) _))) (fun hHeld => ?_)
              clear hK K
              (try simp only [Act.put, List.getElem_toArray, List.getElem_cons_succ, List.getElem_cons_zero, List.setIfInBounds_toArray, List.set_cons_zero, List.set_cons_succ])
              refine wpAnyH_ready (rs := [1, 8]) (by kernel_rfl) (by simp) ?_
              refine AllReadyH.cons rfl (fun K hK => ?_) (AllReadyH.cons rfl (fun K hK => ?_) AllReadyH.nil)
              · simp only [List.getElem_toArray, List.getElem_cons_succ, List.getElem_cons_zero]
                go_simp
                refine hK.out _ _ (HKK.out _ (by repeat (first | with_reducible exact Frm.refl _ _ | with_reducible exact F4 | with_reducible refine Frm.drew ?_ | with_reducible refine Frm.alloc ?_ _ | with_reducible refine Frm.setCell ?_ (fun h => by first | exact .inl rfl | (simp at h; done) | (simp at h; omega)) _))) (fun hHeld => ?_)
                clear hK K
                (try simp only [Act.put, List.getElem_toArray, List.getElem_cons_succ, List.getElem_cons_zero, List.setIfInBounds_toArray, List.set_cons_zero, List.set_cons_succ])
                refine wpAnyH_ready (rs := [8]) (by kernel_rfl) (by simp) ?_
                refine AllReadyH.cons rfl (fun K hK => ?_) AllReadyH.nil
                simp only [List.getElem_toArray, List.getElem_cons_succ, List.getElem_cons_zero]
                go_simp
                refine hK.out _ _ (HKK.out _ (by repeat (first | with_reducible exact Frm.refl _ _ | with_reducible exact F4 | with_reducible refine Frm.drew ?_ | with_reducible refine Frm.alloc ?_ _ | with_reducible refine Frm.setCell ?_ (fun h => by first | exact .inl rfl | (simp at h; done) | (simp at h; omega)) _))) (fun hHeld => ?_)
                clear hK K
                (try simp only [Act.put, List.getElem_toArray, List.getElem_cons_succ, List.getElem_cons_zero, List.setIfInBounds_toArray, List.set_cons_zero, List.set_cons_succ])
                refine wpAnyH_ready (rs := [9]) (by kernel_rfl) (by simp) ?_
                refine AllReadyH.cons rfl (fun K hK => ?_) AllReadyH.nil
                refine step_append_own rfl (.tmp 79) (.tmp 86) 42 42 rfl wD.heap.size 86 f0 _ 1 8 Try.underlying42 fi fz0 fz1 fz2 rfl (.slice vao j vc) j _ (by simp [Act.eval]) (((((Frm.refl No wr).alloc (.cells #[.float .f64 y] 86)).drew).row HOM.out (fun _ _ h => h))) (.slice (some ⟨wr.heap.size, 0, none⟩) 1 1) 1 [.float .f64 y] (by simp [Act.eval]) (src_new Try.underlying42 rfl) (by unfold maxLen; omega) (by omega) (by simp; omega) ?_
                intro v4 w4 hown4 hf4 hv4
                obtain ⟨ao4, c4, rfl⟩ := ownsRow_shape hown4
                have bA4 := (HBA.out.no (((Frm.refl No wr).alloc (.cells #[.float .f64 y] 86)).drew)).other hf4 (fun e => by have := (HOM.out.lt A e).1; omega) (fun q hq => by have := (HOM.out.lt q hq).1; omega)
                have kA : w4.cell? ⟨A, 6, none⟩ = some (.slice vao j vc) := bA4.cell 6
                have zA : w4.frozen? ⟨A, 6, none⟩ = false := bA4.fr 6
                have F4 : Frm (fun q => q = A ∨ Own (.slice vao j vc) q) wr w4 := ((((Frm.refl No wr).alloc (.cells #[.float .f64 y] 86)).drew).any.then_ hf4).weak (fun _ _ h => .inr h)
                refine hK.out _ _ (HKK.out _ (by repeat (first | with_reducible exact Frm.refl _ _ | with_reducible exact F4 | with_reducible refine Frm.drew ?_ | with_reducible refine Frm.alloc ?_ _ | with_reducible refine Frm.setCell ?_ (fun h => by first | exact .inl rfl | (simp at h; done) | (simp at h; omega)) _))) (fun hHeld => ?_)
                clear hK K
                (try simp only [Act.put, List.getElem_toArray, List.getElem_cons_succ, List.getElem_cons_zero, List.setIfInBounds_toArray, List.set_cons_zero, List.set_cons_succ])
                refine wpAnyH_take (i := 10) (oi := _) (v := _) rfl (by kernel_rfl) (by kernel_rfl) (by kernel_rfl) (fun _ _ _ h => h) (Or.inl ⟨by rfl, by intro w hSw; (try dsimp only at hSw); go_simp; all_goals with_reducible rfl⟩) (by assumption) ?_
                simp only [Act.put, List.getElem_toArray, List.getElem_cons_succ, List.getElem_cons_zero, List.setIfInBounds_toArray, List.set_cons_zero, List.set_cons_succ]
                refine wpAnyH_ready (rs := [11]) (by kernel_rfl) (by simp) ?_
                refine AllReadyH.cons rfl (fun K hK => ?_) AllReadyH.nil
                simp only [List.getElem_toArray, List.getElem_cons_succ, List.getElem_cons_zero]
                go_simp
                refine hK.out _ _ (HKK.out _ (by repeat (first | with_reducible exact Frm.refl _ _ | with_reducible exact F4 | with_reducible refine Frm.drew ?_ | with_reducible refine Frm.alloc ?_ _ | with_reducible refine Frm.setCell ?_ (fun h => by first | exact .inl rfl | (simp at h; done) | (simp at h; omega)) _))) (fun hHeld => ?_)
                clear hK K
                (try simp only [Act.put, List.getElem_toArray, List.getElem_cons_succ, List.getElem_cons_zero, List.setIfInBounds_toArray, List.set_cons_zero, List.set_cons_succ])
                refine wpAnyH_done (by kernel_rfl) ?_ _
                go_wp2_with fail
                have bA5 := bA4.set 6 (by simp) (.slice ao4 (j + 1) c4)
                have bB5 := ((HBB.out.no (((Frm.refl No wr).alloc (.cells #[.float .f64 y] 86)).drew)).other hf4 (fun e => by have := (HOM.out.lt B e).1; omega) (fun q hq => by have := (HOM.out.lt q hq).1; omega)).setOther hA0 (by omega) 6 (.slice ao4 (j + 1) c4)
                have r5 := (setCell_none (w := w4) (B := A) (j := 6) (.slice ao4 (j + 1) c4)).row hown4 (fun q hq e => by have e : q = A := e; have := (hown4.lt q hq).1; omega)
                have t5 := (setCell_none (w := w4) (B := A) (j := 6) (.slice ao4 (j + 1) c4)).row (hf4.row ((((Frm.refl No wr).alloc (.cells #[.float .f64 y] 86)).drew).row HTT.out (fun _ _ h => h)) (fun q hq e => by have := (HTL.out q hq); have := (HOM.out.lt q e).1; omega)) (fun q hq e => by have e : q = A := e; have := (HTT.out.lt q hq).1; omega)
                have z5 := F4.size
                refine ⟨⟨j + 1, _, by omega, by omega, by go_num, bA5, bB5, t5, ?_, ?_⟩, by simp only [intOf]; omega⟩
                · rw [HS.out]
                  exact r5
                · have := (setCell_none (w := w4) (B := A) (j := 6) (.slice ao4 (j + 1) c4)).size
                  omega
              · simp only [List.getElem_toArray, List.getElem_cons_succ, List.getElem_cons_zero]
                go_simp
                refine hK.out _ _ (HKK.out _ (by repeat (first | with_reducible exact Frm.refl _ _ | with_reducible exact F4 | with_reducible refine Frm.drew ?_ | with_reducible refine Frm.alloc ?_ _ | with_reducible refine Frm.setCell ?_ (fun h => by first | exact .inl rfl | (simp at h; done) | (simp at h; omega)) _))) (fun hHeld => ?_)
                clear hK K
                (try simp only [Act.put, List.getElem_toArray, List.getElem_cons_succ, List.getElem_cons_zero, List.setIfInBounds_toArray, List.set_cons_zero, List.set_cons_succ])
                refine wpAnyH_ready (rs := [1]) (by kernel_rfl) (by simp) ?_
                refine AllReadyH.cons rfl (fun K hK => ?_) AllReadyH.nil
                simp only [List.getElem_toArray, List.getElem_cons_succ, List.getElem_cons_zero]
                go_simp
                refine hK.out _ _ (HKK.out _ (by repeat (first | with_reducible exact Frm.refl _ _ | with_reducible exact F4 | with_reducible refine Frm.drew ?_ | with_reducible refine Frm.alloc ?_ _ | with_reducible refine Frm.setCell ?_ (fun h => by first | exact .inl rfl | (simp at h; done) | (simp at h; omega)) _))) (fun hHeld => ?_)
                clear hK K
                (try simp only [Act.put, List.getElem_toArray, List.getElem_cons_succ, List.getElem_cons_zero, List.setIfInBounds_toArray, List.set_cons_zero, List.set_cons_succ])
                refine wpAnyH_ready (rs := [9]) (by kernel_rfl) (by simp) ?_
                refine AllReadyH.cons rfl (fun K hK => ?_) AllReadyH.nil
                refine step_append_own rfl (.tmp 79) (.tmp 86) 42 42 rfl wD.heap.size 86 f0 _ 1 8 Try.underlying42 fi fz0 fz1 fz2 rfl (.slice vao j vc) j _ (by simp [Act.eval]) (((((Frm.refl No wr).alloc (.cells #[.float .f64 y] 86)).drew).row HOM.out (fun _ _ h => h))) (.slice (some ⟨wr.heap.size, 0, none⟩) 1 1) 1 [.float .f64 y] (by simp [Act.eval]) (src_new Try.underlying42 rfl) (by unfold maxLen; omega) (by omega) (by simp; omega) ?_
                intro v4 w4 hown4 hf4 hv4
                obtain ⟨ao4, c4, rfl⟩ := ownsRow_shape hown4
                have bA4 := (HBA.out.no (((Frm.refl No wr).alloc (.cells #[.float .f64 y] 86)).drew)).other hf4 (fun e => by have := (HOM.out.lt A e).1; omega) (fun q hq => by have := (HOM.out.lt q hq).1; omega)
                have kA : w4.cell? ⟨A, 6, none⟩ = some (.slice vao j vc) := bA4.cell 6
                have zA : w4.frozen? ⟨A, 6, none⟩ = false := bA4.fr 6
                have F4 : Frm (fun q => q = A ∨ Own (.slice vao j vc) q) wr w4 := ((((Frm.refl No wr).alloc (.cells #[.float .f64 y] 86)).drew).any.then_ hf4).weak (fun _ _ h => .inr h)
                refine hK.out _ _ (HKK.out _ (by repeat (first | with_reducible exact Frm.refl _ _ | with_reducible exact F4 | with_reducible refine Frm.drew ?_ | with_reducible refine Frm.alloc ?_ _ | with_reducible refine Frm.setCell ?_ (fun h => by first | exact .inl rfl | (simp at h; done) | (simp at h; omega)) _))) (fun hHeld => ?_)
                clear hK K
                (try simp only [Act.put, List.getElem_toArray, List.getElem_cons_succ, List.getElem_cons_zero, List.setIfInBounds_toArray, List.set_cons_zero, List.set_cons_succ])
                refine wpAnyH_take (i := 10) (oi := _) (v := _) rfl (by kernel_rfl) (by kernel_rfl) (by kernel_rfl) (fun _ _ _ h => h) (Or.inl ⟨by rfl, by intro w hSw; (try dsimp only at hSw); go_simp; all_goals with_reducible rfl⟩) (by assumption) ?_
                simp only [Act.put, List.getElem_toArray, List.getElem_cons_succ, List.getElem_cons_zero, List.setIfInBounds_toArray, List.set_cons_zero, List.set_cons_succ]
                refine wpAnyH_ready (rs := [11]) (by kernel_rfl) (by simp) ?_
                refine AllReadyH.cons rfl (fun K hK => ?_) AllReadyH.nil
                simp only [List.getElem_toArray, List.getElem_cons_succ, List.getElem_cons_zero]
                go_simp
                refine hK.out _ _ (HKK.out _ (by repeat (first | with_reducible exact Frm.refl _ _ | with_reducible exact F4 | with_reducible refine Frm.drew ?_ | with_reducible refine Frm.alloc ?_ _ | with_reducible refine Frm.setCell ?_ (fun h => by first | exact .inl rfl | (simp at h; done) | (simp at h; omega)) _))) (fun hHeld => ?_)
                clear hK K
                (try simp only [Act.put, List.getElem_toArray, List.getElem_cons_succ, List.getElem_cons_zero, List.setIfInBounds_toArray, List.set_cons_zero, List.set_cons_succ])
                refine wpAnyH_done (by kernel_rfl) ?_ _
                go_wp2_with fail
                have bA5 := bA4.set 6 (by simp) (.slice ao4 (j + 1) c4)
                have bB5 := ((HBB.out.no (((Frm.refl No wr).alloc (.cells #[.float .f64 y] 86)).drew)).other hf4 (fun e => by have := (HOM.out.lt B e).1; omega) (fun q hq => by have := (HOM.out.lt q hq).1; omega)).setOther hA0 (by omega) 6 (.slice ao4 (j + 1) c4)
                have r5 := (setCell_none (w := w4) (B := A) (j := 6) (.slice ao4 (j + 1) c4)).row hown4 (fun q hq e => by have e : q = A := e; have := (hown4.lt q hq).1; omega)
                have t5 := (setCell_none (w := w4) (B := A) (j := 6) (.slice ao4 (j + 1) c4)).row (hf4.row ((((Frm.refl No wr).alloc (.cells #[.float .f64 y] 86)).drew).row HTT.out (fun _ _ h => h)) (fun q hq e => by have := (HTL.out q hq); have := (HOM.out.lt q e).1; omega)) (fun q hq e => by have e : q = A := e; have := (HTT.out.lt q hq).1; omega)
                have z5 := F4.size
                refine ⟨⟨j + 1, _, by omega, by omega, by go_num, bA5, bB5, t5, ?_, ?_⟩, by simp only [intOf]; omega⟩
                · rw [HS.out]
                  exact r5
                · have := (setCell_none (w := w4) (B := A) (j := 6) (.slice ao4 (j + 1) c4)).size
                  omega
          · have hlen : (marks.take 50).length = j := by rw [List.length_take]; omega
            rw [List.take_of_length_le (by omega)] at hom
            have HH := hid (⟨bA, bB, hT, hom⟩ : _ ∧ _ ∧ _ ∧ _)
            have HLN := hid hlen
            clear hlen hom hT
            by_cases hjl : j < marks.length
            · have hj5 : ¬ j < 50 := fun h => hgo ⟨hjl, h⟩
              have hjz : (j : Int) < (marks.length : Int) := by omega
              have hj5z : ¬ (j : Int) < 50 := by omega
              go_wp2_with fail
              go_meet
              exact ⟨_, HH.out.1, HH.out.2.1, HH.out.2.2.1, by rw [HLN.out]; exact HH.out.2.2.2⟩
            · have hjz : ¬ (j : Int) < (marks.length : Int) := by omega
              go_wp2_with fail
              go_meet
              exact ⟨_, HH.out.1, HH.out.2.1, HH.out.2.2.1, by rw [HLN.out]; exact HH.out.2.2.2⟩
      case rest =>
        clear HA HB HT HRM
        obtain ⟨ma, bA, bB, rT, rM⟩ := hcut
        generalize hmx : marks.take 50 = mx at *
        have HMX := hid hmx
        clear hmx
        obtain ⟨vao, vc, rfl⟩ := ownsRow_shape rM
        have kA : wc.cell? ⟨A, 6, none⟩ = some (.slice vao mx.length vc) := bA.cell 6
        have kB : wc.cell? ⟨B, 6, none⟩ = some (.slice none 0 0) := bB.cell 6
        have zB : wc.frozen? ⟨B, 6, none⟩ = false := bB.fr 6
        have bA7 := bA.setOther hB0 (show A ≠ B by omega) 6 (.slice vao mx.length vc)
        have bB7 := bB.set 6 (by simp) (.slice vao mx.length vc)
        have rT7 := (setCell_none (w := wc) (B := B) (j := 6) (.slice vao mx.length vc)).row rT (fun q hq e => by have e : q = B := e; have := (rT.lt q hq).1; omega)
        have rM7 := (setCell_none (w := wc) (B := B) (j := 6) (.slice vao mx.length vc)).row rM (fun q hq e => by have e : q = B := e; have := (rM.lt q hq).1; omega)
        have R1 := HR1.out.no bA7.frm
        have R2 := HR2.out.no bA7.frm
        have hzD := bA.frm.size
        clear bA bB rT rM HR1 HR2 HX HF3 H3 H5 hcx
        go_upto_region 13 with (first | fail)
        generalize wc.setCell ⟨B, 6, none⟩ (.slice vao mx.length vc) = wE at *
        clear kA kB zB
        have HTA : Hid (∀ q, Value.ownBlock (.slice uao tx.length uc) = some q → ¬ (q = r1 ∨ q = r2)) := hid fun q hq e => by
          have := (rT7.lt q hq).1
          omega
        have HMA : Hid (∀ q, Value.ownBlock (.slice vao mx.length vc) = some q → ¬ (q = r1 ∨ q = r2)) := hid fun q hq e => by
          have := (rM7.lt q hq).1
          omega
        have HT := hid rT7
        have HM := hid rM7
        clear rT7 rM7
        have HKE : Hid (∀ w', Frm (fun q => q = r1 ∨ q = r2) wE w' → w'.cell? ⟨A, 0, none⟩ = some (.int .i64 k) ∧ w'.cell? ⟨A, 1, none⟩ = some (.int .i64 line) ∧ w'.cell? ⟨A, 2, none⟩ = some (.int .i64 col) ∧ w'.cell? ⟨A, 3, none⟩ = some (.int .i64 count) ∧ w'.cell? ⟨A, 4, none⟩ = some (.string ⟨cx.toArray⟩) ∧ w'.cell? ⟨A, 5, none⟩ = some (.slice uao tx.length uc) ∧ w'.cell? ⟨A, 6, none⟩ = some (.slice vao mx.length vc) ∧ w'.cell? ⟨B, 0, none⟩ = some (.int .i64 k) ∧ w'.cell? ⟨B, 1, none⟩ = some (.int .i64 line) ∧ w'.cell? ⟨B, 2, none⟩ = some (.int .i64 col) ∧ w'.cell? ⟨B, 3, none⟩ = some (.int .i64 count) ∧ w'.cell? ⟨B, 4, none⟩ = some (.string ⟨cx.toArray⟩) ∧ w'.cell? ⟨B, 5, none⟩ = some (.slice uao tx.length uc) ∧ w'.cell? ⟨B, 6, none⟩ = some (.slice vao mx.length vc)) := hid fun w' hf => ⟨(hf.cell (p := ⟨A, 0, none⟩) bA7.lC (fun h => by rcases h with h | h <;> (simp only at h; omega))).trans (bA7.cell 0), (hf.cell (p := ⟨A, 1, none⟩) bA7.lC (fun h => by rcases h with h | h <;> (simp only at h; omega))).trans (bA7.cell 1), (hf.cell (p := ⟨A, 2, none⟩) bA7.lC (fun h => by rcases h with h | h <;> (simp only at h; omega))).trans (bA7.cell 2), (hf.cell (p := ⟨A, 3, none⟩) bA7.lC (fun h => by rcases h with h | h <;> (simp only at h; omega))).trans (bA7.cell 3), (hf.cell (p := ⟨A, 4, none⟩) bA7.lC (fun h => by rcases h with h | h <;> (simp only at h; omega))).trans (bA7.cell 4), (hf.cell (p := ⟨A, 5, none⟩) bA7.lC (fun h => by rcases h with h | h <;> (simp only at h; omega))).trans (bA7.cell 5), (hf.cell (p := ⟨A, 6, none⟩) bA7.lC (fun h => by rcases h with h | h <;> (simp only at h; omega))).trans (bA7.cell 6), (hf.cell (p := ⟨B, 0, none⟩) bB7.lC (fun h => by rcases h with h | h <;> (simp only at h; omega))).trans (bB7.cell 0), (hf.cell (p := ⟨B, 1, none⟩) bB7.lC (fun h => by rcases h with h | h <;> (simp only at h; omega))).trans (bB7.cell 1), (hf.cell (p := ⟨B, 2, none⟩) bB7.lC (fun h => by rcases h with h | h <;> (simp only at h; omega))).trans (bB7.cell 2), (hf.cell (p := ⟨B, 3, none⟩) bB7.lC (fun h => by rcases h with h | h <;> (simp only at h; omega))).trans (bB7.cell 3), (hf.cell (p := ⟨B, 4, none⟩) bB7.lC (fun h => by rcases h with h | h <;> (simp only at h; omega))).trans (bB7.cell 4), (hf.cell (p := ⟨B, 5, none⟩) bB7.lC (fun h => by rcases h with h | h <;> (simp only at h; omega))).trans (bB7.cell 5), (hf.cell (p := ⟨B, 6, none⟩) bB7.lC (fun h => by rcases h with h | h <;> (simp only at h; omega))).trans (bB7.cell 6)⟩
        have hr1w : w.heap.size ≤ r2 := by omega
        have hr2w : w.heap.size ≤ r1 := by omega
        have hr12 : r1 ≠ r2 := by omega
        have hr21 : r2 ≠ r1 := by omega
        have O2 := R2.other7 hr2w hr21 (.int .i64 k) (.int .i64 line) (.int .i64 col) (.int .i64 count) (.string ⟨cx.toArray⟩) (.slice uao tx.length uc) (.slice vao mx.length vc)
        have O1 := R1.other7 hr1w hr12 (.int .i64 k) (.int .i64 line) (.int .i64 col) (.int .i64 count) (.string ⟨cx.toArray⟩) (.slice uao tx.length uc) (.slice vao mx.length vc)
        clear bA7 bB7
        have c10 : wE.cell? ⟨r1, 0, none⟩ = some (.int .i64 0) := R1.cell 0
        have f10 : wE.frozen? ⟨r1, 0, none⟩ = false := R1.fr 0
        have c11 : wE.cell? ⟨r1, 1, none⟩ = some (.int .i64 0) := R1.cell 1
        have f11 : wE.frozen? ⟨r1, 1, none⟩ = false := R1.fr 1
        have c12 : wE.cell? ⟨r1, 2, none⟩ = some (.int .i64 0) := R1.cell 2
        have f12 : wE.frozen? ⟨r1, 2, none⟩ = false := R1.fr 2
        have c13 : wE.cell? ⟨r1, 3, none⟩ = some (.int .i64 0) := R1.cell 3
        have f13 : wE.frozen? ⟨r1, 3, none⟩ = false := R1.fr 3
        have c14 : wE.cell? ⟨r1, 4, none⟩ = some (.string ⟨#[]⟩) := R1.cell 4
        have f14 : wE.frozen? ⟨r1, 4, none⟩ = false := R1.fr 4
        have c15 : wE.cell? ⟨r1, 5, none⟩ = some (.slice none 0 0) := R1.cell 5
        have f15 : wE.frozen? ⟨r1, 5, none⟩ = false := R1.fr 5
        have c16 : wE.cell? ⟨r1, 6, none⟩ = some (.slice none 0 0) := R1.cell 6
        have f16 : wE.frozen? ⟨r1, 6, none⟩ = false := R1.fr 6
        have c20 : wE.cell? ⟨r2, 0, none⟩ = some (.int .i64 0) := R2.cell 0
        have f20 : wE.frozen? ⟨r2, 0, none⟩ = false := R2.fr 0
        have c21 : wE.cell? ⟨r2, 1, none⟩ = some (.int .i64 0) := R2.cell 1
        have f21 : wE.frozen? ⟨r2, 1, none⟩ = false := R2.fr 1
        have c22 : wE.cell? ⟨r2, 2, none⟩ = some (.int .i64 0) := R2.cell 2
        have f22 : wE.frozen? ⟨r2, 2, none⟩ = false := R2.fr 2
        have c23 : wE.cell? ⟨r2, 3, none⟩ = some (.int .i64 0) := R2.cell 3
        have f23 : wE.frozen? ⟨r2, 3, none⟩ = false := R2.fr 3
        have c24 : wE.cell? ⟨r2, 4, none⟩ = some (.string ⟨#[]⟩) := R2.cell 4
        have f24 : wE.frozen? ⟨r2, 4, none⟩ = false := R2.fr 4
        have c25 : wE.cell? ⟨r2, 5, none⟩ = some (.slice none 0 0) := R2.cell 5
        have f25 : wE.frozen? ⟨r2, 5, none⟩ = false := R2.fr 5
        have c26 : wE.cell? ⟨r2, 6, none⟩ = some (.slice none 0 0) := R2.cell 6
        have f26 : wE.frozen? ⟨r2, 6, none⟩ = false := R2.fr 6
        have d20 : (((((((wE.setCell ⟨r1, 0, none⟩ (.int .i64 k)).setCell ⟨r1, 1, none⟩ (.int .i64 line)).setCell ⟨r1, 2, none⟩ (.int .i64 col)).setCell ⟨r1, 3, none⟩ (.int .i64 count)).setCell ⟨r1, 4, none⟩ (.string ⟨cx.toArray⟩)).setCell ⟨r1, 5, none⟩ (.slice uao tx.length uc)).setCell ⟨r1, 6, none⟩ (.slice vao mx.length vc)).cell? ⟨r2, 0, none⟩ = some (.int .i64 0) := O2.cell 0
        have e20 : (((((((wE.setCell ⟨r1, 0, none⟩ (.int .i64 k)).setCell ⟨r1, 1, none⟩ (.int .i64 line)).setCell ⟨r1, 2, none⟩ (.int .i64 col)).setCell ⟨r1, 3, none⟩ (.int .i64 count)).setCell ⟨r1, 4, none⟩ (.string ⟨cx.toArray⟩)).setCell ⟨r1, 5, none⟩ (.slice uao tx.length uc)).setCell ⟨r1, 6, none⟩ (.slice vao mx.length vc)).frozen? ⟨r2, 0, none⟩ = false := O2.fr 0
        have d21 : (((((((wE.setCell ⟨r1, 0, none⟩ (.int .i64 k)).setCell ⟨r1, 1, none⟩ (.int .i64 line)).setCell ⟨r1, 2, none⟩ (.int .i64 col)).setCell ⟨r1, 3, none⟩ (.int .i64 count)).setCell ⟨r1, 4, none⟩ (.string ⟨cx.toArray⟩)).setCell ⟨r1, 5, none⟩ (.slice uao tx.length uc)).setCell ⟨r1, 6, none⟩ (.slice vao mx.length vc)).cell? ⟨r2, 1, none⟩ = some (.int .i64 0) := O2.cell 1
        have e21 : (((((((wE.setCell ⟨r1, 0, none⟩ (.int .i64 k)).setCell ⟨r1, 1, none⟩ (.int .i64 line)).setCell ⟨r1, 2, none⟩ (.int .i64 col)).setCell ⟨r1, 3, none⟩ (.int .i64 count)).setCell ⟨r1, 4, none⟩ (.string ⟨cx.toArray⟩)).setCell ⟨r1, 5, none⟩ (.slice uao tx.length uc)).setCell ⟨r1, 6, none⟩ (.slice vao mx.length vc)).frozen? ⟨r2, 1, none⟩ = false := O2.fr 1
        have d22 : (((((((wE.setCell ⟨r1, 0, none⟩ (.int .i64 k)).setCell ⟨r1, 1, none⟩ (.int .i64 line)).setCell ⟨r1, 2, none⟩ (.int .i64 col)).setCell ⟨r1, 3, none⟩ (.int .i64 count)).setCell ⟨r1, 4, none⟩ (.string ⟨cx.toArray⟩)).setCell ⟨r1, 5, none⟩ (.slice uao tx.length uc)).setCell ⟨r1, 6, none⟩ (.slice vao mx.length vc)).cell? ⟨r2, 2, none⟩ = some (.int .i64 0) := O2.cell 2
        have e22 : (((((((wE.setCell ⟨r1, 0, none⟩ (.int .i64 k)).setCell ⟨r1, 1, none⟩ (.int .i64 line)).setCell ⟨r1, 2, none⟩ (.int .i64 col)).setCell ⟨r1, 3, none⟩ (.int .i64 count)).setCell ⟨r1, 4, none⟩ (.string ⟨cx.toArray⟩)).setCell ⟨r1, 5, none⟩ (.slice uao tx.length uc)).setCell ⟨r1, 6, none⟩ (.slice vao mx.length vc)).frozen? ⟨r2, 2, none⟩ = false := O2.fr 2
        have d23 : (((((((wE.setCell ⟨r1, 0, none⟩ (.int .i64 k)).setCell ⟨r1, 1, none⟩ (.int .i64 line)).setCell ⟨r1, 2, none⟩ (.int .i64 col)).setCell ⟨r1, 3, none⟩ (.int .i64 count)).setCell ⟨r1, 4, none⟩ (.string ⟨cx.toArray⟩)).setCell ⟨r1, 5, none⟩ (.slice uao tx.length uc)).setCell ⟨r1, 6, none⟩ (.slice vao mx.length vc)).cell? ⟨r2, 3, none⟩ = some (.int .i64 0) := O2.cell 3
        have e23 : (((((((wE.setCell ⟨r1, 0, none⟩ (.int .i64 k)).setCell ⟨r1, 1, none⟩ (.int .i64 line)).setCell ⟨r1, 2, none⟩ (.int .i64 col)).setCell ⟨r1, 3, none⟩ (.int .i64 count)).setCell ⟨r1, 4, none⟩ (.string ⟨cx.toArray⟩)).setCell ⟨r1, 5, none⟩ (.slice uao tx.length uc)).setCell ⟨r1, 6, none⟩ (.slice vao mx.length vc)).frozen? ⟨r2, 3, none⟩ = false := O2.fr 3
        have d24 : (((((((wE.setCell ⟨r1, 0, none⟩ (.int .i64 k)).setCell ⟨r1, 1, none⟩ (.int .i64 line)).setCell ⟨r1, 2, none⟩ (.int .i64 col)).setCell ⟨r1, 3, none⟩ (.int .i64 count)).setCell ⟨r1, 4, none⟩ (.string ⟨cx.toArray⟩)).setCell ⟨r1, 5, none⟩ (.slice uao tx.length uc)).setCell ⟨r1, 6, none⟩ (.slice vao mx.length vc)).cell? ⟨r2, 4, none⟩ = some (.string ⟨#[]⟩) := O2.cell 4
        have e24 : (((((((wE.setCell ⟨r1, 0, none⟩ (.int .i64 k)).setCell ⟨r1, 1, none⟩ (.int .i64 line)).setCell ⟨r1, 2, none⟩ (.int .i64 col)).setCell ⟨r1, 3, none⟩ (.int .i64 count)).setCell ⟨r1, 4, none⟩ (.string ⟨cx.toArray⟩)).setCell ⟨r1, 5, none⟩ (.slice uao tx.length uc)).setCell ⟨r1, 6, none⟩ (.slice vao mx.length vc)).frozen? ⟨r2, 4, none⟩ = false := O2.fr 4
        have d25 : (((((((wE.setCell ⟨r1, 0, none⟩ (.int .i64 k)).setCell ⟨r1, 1, none⟩ (.int .i64 line)).setCell ⟨r1, 2, none⟩ (.int .i64 col)).setCell ⟨r1, 3, none⟩ (.int .i64 count)).setCell ⟨r1, 4, none⟩ (.string ⟨cx.toArray⟩)).setCell ⟨r1, 5, none⟩ (.slice uao tx.length uc)).setCell ⟨r1, 6, none⟩ (.slice vao mx.length vc)).cell? ⟨r2, 5, none⟩ = some (.slice none 0 0) := O2.cell 5
        have e25 : (((((((wE.setCell ⟨r1, 0, none⟩ (.int .i64 k)).setCell ⟨r1, 1, none⟩ (.int .i64 line)).setCell ⟨r1, 2, none⟩ (.int .i64 col)).setCell ⟨r1, 3, none⟩ (.int .i64 count)).setCell ⟨r1, 4, none⟩ (.string ⟨cx.toArray⟩)).setCell ⟨r1, 5, none⟩ (.slice uao tx.length uc)).setCell ⟨r1, 6, none⟩ (.slice vao mx.length vc)).frozen? ⟨r2, 5, none⟩ = false := O2.fr 5
        have d26 : (((((((wE.setCell ⟨r1, 0, none⟩ (.int .i64 k)).setCell ⟨r1, 1, none⟩ (.int .i64 line)).setCell ⟨r1, 2, none⟩ (.int .i64 col)).setCell ⟨r1, 3, none⟩ (.int .i64 count)).setCell ⟨r1, 4, none⟩ (.string ⟨cx.toArray⟩)).setCell ⟨r1, 5, none⟩ (.slice uao tx.length uc)).setCell ⟨r1, 6, none⟩ (.slice vao mx.length vc)).cell? ⟨r2, 6, none⟩ = some (.slice none 0 0) := O2.cell 6
        have e26 : (((((((wE.setCell ⟨r1, 0, none⟩ (.int .i64 k)).setCell ⟨r1, 1, none⟩ (.int .i64 line)).setCell ⟨r1, 2, none⟩ (.int .i64 col)).setCell ⟨r1, 3, none⟩ (.int .i64 count)).setCell ⟨r1, 4, none⟩ (.string ⟨cx.toArray⟩)).setCell ⟨r1, 5, none⟩ (.slice uao tx.length uc)).setCell ⟨r1, 6, none⟩ (.slice vao mx.length vc)).frozen? ⟨r2, 6, none⟩ = false := O2.fr 6
        have d10 : (((((((wE.setCell ⟨r2, 0, none⟩ (.int .i64 k)).setCell ⟨r2, 1, none⟩ (.int .i64 line)).setCell ⟨r2, 2, none⟩ (.int .i64 col)).setCell ⟨r2, 3, none⟩ (.int .i64 count)).setCell ⟨r2, 4, none⟩ (.string ⟨cx.toArray⟩)).setCell ⟨r2, 5, none⟩ (.slice uao tx.length uc)).setCell ⟨r2, 6, none⟩ (.slice vao mx.length vc)).cell? ⟨r1, 0, none⟩ = some (.int .i64 0) := O1.cell 0
        have e10 : (((((((wE.setCell ⟨r2, 0, none⟩ (.int .i64 k)).setCell ⟨r2, 1, none⟩ (.int .i64 line)).setCell ⟨r2, 2, none⟩ (.int .i64 col)).setCell ⟨r2, 3, none⟩ (.int .i64 count)).setCell ⟨r2, 4, none⟩ (.string ⟨cx.toArray⟩)).setCell ⟨r2, 5, none⟩ (.slice uao tx.length uc)).setCell ⟨r2, 6, none⟩ (.slice vao mx.length vc)).frozen? ⟨r1, 0, none⟩ = false := O1.fr 0
        have d11 : (((((((wE.setCell ⟨r2, 0, none⟩ (.int .i64 k)).setCell ⟨r2, 1, none⟩ (.int .i64 line)).setCell ⟨r2, 2, none⟩ (.int .i64 col)).setCell ⟨r2, 3, none⟩ (.int .i64 count)).setCell ⟨r2, 4, none⟩ (.string ⟨cx.toArray⟩)).setCell ⟨r2, 5, none⟩ (.slice uao tx.length uc)).setCell ⟨r2, 6, none⟩ (.slice vao mx.length vc)).cell? ⟨r1, 1, none⟩ = some (.int .i64 0) := O1.cell 1
        have e11 : (((((((wE.setCell ⟨r2, 0, none⟩ (.int .i64 k)).setCell ⟨r2, 1, none⟩ (.int .i64 line)).setCell ⟨r2, 2, none⟩ (.int .i64 col)).setCell ⟨r2, 3, none⟩ (.int .i64 count)).setCell ⟨r2, 4, none⟩ (.string ⟨cx.toArray⟩)).setCell ⟨r2, 5, none⟩ (.slice uao tx.length uc)).setCell ⟨r2, 6, none⟩ (.slice vao mx.length vc)).frozen? ⟨r1, 1, none⟩ = false := O1.fr 1
        have d12 : (((((((wE.setCell ⟨r2, 0, none⟩ (.int .i64 k)).setCell ⟨r2, 1, none⟩ (.int .i64 line)).setCell ⟨r2, 2, none⟩ (.int .i64 col)).setCell ⟨r2, 3, none⟩ (.int .i64 count)).setCell ⟨r2, 4, none⟩ (.string ⟨cx.toArray⟩)).setCell ⟨r2, 5, none⟩ (.slice uao tx.length uc)).setCell ⟨r2, 6, none⟩ (.slice vao mx.length vc)).cell? ⟨r1, 2, none⟩ = some (.int .i64 0) := O1.cell 2
        have e12 : (((((((wE.setCell ⟨r2, 0, none⟩ (.int .i64 k)).setCell ⟨r2, 1, none⟩ (.int .i64 line)).setCell ⟨r2, 2, none⟩ (.int .i64 col)).setCell ⟨r2, 3, none⟩ (.int .i64 count)).setCell ⟨r2, 4, none⟩ (.string ⟨cx.toArray⟩)).setCell ⟨r2, 5, none⟩ (.slice uao tx.length uc)).setCell ⟨r2, 6, none⟩ (.slice vao mx.length vc)).frozen? ⟨r1, 2, none⟩ = false := O1.fr 2
        have d13 : (((((((wE.setCell ⟨r2, 0, none⟩ (.int .i64 k)).setCell ⟨r2, 1, none⟩ (.int .i64 line)).setCell ⟨r2, 2, none⟩ (.int .i64 col)).setCell ⟨r2, 3, none⟩ (.int .i64 count)).setCell ⟨r2, 4, none⟩ (.string ⟨cx.toArray⟩)).setCell ⟨r2, 5, none⟩ (.slice uao tx.length uc)).setCell ⟨r2, 6, none⟩ (.slice vao mx.length vc)).cell? ⟨r1, 3, none⟩ = some (.int .i64 0) := O1.cell 3
        have e13 : (((((((wE.setCell ⟨r2, 0, none⟩ (.int .i64 k)).setCell ⟨r2, 1, none⟩ (.int .i64 line)).setCell ⟨r2, 2, none⟩ (.int .i64 col)).setCell ⟨r2, 3, none⟩ (.int .i64 count)).setCell ⟨r2, 4, none⟩ (.string ⟨cx.toArray⟩)).setCell ⟨r2, 5, none⟩ (.slice uao tx.length uc)).setCell ⟨r2, 6, none⟩ (.slice vao mx.length vc)).frozen? ⟨r1, 3, none⟩ = false := O1.fr 3
        have d14 : (((((((wE.setCell ⟨r2, 0, none⟩ (.int .i64 k)).setCell ⟨r2, 1, none⟩ (.int .i64 line)).setCell ⟨r2, 2, none⟩ (.int .i64 col)).setCell ⟨r2, 3, none⟩ (.int .i64 count)).setCell ⟨r2, 4, none⟩ (.string ⟨cx.toArray⟩)).setCell ⟨r2, 5, none⟩ (.slice uao tx.length uc)).setCell ⟨r2, 6, none⟩ (.slice vao mx.length vc)).cell? ⟨r1, 4, none⟩ = some (.string ⟨#[]⟩) := O1.cell 4
        have e14 : (((((((wE.setCell ⟨r2, 0, none⟩ (.int .i64 k)).setCell ⟨r2, 1, none⟩ (.int .i64 line)).setCell ⟨r2, 2, none⟩ (.int .i64 col)).setCell ⟨r2, 3, none⟩ (.int .i64 count)).setCell ⟨r2, 4, none⟩ (.string ⟨cx.toArray⟩)).setCell ⟨r2, 5, none⟩ (.slice uao tx.length uc)).setCell ⟨r2, 6, none⟩ (.slice vao mx.length vc)).frozen? ⟨r1, 4, none⟩ = false := O1.fr 4
        have d15 : (((((((wE.setCell ⟨r2, 0, none⟩ (.int .i64 k)).setCell ⟨r2, 1, none⟩ (.int .i64 line)).setCell ⟨r2, 2, none⟩ (.int .i64 col)).setCell ⟨r2, 3, none⟩ (.int .i64 count)).setCell ⟨r2, 4, none⟩ (.string ⟨cx.toArray⟩)).setCell ⟨r2, 5, none⟩ (.slice uao tx.length uc)).setCell ⟨r2, 6, none⟩ (.slice vao mx.length vc)).cell? ⟨r1, 5, none⟩ = some (.slice none 0 0) := O1.cell 5
        have e15 : (((((((wE.setCell ⟨r2, 0, none⟩ (.int .i64 k)).setCell ⟨r2, 1, none⟩ (.int .i64 line)).setCell ⟨r2, 2, none⟩ (.int .i64 col)).setCell ⟨r2, 3, none⟩ (.int .i64 count)).setCell ⟨r2, 4, none⟩ (.string ⟨cx.toArray⟩)).setCell ⟨r2, 5, none⟩ (.slice uao tx.length uc)).setCell ⟨r2, 6, none⟩ (.slice vao mx.length vc)).frozen? ⟨r1, 5, none⟩ = false := O1.fr 5
        have d16 : (((((((wE.setCell ⟨r2, 0, none⟩ (.int .i64 k)).setCell ⟨r2, 1, none⟩ (.int .i64 line)).setCell ⟨r2, 2, none⟩ (.int .i64 col)).setCell ⟨r2, 3, none⟩ (.int .i64 count)).setCell ⟨r2, 4, none⟩ (.string ⟨cx.toArray⟩)).setCell ⟨r2, 5, none⟩ (.slice uao tx.length uc)).setCell ⟨r2, 6, none⟩ (.slice vao mx.length vc)).cell? ⟨r1, 6, none⟩ = some (.slice none 0 0) := O1.cell 6
        have e16 : (((((((wE.setCell ⟨r2, 0, none⟩ (.int .i64 k)).setCell ⟨r2, 1, none⟩ (.int .i64 line)).setCell ⟨r2, 2, none⟩ (.int .i64 col)).setCell ⟨r2, 3, none⟩ (.int .i64 count)).setCell ⟨r2, 4, none⟩ (.string ⟨cx.toArray⟩)).setCell ⟨r2, 5, none⟩ (.slice uao tx.length uc)).setCell ⟨r2, 6, none⟩ (.slice vao mx.length vc)).frozen? ⟨r1, 6, none⟩ = false := O1.fr 6
        go_region_held3 (fun w' => w'.cell? ⟨A, 0, none⟩ = some (.int .i64 k) ∧ w'.cell? ⟨A, 1, none⟩ = some (.int .i64 line) ∧ w'.cell? ⟨A, 2, none⟩ = some (.int .i64 col) ∧ w'.cell? ⟨A, 3, none⟩ = some (.int .i64 count) ∧ w'.cell? ⟨A, 4, none⟩ = some (.string ⟨cx.toArray⟩) ∧ w'.cell? ⟨A, 5, none⟩ = some (.slice uao tx.length uc) ∧ w'.cell? ⟨A, 6, none⟩ = some (.slice vao mx.length vc) ∧ w'.cell? ⟨B, 0, none⟩ = some (.int .i64 k) ∧ w'.cell? ⟨B, 1, none⟩ = some (.int .i64 line) ∧ w'.cell? ⟨B, 2, none⟩ = some (.int .i64 col) ∧ w'.cell? ⟨B, 3, none⟩ = some (.int .i64 count) ∧ w'.cell? ⟨B, 4, none⟩ = some (.string ⟨cx.toArray⟩) ∧ w'.cell? ⟨B, 5, none⟩ = some (.slice uao tx.length uc) ∧ w'.cell? ⟨B, 6, none⟩ = some (.slice vao mx.length vc)) (exact HKE.out _ (by repeat (first | with_reducible exact Frm.refl _ _ | with_reducible refine Frm.drew ?_ | with_reducible refine Frm.setCell ?_ (fun h => by first | exact .inl rfl | exact .inr rfl) _))) (first | fail)
        have F1 := (R1.set7 (.int .i64 k) (.int .i64 line) (.int .i64 col) (.int .i64 count) (.string ⟨cx.toArray⟩) (.slice uao tx.length uc) (.slice vao mx.length vc)).other7 hr1w hr12 (.int .i64 k) (.int .i64 line) (.int .i64 col) (.int .i64 count) (.string ⟨cx.toArray⟩) (.slice uao tx.length uc) (.slice vao mx.length vc)
        have F2 := O2.set7 (.int .i64 k) (.int .i64 line) (.int .i64 col) (.int .i64 count) (.string ⟨cx.toArray⟩) (.slice uao tx.length uc) (.slice vao mx.length vc)
        have G : Frm (fun q => q = r1 ∨ q = r2) wE ((((((((((((((wE.setCell ⟨r1, 0, none⟩ (.int .i64 k)).setCell ⟨r1, 1, none⟩ (.int .i64 line)).setCell ⟨r1, 2, none⟩ (.int .i64 col)).setCell ⟨r1, 3, none⟩ (.int .i64 count)).setCell ⟨r1, 4, none⟩ (.string ⟨cx.toArray⟩)).setCell ⟨r1, 5, none⟩ (.slice uao tx.length uc)).setCell ⟨r1, 6, none⟩ (.slice vao mx.length vc)).setCell ⟨r2, 0, none⟩ (.int .i64 k)).setCell ⟨r2, 1, none⟩ (.int .i64 line)).setCell ⟨r2, 2, none⟩ (.int .i64 col)).setCell ⟨r2, 3, none⟩ (.int .i64 count)).setCell ⟨r2, 4, none⟩ (.string ⟨cx.toArray⟩)).setCell ⟨r2, 5, none⟩ (.slice uao tx.length uc)).setCell ⟨r2, 6, none⟩ (.slice vao mx.length vc)) := ((store7_one (.int .i64 k) (.int .i64 line) (.int .i64 col) (.int .i64 count) (.string ⟨cx.toArray⟩) (.slice uao tx.length uc) (.slice vao mx.length vc)).weak (U := fun q => q = r1 ∨ q = r2) (fun q _ h => .inl h)).then_ ((store7_one (.int .i64 k) (.int .i64 line) (.int .i64 col) (.int .i64 count) (.string ⟨cx.toArray⟩) (.slice uao tx.length uc) (.slice vao mx.length vc)).weak (fun q _ h => .inr h))
        clear c10 c11 c12 c13 c14 c15 c16 c20 c21 c22 c23 c24 c25 c26 f10 f11 f12 f13 f14 f15 f16 f20 f21 f22 f23 f24 f25 f26 d10 d11 d12 d13 d14 d15 d16 d20 d21 d22 d23 d24 d25 d26 e10 e11 e12 e13 e14 e15 e16 e20 e21 e22 e23 e24 e25 e26 O1 O2 R1 R2
        generalize ((((((((((((((wE.setCell ⟨r1, 0, none⟩ (.int .i64 k)).setCell ⟨r1, 1, none⟩ (.int .i64 line)).setCell ⟨r1, 2, none⟩ (.int .i64 col)).setCell ⟨r1, 3, none⟩ (.int .i64 count)).setCell ⟨r1, 4, none⟩ (.string ⟨cx.toArray⟩)).setCell ⟨r1, 5, none⟩ (.slice uao tx.length uc)).setCell ⟨r1, 6, none⟩ (.slice vao mx.length vc)).setCell ⟨r2, 0, none⟩ (.int .i64 k)).setCell ⟨r2, 1, none⟩ (.int .i64 line)).setCell ⟨r2, 2, none⟩ (.int .i64 col)).setCell ⟨r2, 3, none⟩ (.int .i64 count)).setCell ⟨r2, 4, none⟩ (.string ⟨cx.toArray⟩)).setCell ⟨r2, 5, none⟩ (.slice uao tx.length uc)).setCell ⟨r2, 6, none⟩ (.slice vao mx.length vc)) = W at *
        have hd : ∀ p, W.drew.cell? p = W.cell? p := fun _ => rfl
        have z10 : W.cell? ⟨r1, 0, none⟩ = some (.int .i64 k) := F1.cell 0
        have z11 : W.cell? ⟨r1, 1, none⟩ = some (.int .i64 line) := F1.cell 1
        have z12 : W.cell? ⟨r1, 2, none⟩ = some (.int .i64 col) := F1.cell 2
        have z13 : W.cell? ⟨r1, 3, none⟩ = some (.int .i64 count) := F1.cell 3
        have z14 : W.cell? ⟨r1, 4, none⟩ = some (.string ⟨cx.toArray⟩) := F1.cell 4
        have z15 : W.cell? ⟨r1, 5, none⟩ = some (.slice uao tx.length uc) := F1.cell 5
        have z16 : W.cell? ⟨r1, 6, none⟩ = some (.slice vao mx.length vc) := F1.cell 6
        have z20 : W.cell? ⟨r2, 0, none⟩ = some (.int .i64 k) := F2.cell 0
        have z21 : W.cell? ⟨r2, 1, none⟩ = some (.int .i64 line) := F2.cell 1
        have z22 : W.cell? ⟨r2, 2, none⟩ = some (.int .i64 col) := F2.cell 2
        have z23 : W.cell? ⟨r2, 3, none⟩ = some (.int .i64 count) := F2.cell 3
        have z24 : W.cell? ⟨r2, 4, none⟩ = some (.string ⟨cx.toArray⟩) := F2.cell 4
        have z25 : W.cell? ⟨r2, 5, none⟩ = some (.slice uao tx.length uc) := F2.cell 5
        have z26 : W.cell? ⟨r2, 6, none⟩ = some (.slice vao mx.length vc) := F2.cell 6
        go_wp2_with fail
        refine bodyPost_ret (v := .tuple #[.agg #[.int .i64 k, .int .i64 line, .int .i64 col, .int .i64 count, .string ⟨cx.toArray⟩, (.slice uao tx.length uc), (.slice vao mx.length vc)], .agg #[.int .i64 k, .int .i64 line, .int .i64 col, .int .i64 count, .string ⟨cx.toArray⟩, (.slice uao tx.length uc), (.slice vao mx.length vc)]]) (by simp [results, Try.results21, go_sem, z10, z11, z12, z13, z14, z15, z16, z20, z21, z22, z23, z24, z25, z26]) rfl ⟨_, _, rfl, by rw [HTX.out]; exact (Rd.ofOwn HT.out).frm G.drew (HTA.out), by rw [HMX.out]; exact (Rd.ofOwn HM.out).frm G.drew (HMA.out), F1.frm.drew⟩
end Go.Proofs.Ytjhodcdjkokkoaa
