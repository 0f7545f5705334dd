/- The walk of NetworkTells: a frame is corrupted at most once, a corrupted frame is not opened, and any other frame is unchanged. -/
import Derived.Test.YtlhcjoaeipgbeaaDoorNetSpeaks
import Derived.Test.YtlhcjoaeipgbeaaDoorNet4
import Derived.Test.YtlhcjoaeipgbeaaDoorAct
import Derived.Test.YtlhcjoaeipgbeaaDoorFrmSpoilt
import Derived.BigQuiet
import Derived.Deep.RegionHeld3
namespace Go.Proofs.YtlhcjoaeipgbeaaDoor
open Go.RowKit
open Spo

theorem tells_plain {b : List UInt8} {n p : Nat} (h : b.length ≤ 1048576) (hne : turned (Frl.wrap b) n p 4 ≠ Frl.wrap b) : (Frl.open_ (turned (Frl.wrap b) n p 4)).2 ≠ 0 := by
  refine told (p := p) (k := 4) h (turned_length _ _ _ _) (Nat.le_refl 4) (fun j h1 h2 ho => ?_) hne
  rw [turned_at]
  have : D n p 4 j = 0 := if_neg (by omega)
  rw [this]; simp
/-- The frame that is under way: as it was sent, or spoilt. -/
def Way (f : List UInt8) (spo : Bool) (g : Fr) : Prop := g.from_ = 1 ∧ g.to_ = 2 ∧ g.bad = spo ∧ if spo then ∃ n p, g.bytes = turned f n p 4 ∧ turned f n p 4 ≠ f else g.bytes = f

set_option maxRecDepth 100000 in
theorem spoil_way (b : Nat) (v : Value) (f : List UInt8) (hf0 : f ≠ []) (hfl : f.length ≤ 1000000) (spo : Bool) (g : Fr) (hg : Way f spo g) (at_ : Int) (by_ : Int) (hby : 0 ≤ by_ ∧ by_ ≤ 4294967295) (w : World) (h : NetAt w b v [g]) :
    Calls Tryd.prog 18 #[.pointer (some ⟨b, 0, none⟩), .int .i64 0, .int .i64 at_, .int .u32 by_] w fun e w' => ∃ ok : Bool, e = .returned (.bool ok) ∧ (ok = true → spo = false) ∧ ∃ v' g', Way f (spo || ok) g' ∧ NetPost b w v [g'] v' w' := by
  obtain ⟨n, rfl⟩ := Int.eq_ofNat_of_zero_le hby.1
  obtain ⟨h1, h2, h3, h4⟩ := hg
  cases spo
  · rw [if_neg (by simp)] at h4
    by_cases hne : turned g.bytes n (pl at_ g.bytes.length) 4 ≠ g.bytes
    · refine (spoil_live b v [g] 0 at_ n (by omega) g rfl (by rw [h4]; exact hf0) h3 (by rw [h4]; exact hfl) true [⟨g.from_, g.to_, turned g.bytes n (pl at_ g.bytes.length) 4, true⟩] (hid (decide_eq_true hne)) (hid (if_pos hne)) w h (by simp) (by simp)).mono fun e w' ⟨he, v', hp⟩ => ⟨true, he, (fun _ => rfl), v', ⟨g.from_, g.to_, turned g.bytes n (pl at_ g.bytes.length) 4, true⟩, ⟨h1, h2, rfl, ?_⟩, hp⟩
      rw [Bool.false_or, if_pos rfl]
      rw [h4] at hne ⊢
      exact ⟨n, _, rfl, hne⟩
    · exact (spoil_live b v [g] 0 at_ n (by omega) g rfl (by rw [h4]; exact hf0) h3 (by rw [h4]; exact hfl) false [g] (hid (decide_eq_false hne)) (hid (if_neg hne)) w h (by simp) (by simp)).mono fun e w' ⟨he, v', hp⟩ => ⟨false, he, (fun h => by cases h), v', g, ⟨h1, h2, h3, (by simpa using h4)⟩, hp⟩
  · exact (spoil_dead b v [g] 0 at_ (n : Int) g rfl (Or.inr h3) w h (by simp) (by simp)).mono fun e w' ⟨he, hf⟩ => ⟨false, he, (fun h => by cases h), v, g, ⟨h1, h2, h3, h4⟩, NetPost.same h hf⟩

set_option maxRecDepth 100000 in
set_option maxHeartbeats 1000000 in
theorem networktells (b : List UInt8) (_ : b.length ≤ 140737488351232) (v : Value) (xs : List Ac) (w : World) (hT : Tab w) (hr : RdL w v 5 acV xs) (hxl : xs.length ≤ maxLen) (hg : ∀ x ∈ xs, AcOK x) :
    Calls Tryd.prog 8 #[.string ⟨b.toArray⟩, v] w fun e w' => e = .returned (.bool true) ∧ Frm No w w' := by
  unfold maxLen at hxl
  obtain ⟨ao, c, rfl⟩ := hr.shape
  have HG := hid hg
  clear hg
  go_enter Tryd.func8, Tryd.ntmps8
  go_wp2_with (first | (go_at_call 16; refine (netspeaks _).mono ?_; rintro e0 w0 ⟨rfl, hf0⟩))
  have hb' : (List.take (min (b.length : Int) 1000).toNat b).length ≤ 1000 := by rw [List.length_take]; omega
  generalize List.take (min (b.length : Int) 1000).toNat b = b' at *
  have HW := hid (fun w hT => wrap_any b' w hT (by omega))
  have HO := hid (fun w hT => open_wrap_any b' w hT (by omega))
  have hfl := Frl.wrap_length (b := b') (by omega)
  have hel := Oct.enc_le b'.length
  have hfne : Frl.wrap b' ≠ [] := by intro e; rw [e] at hfl; simp at hfl
  have HTELL := hid (fun n p => tells_plain (b := b') (n := n) (p := p) (by omega))
  have hfl2 : (Frl.wrap b').length ≤ 1000000 := by omega
  clear hfl hel
  generalize Frl.wrap b' = f at *
  have hN := NetAt_new w0 39
  have hf1 : Frm No w (w0.alloc (.cells #[.slice none 0 0] 39)) := hf0.alloc _
  have hz0 := hf0.size
  obtain ⟨B, hB⟩ : ∃ B, w0.heap.size = B := ⟨_, rfl⟩
  rw [hB] at hN hz0
  simp only [hB]
  generalize w0.alloc (.cells #[.slice none 0 0] 39) = wn at *
  have HS : Hid (∀ w, NetAt w B (.slice none 0 0) [] → Calls Tryd.prog 17 #[.pointer (some ⟨B, 0, none⟩), .int .i64 1, .int .i64 2, .string ⟨f.toArray⟩] w fun e w' => e = .returned (.bool true) ∧ ∃ v', NetPost B w (.slice none 0 0) [⟨1, 2, f, false⟩] v' w') :=
    hid (fun w h => send_any B (.slice none 0 0) [] 1 2 f w h (by simp))
  go_wp2_with (first | (go_at_call 10; refine (HW.out _ (hT.no hf1)).mono ?_; rintro e1 w1 ⟨rfl, hf2⟩; have hN1 := hN.frm hf2 (fun h => h) (fun _ _ h => h)) | (go_at_call 17; refine (HS.out _ hN1).mono ?_; rintro e2 w2 ⟨rfl, v2, hp2⟩))
  have g0 : ∀ k, (Value.slice none 0 0).ownBlock = some k → w.heap.size ≤ k := fun k h => by cases h
  have i1 := hf1.thenNo hf2
  have i2 := hp2.no i1 hz0 g0
  have g2 := hp2.ge i1.size g0
  go_loopw [6, 7] (fun s i wr => ∃ (k : Nat) (v' : Value) (spo : Bool) (g : Fr), k ≤ xs.length ∧ k ≤ 20 ∧ s = .bool spo ∧ i = .int .i64 (k : Int) ∧ NetAt wr B v' [g] ∧ Way f spo g ∧ (∀ q, v'.ownBlock = some q → w.heap.size ≤ q) ∧ Frm No w wr) (fun _ i _ => xs.length - (intOf i).toNat)
  case atStart => exact ⟨0, v2, false, ⟨1, 2, f, false⟩, by omega, by omega, rfl, rfl, hp2.at_, ⟨rfl, rfl, rfl, rfl⟩, g2, i2⟩
  case round =>
    obtain ⟨k, v', spo, g, hk, hk20, rfl, rfl, hat, hway, hge, hf⟩ := hrel
    by_cases hlast : k < xs.length ∧ k < 20
    · obtain ⟨hka, hk2⟩ := hlast
      obtain ⟨bb, o, rfl, hbw, -, -, d2, d3, -⟩ := act_at hr (Frm.refl No w) k hka
      have hgx := HG.out _ (List.getElem_mem hka)
      have hkc : (k : Int) < (xs.length : Int) := by omega
      generalize xs[k] = x at *
      obtain ⟨xw, xi, xat, xby, xt⟩ := x
      simp only at d2 d3
      have e2 := (hf.cell (p := ⟨bb, o + k * 5 + 2, none⟩) hbw (fun h => h)).trans d2
      have e3 := (hf.cell (p := ⟨bb, o + k * 5 + 3, none⟩) hbw (fun h => h)).trans d3
      have HSP := hid (fun w h => spoil_way B v' f hfne hfl2 spo g hway xat xby hgx.2.2.2.1 w h)
      clear HTELL hgx
      go_wp2_with fail
      go_region_held3 (fun w' => w'.cell? ⟨bb, o + k * 5 + 2, none⟩ = some (.int .i64 xat) ∧ w'.cell? ⟨bb, o + k * 5 + 3, none⟩ = some (.int .u32 xby)) (first | exact ⟨e2, e3⟩ | exact q3) (first | (go_at_call 18; refine (HSP.out _ (hat.frm ((Frm.refl No _).drew) (fun h => h) (fun _ _ h => h))).mono ?_; rintro e4 w4 ⟨ok, rfl, hok, v4, g4, hway4, hp4⟩; have i4 := hp4.no (hf.drew) hz0 hge; have q3 := And.intro ((i4.cell (p := ⟨bb, o + k * 5 + 2, none⟩) hbw (fun h => h)).trans d2) ((i4.cell (p := ⟨bb, o + k * 5 + 3, none⟩) hbw (fun h => h)).trans d3)))
      have g4' := hp4.ge (hf.drew).size hge
      cases ok
      · go_wp2_with fail
        exact ⟨⟨k + 1, v4, spo, g4, by omega, by omega, rfl, by go_num, hp4.at_, by simpa using hway4, g4', i4⟩, by simp [intOf]; omega⟩
      · have hspo := hok rfl
        subst hspo
        go_wp2_with fail
        exact ⟨⟨k + 1, v4, true, g4, by omega, by omega, rfl, by go_num, hp4.at_, hway4, g4', i4⟩, by simp [intOf]; omega⟩
    · have hT1 := hT.no hf
      obtain ⟨a1, a2, bs, bad⟩ := g
      obtain ⟨-, -, hbad, hbytes⟩ := hway
      simp only at hbad hbytes
      subst hbad
      have HT : Hid (∀ w, NetAt w B v' [⟨a1, a2, bs, bad⟩] → Calls Tryd.prog 19 #[.pointer (some ⟨B, 0, none⟩), .int .i64 0] w fun e w' => e = .returned (.tuple #[.agg #[.int .i64 a1, .int .i64 a2, .string ⟨bs.toArray⟩, .bool bad], .bool true]) ∧ ∃ v'', NetPost B w v' [] v'' w') :=
        hid (fun w h => take_some B v' [⟨a1, a2, bs, bad⟩] 0 ⟨a1, a2, bs, bad⟩ rfl w h (by simp) (by simp))
      cases bad
      · have hbs : bs = f := by simpa using hbytes
        subst hbs
        clear hbytes HTELL
        by_cases hka : k < xs.length
        all_goals
          go_wp2_with (first | (go_at_call 19; refine (HT.out _ hat).mono ?_; rintro e4 w4 ⟨rfl, v4, hp4⟩; have i4 := hp4.no hf hz0 hge) | (go_at_call 11; refine (HO.out _ (hT.no (i4.alloc _))).mono ?_; rintro e5 w5 ⟨rfl, hf5⟩; have qb := fun j => (hf5.box (cs := #[.int .i64 a1, .int .i64 a2, .string ⟨bs.toArray⟩, .bool false]) j)))
          go_ret
          exact ⟨rfl, (i4.alloc _).thenNo hf5⟩
      · have hbs : ∃ n p, bs = turned f n p 4 ∧ turned f n p 4 ≠ f := by simpa using hbytes
        obtain ⟨n, p, rfl, hne⟩ := hbs
        have hno := HTELL.out n p hne
        have hfst := Frl.open_fst hno
        have htl := turned_length f n p 4
        have HO1 := hid (fun w hT => open_any (turned f n p 4) w hT (by omega))
        unfold OpenP at HO1
        rw [hfst] at HO1
        have hno' : ((Frl.open_ (turned f n p 4)).2 == 0) = false := by simpa using hno
        clear hbytes HTELL HO hno hfst hne
        generalize (Frl.open_ (turned f n p 4)).2 = er at *
        generalize turned f n p 4 = tt at *
        by_cases hka : k < xs.length
        all_goals
          go_wp2_with (first | (go_at_call 19; refine (HT.out _ hat).mono ?_; rintro e4 w4 ⟨rfl, v4, hp4⟩; have i4 := hp4.no hf hz0 hge) | (go_at_call 11; refine (HO1.out _ (hT.no (i4.alloc _))).mono ?_; rintro e5 w5 ⟨rfl, hf5⟩; have qb := fun j => (hf5.box (cs := #[.int .i64 a1, .int .i64 a2, .string ⟨tt.toArray⟩, .bool true]) j)))
          go_ret
          exact ⟨rfl, (i4.alloc _).thenNo hf5⟩
end Go.Proofs.YtlhcjoaeipgbeaaDoor
