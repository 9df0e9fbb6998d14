/- radix.powers and its closure: the powers of a base, each the square of the one ahead of it. -/
import Derived.Test.YtopbfgmpilnghaaDoorTab
set_option linter.unusedVariables false
set_option linter.unusedSimpArgs false
namespace Go.Proofs.YtopbfgmpilnghaaDoor
open Go.RowKit

theorem info_nats : (Tryd.prog.info? 22).map (fun i => (i.zero, i.size, i.bytes)) = some (some (.slice none 0 0), 1, 24) := by kernel_rfl

theorem Tab.val {base B P : Nat} {w : World} {n g cap : Nat} {vs : List Value} (h : Tab base B P w n g cap vs) {i : Nat} (hi : i < n) : ∃ v, vs[i]? = some v ∧ Nt w v (pw base i) := by
  have hl := h.row.len
  obtain ⟨v, hv⟩ : ∃ v, vs[i]? = some v := ⟨vs[i]'(by omega), List.getElem?_eq_getElem (by omega)⟩
  exact ⟨v, hv, h.nats i v hv⟩

theorem box_solid {W : World} {k : Nat} {v : Value} {e : TypeId} (h : Blk W k #[v] e) (hv : notInt v = true) : Solid W k := by
  intro j kk x he
  unfold Blk at h
  simp only [World.cell?, h] at he
  rcases j with _ | j
  · simp at he; subst he; cases hv
  · simp at he

/-- the table after one step -/
theorem Tab.step {base B P : Nat} {w : World} {n g cap : Nat} {vs : List Value} (h : Tab base B P w n g cap vs) (hn1 : n + 1 ≤ 1000000) {w2 w3 : World} {v : Value} {g' cap' : Nat} (hb : Below w.heap.size w w2) (hv : Nt w2 v (pw base n))
    (hs : Sl w3 g' 22 (n + 1) cap' (vs ++ [v])) (hg : (w2.alloc (.cells #[v] 22)).grownBy w3 (some g)) (ho : g' = g ∨ g' = (w2.alloc (.cells #[v] 22)).heap.size) :
    Tab base B P (w3.setCell ⟨P, 0, none⟩ (.slice (some ⟨g', 0, none⟩) (n + 1) cap')) (n + 1) g' cap' (vs ++ [v]) ∧ Kept B w (w3.setCell ⟨P, 0, none⟩ (.slice (some ⟨g', 0, none⟩) (n + 1) cap')) ∧
      w3.cell? ⟨P, 0, none⟩ = some (.slice (some ⟨g, 0, none⟩) n cap) ∧ w3.frozen? ⟨P, 0, none⟩ = false := by
  have hPg : P ≠ g := by
    rintro rfl
    obtain ⟨cur, hc, _, _, hsz, ht, _⟩ := h.row
    have hbx := h.box
    unfold Blk at hbx
    rw [hc] at hbx
    have e := Option.some.inj hbx
    injection e with e1 e2 e3
    exact absurd e2 (by decide)
  have hgl := h.row.lt
  have hPl := h.box.lt
  have hz2 := hb.size
  have hz3 : w2.heap.size + 1 ≤ w3.heap.size := by have := hg.size; rw [World.size_alloc] at this; exact this
  have hbx2 : Blk w2 P #[.slice (some ⟨g, 0, none⟩) n cap] 100 := (hb.block P hPl).trans h.box
  have hbx3 : Blk w3 P #[.slice (some ⟨g, 0, none⟩) n cap] 100 := (hbx2.alloc _).grown hg (by simp; exact hPg)
  have hPg' : g' ≠ P := by
    rcases ho with rfl | rfl
    · exact Ne.symm hPg
    · rw [World.size_alloc]; omega
  have hK2 : Kept B w w2 := Kept.after hb h.bound
  have hK3 : Kept B w2 w3 := by
    have hlow := h.lowg
    have hbd := h.bound
    refine ⟨?_, by omega, fun b hbl hns => ?_⟩
    · exact Below.grown ((Below.refl B w2).alloc (by omega) _) hg (by rw [World.size_alloc]; omega) (fun k e => by cases e; omega)
    · have hne : b ≠ g := by
        rintro rfl
        exact hns (h.row.same (hb.block b hgl)).solid
      exact (hg.block b (by rw [World.size_alloc]; omega) (by simpa using hne)).trans (heap_alloc_old w2 _ hbl)
  have hK4 : Kept B w3 (w3.setCell ⟨P, 0, none⟩ (.slice (some ⟨g', 0, none⟩) (n + 1) cap')) := by
    refine ⟨Below.setCell (Below.refl _ _) h.low _, by simp [World.setCell], fun b hbl hns => ?_⟩
    have hne : b ≠ P := by
      rintro rfl
      exact hns (box_solid hbx3 rfl)
    exact Below.heap_setCell _ _ _ _ (by simpa using hne)
  have hK := (hK2.trans hK3).trans hK4
  refine ⟨⟨by omega, hbx3.setCell, hs.same (Below.heap_setCell _ _ _ _ (by simpa using hPg')), fun i u hu => ?_, h.low, ?_, ?_, hn1⟩, hK, hbx3.cell rfl, hbx3.free⟩
  · by_cases hi : i < n
    · rw [List.getElem?_append_left (by rw [h.row.len]; exact hi)] at hu
      exact (h.nats i u hu).kept hK
    · have hl := h.row.len
      rw [List.getElem?_append_right (by omega)] at hu
      have hi2 : i = n := by
        have := (List.getElem?_eq_some_iff.1 hu).1
        simp at this
        omega
      subst hi2
      rw [hl, Nat.sub_self] at hu
      simp at hu
      subst hu
      exact (hv.kept hK3).kept hK4
  · rcases ho with rfl | rfl
    · exact h.lowg
    · rw [World.size_alloc]
      have := h.bound
      omega
  · have := hK.size
    have := h.bound
    omega

set_option maxRecDepth 100000 in
set_option maxHeartbeats 8000000 in
theorem power_any {base B P k : Nat} {w : World} (hk : k ≤ 100000) (ht : Hid (Tb base B P w)) (hm : Hid (∀ i, i < k → MulFit (pw base i) (pw base i))) (i : Int) (hi : i = (k : Int)) :
    Calls Tryd.prog 84 #[.int .i64 i, .pointer (some ⟨P, 0, none⟩)] w fun e w' => ∃ v, e = .returned v ∧ Nt w' v (pw base k) ∧ (∃ n g cap vs, Tab base B P w' n g cap vs ∧ k < n) ∧ Kept B w w' := by
  subst hi
  obtain ⟨i0, hi, hz0, hz1, hz2⟩ := info_parts info_nats
  go_enter Tryd.func84, Tryd.ntmps84
  go_wp2_with fail
  obtain ⟨n, g, cap, vs, ht0⟩ := ht.out
  have HT := Lib.hid ht0
  clear ht0
  go_loopg [4] (k + 1 - n) (fun gk s4 wr => ∃ (n g cap : Nat) (vs : List Value), gk = k + 1 - n ∧ Hid (Tab base B P wr n g cap vs) ∧ Hid (Kept B w wr))
  case atStart => exact ⟨n, g, cap, vs, rfl, HT, Kept.refl _ _⟩
  case round =>
    clear HT
    obtain ⟨n, g, cap, vs, rfl, ht, hkp⟩ := hrel
    have hpos := ht.out.pos
    have c0 := Blk.cell (cs := #[_]) ht.out.box rfl
    by_cases hle : n ≤ k
    · obtain ⟨v, hv, nv⟩ := ht.out.val (show n - 1 < n by omega)
      obtain ⟨av, cv, fv, rfl, -⟩ := nv.open
      have hfit := hm.out (n - 1) (by omega)
      have hc1 := ht.out.row.cell hv
      have hmul := mul_fit (w := wr.drew) (nv.below (Drawn.below ⟨1, rfl⟩)) (nv.below (Drawn.below ⟨1, rfl⟩)) hfit
      rw [← pw_succ, show n - 1 + 1 = n by omega] at hmul
      have HM := Lib.hid hmul
      clear hmul nv hv hfit
      generalize limbs (pw base (n - 1)) = lv at *
      go_wp2_with fail
      have c0d : wr.drew.cell? ⟨P, 0, none⟩ = some (.slice (some ⟨g, 0, none⟩) n cap) := c0
      go_region_law (first
        | (go_simp; go_at_call 67; (with_reducible refine HM.out.mono ?_); rintro e w2 ⟨v2, rfl, hv2, hb2⟩; obtain ⟨a2, c2, f2, rfl, -⟩ := hv2.open; have c02 : w2.cell? ⟨P, 0, none⟩ = some (.slice (some ⟨g, 0, none⟩) n cap) := (hb2.cell (p := ⟨P, 0, none⟩) ht.out.box.lt).trans c0d; have c03 : (w2.alloc (.cells #[.slice a2 (limbs (pw base n)) c2] 22)).cell? ⟨P, 0, none⟩ = some (.slice (some ⟨g, 0, none⟩) n cap) := (World.cell?_alloc_lt _ _ _ (Nat.lt_of_lt_of_le ht.out.box.lt hb2.size)).trans c02; have HV2 := Lib.hid hv2; have HB2 := Lib.hid hb2; clear hv2 hb2)
        | (refine step_append_sl rfl (.tmp 15) (.tmp 19) 100 rfl 22 i0 (.slice none 0 0) 24 Tryd.underlying100 hi hz0 hz1 hz2 rfl rfl g n cap vs rfl ((ht.out.row.same (HB2.out.block g ht.out.row.lt)).same (heap_alloc_old _ _ (Nat.lt_of_lt_of_le ht.out.row.lt HB2.out.size))) ⟨w2.heap.size, 0, none⟩ 1 (.slice a2 (limbs (pw base n)) c2) rfl (cell_one_new w2 _ _ 0 _ rfl) rfl rfl (by unfold maxLen; omega) (by omega) ?_; intro g3 cap3 w3 hsl3 hgr3 hor3; obtain ⟨hT3, hK3, e3, e4⟩ := ht.out.step (by omega) ((Drawn.below (B := wr.heap.size) ⟨1, rfl⟩).trans HB2.out) HV2.out hsl3 hgr3 hor3; have HT3 := Lib.hid hT3; have HK3 := Lib.hid hK3; clear hT3 hK3 hsl3 hgr3 hor3))
      all_goals
        go_wp2_with fail
        go_roundg (k + 1 - (n + 1))
        case measure => omega
        case rel => exact ⟨n + 1, g3, cap3, _, rfl, HT3, hkp.out.trans HK3.out⟩
    · obtain ⟨v, hv, nv⟩ := ht.out.val (show k < n by omega)
      obtain ⟨av, cv, fv, rfl, -⟩ := nv.open
      have hc1 := ht.out.row.cell hv
      have HNV := Lib.hid nv
      clear nv hv
      generalize hlv : limbs (pw base k) = lv at *
      have HLV := Lib.hid hlv
      clear hlv
      go_wp2_with fail
      go_ret
      exact ⟨_, rfl, HNV.out, ⟨n, g, cap, vs, ht.out, by omega⟩, hkp.out⟩

theorem limbs_small {a : Nat} (h : a < 4294967296) : limbs a ≤ 1 := limbs_le (by simpa using h)

set_option maxRecDepth 100000 in
set_option maxHeartbeats 2000000 in
theorem powers_any {base : Nat} (hb : 2 ≤ base) (hb2 : base ≤ 36) (w : World) (i : Int) (hi : i = (base : Int)) :
    Calls Tryd.prog 62 #[.int .i64 i] w fun e w' => ∃ P, e = .returned (.func (.func 84) #[] #[.pointer (some ⟨P, 0, none⟩)]) ∧ Tb base w.heap.size P w' ∧ Below w.heap.size w w' := by
  subst hi
  have h5 : base ^ 5 ≤ 36 ^ 5 := Nat.pow_le_pow_left hb2 5
  have hp5 : Hid (PFit (base ^ 5)) := PFit.of (by have := limbs_small (a := base ^ 5) (by omega); omega)
  clear h5
  go_enter Tryd.func62, Tryd.ntmps62
  go_wp2_with fail
  (with_reducible refine (of_any (x := base) (by omega) _ (by omega) _).mono ?_)
  rintro e w1 ⟨v1, rfl, hv1, hb1⟩
  go_wp2_with fail
  (with_reducible refine (pow_nt hv1 (by omega) 5 _ (by omega) (by omega) hp5.out).mono ?_)
  rintro e w2 ⟨v2, rfl, hv2, hb2⟩
  obtain ⟨a2, c2, f2, rfl, -⟩ := hv2.open
  have HV2 := Lib.hid hv2
  have HB : Hid (After w w2) := After.t hb1 hb2
  clear hv1 hb1 hb2 hv2
  generalize hl : limbs (base ^ 5) = l2 at *
  have HL := Lib.hid hl
  clear hl
  go_wp2_with fail
  go_ret
  refine ⟨w2.heap.size + 1, rfl, ⟨1, w2.heap.size, 1, [.slice a2 l2 c2], ?_⟩, ?_⟩
  · have hsz := HB.out.out.size
    have hg : ((w2.alloc (.cells #[.slice a2 l2 c2] 22)).alloc (.cells #[.slice (some ⟨w2.heap.size, 0, none⟩) 1 1] 100)).heap[w2.heap.size]? = some (.cells #[.slice a2 l2 c2] 22 (0, 0)) := by
      rw [heap_alloc_old _ _ (by simp)]
      exact heap_alloc_new w2 _
    have hP : Blk ((w2.alloc (.cells #[.slice a2 l2 c2] 22)).alloc (.cells #[.slice (some ⟨w2.heap.size, 0, none⟩) 1 1] 100)) (w2.heap.size + 1) #[.slice (some ⟨w2.heap.size, 0, none⟩) 1 1] 100 := by
      have := Blk.new (w2.alloc (.cells #[.slice a2 l2 c2] 22)) #[.slice (some ⟨w2.heap.size, 0, none⟩) 1 1] 100
      rw [World.size_alloc] at this
      exact this
    refine ⟨by omega, hP, ⟨#[.slice a2 l2 c2], hg, by omega, by unfold maxLen; omega, rfl, rfl, by simp [notInt]⟩, fun i v hv => ?_, by omega, by omega, by simp; omega, by omega⟩
    rcases i with _ | i
    · simp at hv
      subst hv
      have hn : Nt w2 (.slice a2 l2 c2) (pw base 0) := HV2.out
      exact hn.below (After.alloc (After.alloc (After.refl w2) _) _)
    · simp at hv
  · exact (After.alloc (After.alloc HB.out _) _).out
end Go.Proofs.YtopbfgmpilnghaaDoor
