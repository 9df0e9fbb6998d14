/- What all rows of this seat share: the condition's world, the last step from 'nothing below has turned'. A row's argument of limbs: opened, and shut again where nothing below has turned. -/
import Derived.Test.YtopbfgmpilnghaaDoorCards
import Derived.Test.YtopbfgmpilnghaaDoorTie
import Derived.Test.YtopbfgmpilnghaaDoorGround
import Derived.WalkKit
import Derived.ProofKit
import Derived.OpenShut
import Derived.Deep.DeepHandedRow
import Derived.ChangeMaps5
import Derived.ChangeSlices
import Derived.Below
set_option linter.unusedVariables false
set_option linter.unusedSimpArgs false
namespace Go.Proofs.YtopbfgmpilnghaaDoor
open Go.ChangeShapes Go.WideShapes Go.ChangeAt Go.RowKit

theorem ownKnob_none : ownKnob Tryd.prog.godebug = none := by kernel_rfl

section
variable {H : Type} {enc : TypeId × Value → H} {P : Program}
theorem post_of_below {f : Func} {s : ChangeSpec} {apart fresh handsOn again : Bool} {W W' : World} {args : Array Value} {v : Value} {ds gs : List (DataW H)} {before pa pv : List MemPlace}
    (hW : DataW.Whole enc P f.params.toList s.vars apart W args.toList ds gs before)
    (hres : ∀ (b : Nat) (sp : Nat → Bool) (hd : Bool), DataW.TrodAll enc P W' b sp hd f.resultTypes.toList (v.resultList f.resultTypes.size) (s.fn H (ds ++ gs)).results [])
    (hargs : ∀ sp : Nat → Bool, (∀ p ∈ before, sp p.block = true) → DataW.TrodAll enc P W' 0 sp true f.params.toList args.toList (s.fn H (ds ++ gs)).args pa)
    (hvars : ∀ sp : Nat → Bool, (∀ p ∈ before, sp p.block = true) → DataW.TrodVars enc P W' sp s.vars (s.fn H (ds ++ gs)).vars pv)
    (hps : before = pa ++ pv) (hb : Below W.heap.size W W')
    (hok : ∀ (j : Nat) (t : TypeId) (r : Value), f.resultTypes[j]? = some t → (v.resultList f.resultTypes.size)[j]? = some r → Value.okWide P W' .any 0 t r) :
    s.post enc P f apart fresh handsOn again W args v W' := by
  have hlt : ∀ p ∈ before, p.block < W.heap.size := fun p hp => hW.lt p hp
  have hold : ∀ p ∈ before, (fun b => decide (b < W.heap.size)) p.block = true := fun p hp => by simpa using hlt p hp
  refine ⟨ds, gs, before, [], pa, pv, hW, hres _ _ _, hargs _ hold, hvars _ hold, World.keptBut_mono (fun p hp => ⟨hp, ?_⟩) (hb.frame (· ∈ before)), fun _ => ?_⟩
  · rw [hps, List.mem_append] at hp
    exact Or.inr hp
  · obtain ⟨_, _, _, _, _, hz, hn⟩ := hW
    refine ⟨hok, _, _, ([] ++ pa) ++ pv, ⟨[] ++ pa, pv, trodAll_append (hargs _ (fun _ _ => rfl)) (hres _ _ _), hvars _ (fun _ _ => rfl), rfl, ?_, ?_⟩, ?_⟩
    · intro b off hp
      have hin : MemPlace.cell b off ∈ before := by rw [hps]; simpa using hp
      rw [hb.frozen (hlt _ hin)]
      exact hz b off hin
    · intro ha
      have := hn ha
      rw [hps] at this
      simpa using this
    · intro p hp _
      rw [hps]
      simpa using hp
end

theorem wf_bounds {k : IntKind} {n : Int} (h : (Lit.int k n).wf = true) : k.min ≤ n ∧ n ≤ k.max := by
  simpa [Lit.wf] using h
theorem wf_u8_nat {n : Int} (h : (Lit.int .u8 n).wf = true) : ∃ m : Nat, n = (m : Int) ∧ m < 256 := by
  have hb := wf_bounds h
  have h1 : IntKind.u8.min = 0 := rfl
  have h2 : IntKind.u8.max = 255 := rfl
  rw [h1, h2] at hb
  exact ⟨n.toNat, by omega, by omega⟩

/-- A world for the witness: the settled one, the primes laid. -/
noncomputable def laidWorld (os : Os) : World :=
  { World.holding Tryd.prog os ⟨#[], #[], []⟩ with heap := (World.holding Tryd.prog os ⟨#[], #[], []⟩).heap.modify 0 fun
      | .cells _ t frozen => .cells #[.int .u64 998244353, .int .u64 469762049, .int .u64 167772161] t frozen
      | o => o }
theorem laid_met (os : Os) (args : Array Value) : laidMet Tryd.prog [("ziggurat/ntt.fields", Rows.laid_ziggurat_ntt_fields)] ((laidWorld os).forCall (fun _ _ => 0) ⟨#[], args, []⟩).memory :=
  laidMet_of_run' 8 (by kernel_rfl) (by kernel_rfl)
end Go.Proofs.YtopbfgmpilnghaaDoor

namespace Go.Proofs.YtopbfgmpilnghaaDoor
open Go.ChangeShapes Go.WideShapes Go.ChangeAt Go.RowKit

theorem wf_u32 {n : Int} (h : (Lit.int .u32 n).wf = true) : 0 ≤ n ∧ n < 4294967296 := by
  have hb := wf_bounds h
  have h1 : IntKind.u32.min = 0 := rfl
  have h2 : IntKind.u32.max = 4294967295 := rfl
  rw [h1, h2] at hb
  omega

section
variable {H : Type} {enc : TypeId × Value → H} {P : Program}
theorem open_limbs {W : World} {base : Nat} {t e : TypeId} {v : Value} {d : DataW H} {ps : List MemPlace} (ht : P.underlying t = some (.slice e)) (he : P.underlying e = some (.int .u32)) (hc : P.cellsOf e = 1)
    (hval : Value.okWide P W .any base t v) (h : DataW.Trod enc P W 0 (fun _ => true) true t v d ps) :
    ∃ (n : Nat) (f : Nat → Nat), Rd .u32 W v n f ∧ Fits n f ∧ (∀ k c, v = .slice none k c → k = 0 ∧ c = 0) ∧
      (∀ (W' : World) (sp : Nat → Bool), Below W.heap.size W W' → (∀ p ∈ ps, sp p.block = true) → DataW.Trod enc P W' 0 sp true t v d ps) := by
  obtain ⟨ao, len, cap, rfl⟩ := okWide_slice ht hval
  obtain ⟨fuel, hf⟩ := h
  rcases open_ints ht he hc hf with ⟨hcs, hx⟩ | ⟨a, len', cap', zs, hcs, _, hle, hmax, hall, hx, hcell, hwf⟩
  · simp [Value.cells] at hcs
    obtain ⟨rfl, rfl, rfl⟩ := hcs
    simp only [Prod.mk.injEq] at hx
    obtain ⟨rfl, rfl⟩ := hx
    refine ⟨0, fun _ => 0, ⟨none, 0, rfl, Nat.le_refl _, Nat.zero_le _, fun h => absurd h (by omega)⟩, fun j hj => absurd hj (by omega), fun k c e => by cases e; exact ⟨rfl, rfl⟩, fun W' sp _ _ => ?_⟩
    exact shut_slice_nil ht
  · simp [Value.cells] at hcs
    obtain ⟨rfl, rfl, rfl⟩ := hcs
    simp only [Prod.mk.injEq] at hx
    obtain ⟨rfl, rfl⟩ := hx
    simp only [if_true] at hall
    have hget : ∀ j, j < zs.length → ∃ x : Nat, zs.getD j 0 = (x : Int) ∧ x < 4294967296 := fun j hj => by
      have hm : zs.getD j 0 ∈ zs := by
        have : zs.getD j 0 = zs[j] := by simp [List.getD, hj]
        rw [this]
        exact List.getElem_mem hj
      obtain ⟨h1, h2⟩ := wf_u32 (hwf _ hm)
      exact ⟨(zs.getD j 0).toNat, by omega, by omega⟩
    refine ⟨len, fun j => (zs.getD j 0).toNat, ⟨some a, cap, rfl, hle, hmax, fun h0 => ?_⟩, fun j hj => ?_, fun k c e => (by cases e), fun W' sp hb hsp => ?_⟩
    · obtain ⟨b, off, rfl, hcl⟩ := ints_at hcell (by omega)
      refine ⟨b, off, rfl, World.block_lt_of_cell? _ _ (hcl 0 (by omega)), fun j hj => ?_⟩
      rw [hcl j (by omega)]
      obtain ⟨x, hx, _⟩ := hget j (by omega)
      show _ = some (Value.int .u32 (((zs.getD j 0).toNat : Nat) : Int))
      rw [hx]
      rfl
    · obtain ⟨x, hx, hx2⟩ := hget j (by omega)
      show (zs.getD j 0).toNat < 4294967296
      omega
    · refine ⟨2, ?_⟩
      refine shut_ints 0 ht he hc (Nat.zero_le _) hle hmax ?_ (fun i hi => ?_) hwf
      · by_cases h0 : zs.length = 0
        · split <;> omega
        · rw [if_pos ?_, hall]
          have : MemPlace.cell a.block a.off ∈ MemPlace.row a zs.length := by
            unfold MemPlace.row
            exact List.mem_map.2 ⟨0, List.mem_range.2 (by omega), rfl⟩
          exact hsp _ this
      · rw [hb.cell (p := a.add i) (World.block_lt_of_cell? _ _ (hcell i hi))]
        exact hcell i hi
end
end Go.Proofs.YtopbfgmpilnghaaDoor
