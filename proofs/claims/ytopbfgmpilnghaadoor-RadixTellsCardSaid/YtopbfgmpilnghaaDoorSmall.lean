/- div.Small: a quotient and a rest by a limb. -/
import Derived.Test.YtopbfgmpilnghaaDoorBacks
set_option linter.unusedVariables false
set_option linter.unusedSimpArgs false
namespace Go.Proofs.YtopbfgmpilnghaaDoor
open Go.RowKit Go.Shelf

set_option maxHeartbeats 400000 in
theorem backward_any (ao : Option Addr) (n cap : Nat) (w : World) :
    Calls Tryd.prog 113 #[.slice ao n cap] w fun e w' => e = .returned (.func (.func 126) #[] #[.pointer (some ⟨w.heap.size, 0, none⟩)]) ∧
      w' = w.alloc (.cells #[.slice ao n cap] 22) := by
  go_enter Tryd.func113, Tryd.ntmps113
  go_wp2
  go_ret
  exact ⟨rfl, rfl⟩

set_option maxHeartbeats 400000 in
theorem small_zero (v : Value) (w : World) :
    Calls Tryd.prog 93 #[v, .int .u32 0] w fun e w' => e = .returned (.tuple #[.slice none 0 0, .int .u32 0, .int .i64 3]) ∧ Below w.heap.size w w' := by
  go_enter Tryd.func93, Tryd.ntmps93
  go_wp2
  refine bodyPost_ret (v := .tuple #[.slice none 0 0, .int .u32 0, .int .i64 3]) (by simp [results, Tryd.f93]) rfl ?_
  exact ⟨rfl, (After.alloc (After.refl w) _).out⟩
/-- what holds between two rounds of div.Small -/
def ISmall (d : Nat) (f : Nat → Nat) (n H N : Nat) (w : World) (pre : List Nat) (W : World) : Prop :=
  (∃ (r : Nat) (F : Nat → Nat), r < d ∧ Blk W H #[.int .u32 d] 46 ∧ Blk W (H + 2) #[.slice (some ⟨H + 1, 0, none⟩) n n] 22 ∧ Blk W (H + 3) #[.int .u32 r] 46 ∧
    Own .u32 W (H + 1) 46 n F ∧ (pre = List.range pre.length → pre.length ≤ n → Down d f F n (n - pre.length) r) ∧ N ≤ W.heap.size) ∧ Below H w W

/-- 'make([]T, n, m)' inside a fence: the numbers are nought -/
theorem wpListIn_make_row {Fn : Fence} {nn : Nat} {P : Program} (w : World) {ops : Array Oper} {rest : List Oper} {o : Oper} {a : Act} {Q : Exit → Act → World → Prop}
    (hg : o.guard = none) (l c : Operand) (t : TypeId) (hop : o.op = Op.makeSlice t l c) (e : TypeId) (i : TypeInfo) (k : IntKind) (h1 : P.underlying t = some (.slice e)) (h2 : P.info? e = some i) (h3 : i.zero = some (.int k 0)) (h4 : i.size = 1)
    (kl kc : IntKind) (L C : Int) (n m : Nat) (hl : a.eval l = .int kl L) (hc : a.eval c = .int kc C) (hL : L = (n : Int)) (hC : C = (m : Int)) (hnm : n ≤ m) (b2 : i.bytes * m ≤ 281474976710656) (b3 : m ≤ 9223372036854775807)
    (hK : ∀ w', Own k w' w.heap.size e m (fun _ => 0) → w.grownBy w' none → w'.heap.size = w.heap.size + 1 → wpListIn Fn nn P ops Q rest (a.put o.dst (.slice (some ⟨w.heap.size, 0, none⟩) n m)) w') :
    wpListIn Fn nn P ops Q (o :: rest) a w := by
  refine wpListIn_plain hg fun K hK' => ?_
  subst hL
  subst hC
  have hb2 : (i.bytes : Int) * (m : Int) ≤ 281474976710656 := by rw [← Int.natCast_mul]; omega
  have hrun := run_make (P := P) w t e i (.int k 0) h1 h2 h3 kl kc (n : Int) (m : Int) (by omega) (by omega) hb2 (by omega)
  unfold Oper.wpIn
  refine ⟨?_, ?_⟩
  · simp [Oper.about, hop]
  · rw [Oper.semAt_plain Fn _ _ (by rw [hop]; intro c hc'; cases hc')]
    simp [execOp, hop, hl, hc, hrun, Result.andThen]
    refine hK' _ _ (hK _ ?_ (World.grownBy_alloc w _ none) (World.size_alloc _ _))
    refine ⟨_, heap_alloc_new w _, ?_, fun j hj => ?_⟩
    · simp [madeCells, Value.cells, h4]
    · simp [madeCells, Value.cells, h4, hj, Nat.mod_one]

/-- slices.Backward's closure is an iterator that comes by all limbs, the last one first -/
theorem backward_stops (m Bs b off cap p q r n : Nat) (f : Nat → Nat) (hn : n < 4611686018427387904) (w W0 : World) (hB : Below w.heap.size w W0) (hb : b < w.heap.size)
    (hc : ∀ j, j < n → w.cell? ⟨b, off + j, none⟩ = some (.int .u32 (f j))) (hp : w.heap.size ≤ p) (hq : w.heap.size ≤ q) (hr : w.heap.size ≤ r)
    (h2 : Blk W0 Bs #[.slice (some ⟨b, off, none⟩) n cap] 22) (n2 : Bs ≠ p ∧ Bs ≠ q ∧ Bs ≠ r) :
    SeqStopsK Fence.wide m Tryd.prog 126 #[.pointer (some ⟨Bs, 0, none⟩)] (encBack n f) (KpAll W0.heap.size p q r)
      (fun ys => ys = List.range n) (fun _ => True) n W0 := fun l J Jx W hW hJ hJx hY h0 => by
  have hold : ∀ W', KpAll W0.heap.size p q r W W' → ∀ i, i < w.heap.size → W'.heap[i]? = w.heap[i]? := fun W' h i hi => by
    have := hB.size
    exact (h.2 i (by omega) (by omega) (by omega) (by omega)).trans ((hW.block i (by omega)).trans (hB.block i hi))
  have hbx : ∀ {B : Nat} {v : Value} {e : TypeId}, Blk W0 B #[v] e → B ≠ p ∧ B ≠ q ∧ B ≠ r → ∀ W', KpAll W0.heap.size p q r W W' → W'.cell? ⟨B, 0, none⟩ = some v := fun h hne W' hK =>
    (Blk.cell (cs := #[_]) ((hK.2 _ h.lt hne.1 hne.2.1 hne.2.2).trans ((hW.block _ h.lt).trans h)) rfl)
  exact backward1_in m l Bs b off cap W0.heap.size p q r n f hn J Jx W hY (hbx h2 n2)
    (fun W' h i hi => (World.cell?_of_block (w := w) (hold W' h b hb)).trans (hc i hi)) h0

theorem own_same {k : IntKind} {W W' : World} {g : Nat} {e : TypeId} {n : Nat} {f : Nat → Nat} (h : Own k W g e n f) {row : Option Nat} (hg : W.grownBy W' row) (hr : ∀ r, row = some r → ∃ o : Obj, W.heap[r]? = some o ∧ o.isCells = false) : Own k W' g e n f := by
  refine h.same (hg.block g h.lt (fun e' => ?_))
  obtain ⟨cs, hc, _⟩ := h
  obtain ⟨o, ho, hcl⟩ := hr g e'.symm
  rw [hc] at ho
  cases ho
  cases hcl

theorem ISmall.own (d : Nat) (f : Nat → Nat) (n H : Nat) (w : World) (hH : H ≤ w.heap.size) (N : Nat) (hN : H ≤ N) : OwnFrom N (ISmall d f n H N w) :=
  OwnFrom.and (Own.from (fun s W W' row ⟨r, F, hr0, h1, h2, h3, h4, h5, h6⟩ hg hr => ⟨r, F, hr0, h1.kept hg hr, h2.kept hg hr, h3.kept hg hr, own_same h4 hg hr, h5, Nat.le_trans h6 hg.size⟩) _) (ownFrom_below hH hN)

theorem small_end {d n H N : Nat} {f : Nat → Nat} {w : World} {pre : List Nat} {x r : Nat} {F : Nat → Nat} {W W2 : World} (hf : Fits n f) (h0 : 0 < n) (hd2 : d < 4294967296) (hH : H ≤ w.heap.size) (hr : r < d)
    (h1 : Blk W H #[.int .u32 d] 46) (h2 : Blk W (H + 2) #[.slice (some ⟨H + 1, 0, none⟩) n n] 22) (h3 : Blk W (H + 3) #[.int .u32 r] 46) (h4 : Own .u32 W (H + 1) 46 n F)
    (h5 : pre = List.range pre.length → pre.length ≤ n → Down d f F n (n - pre.length) r) (h6 : N ≤ W.heap.size) (hN : H + 3 < N) (hBW : Below H w W) (hlen : pre.length < n) (hdr : Drawn W W2) {q r' : Int}
    (hq : q = ((r * 4294967296 + f (n - 1 - x)) / d : Nat)) (hr' : r' = ((r * 4294967296 + f (n - 1 - x)) % d : Nat)) :
    (KeepsOthers W ((W2.setCell ⟨H + 1, n - 1 - x, none⟩ (.int .u32 q)).setCell ⟨H + 3, 0, none⟩ (.int .u32 r')) ∧ KpAll N (H + 1) (H + 3) (H + 3) W ((W2.setCell ⟨H + 1, n - 1 - x, none⟩ (.int .u32 q)).setCell ⟨H + 3, 0, none⟩ (.int .u32 r')) ∧
      ISmall d f n H N w (pre ++ [x]) ((W2.setCell ⟨H + 1, n - 1 - x, none⟩ (.int .u32 q)).setCell ⟨H + 3, 0, none⟩ (.int .u32 r'))) := by
  subst hq hr'
  obtain ⟨qd, rfl⟩ := hdr
  have hb : ∀ j, j ≠ H + 1 → j ≠ H + 3 → (((W.drewN qd).setCell ⟨H + 1, n - 1 - x, none⟩ (.int .u32 ((r * 4294967296 + f (n - 1 - x)) / d : Nat))).setCell ⟨H + 3, 0, none⟩ (.int .u32 ((r * 4294967296 + f (n - 1 - x)) % d : Nat))).heap[j]? = W.heap[j]? := fun j a b => by
    rw [Below.heap_setCell _ _ _ _ (by simpa using b), Below.heap_setCell _ _ _ _ (by simpa using a)]
    rfl
  have hs : (((W.drewN qd).setCell ⟨H + 1, n - 1 - x, none⟩ (.int .u32 ((r * 4294967296 + f (n - 1 - x)) / d : Nat))).setCell ⟨H + 3, 0, none⟩ (.int .u32 ((r * 4294967296 + f (n - 1 - x)) % d : Nat))).heap.size = W.heap.size := by simp [World.setCell]
  refine ⟨?_, ⟨by rw [hs]; exact Nat.le_refl _, fun j hj a b _ => hb j a b⟩, ⟨(r * 4294967296 + f (n - 1 - x)) % d, upd F (n - 1 - x) ((r * 4294967296 + f (n - 1 - x)) / d), Nat.mod_lt _ (by omega), (hb _ (by omega) (by omega)).trans h1, (hb _ (by omega) (by omega)).trans h2, ?_, ?_, ?_, by rw [hs]; exact h6⟩, ?_⟩
  · exact KeepsOthers.trans (B := W.drewN qd) ⟨Nat.le_refl _, fun j o' hj _ => hj⟩ ((KeepsOthers.setCell _ _ _).trans (KeepsOthers.setCell _ _ _))
  · exact Blk.setCell (u := .int .u32 r) (Blk.other (W := W.drewN qd) h3 (by simp) _)
  · exact Own.other (Own.set (W := W.drewN qd) h4 _ _) (by simp) _
  · intro e hl
    have e1 : pre = List.range pre.length ∧ x = pre.length := by
      rw [List.length_append, List.length_singleton, List.range_succ] at e
      have := List.append_inj e (by simp)
      exact ⟨this.1, by simpa using this.2⟩
    have hk : n - pre.length = (n - 1 - x) + 1 := by omega
    have hD := h5 e1.1 (by omega)
    rw [hk] at hD
    have := hD.step (by omega) (hf _ (by omega)) (by omega)
    rw [List.length_append, List.length_singleton, show n - (pre.length + 1) = n - 1 - x by omega]
    exact this
  · refine Below.trans hBW ⟨rfl, rfl, rfl, by rw [hs]; exact Nat.le_refl _, fun j hj => hb j (by omega) (by omega)⟩

theorem Drawn.cell {w w' : World} (h : Drawn w w') (p : Addr) : w'.cell? p = w.cell? p := by
  obtain ⟨q, rfl⟩ := h
  rfl
theorem Drawn.frozen {w w' : World} (h : Drawn w w') (p : Addr) : w'.frozen? p = w.frozen? p := by
  obtain ⟨q, rfl⟩ := h
  rfl
/-- a region that draws its order, in a round, under a condition on the cells that it loads -/
theorem wpIn_round_held {P : Program} {l n id : Nat} {ops : Array Oper} {Q : Exit → Act → World → Prop} {a : Act} {w : World} {S : World → Prop} (hm : P.follows .mixedOrders = true) (hnd : noDefer ops = true) (hQ : ∀ a w, ¬ Q .outgrown a w)
    (h : wpAnyH P .any ops Q S ops.size (Array.replicate ops.size false) a w.drew) : (Code.region id ops true).wpIn (Fence.wide.inRound l) n P Q a w :=
  wpIn_round_draw hm hnd hQ (wpAny_of_held _ _ _ _ h)
theorem anyH_one {P : Program} {md : Region.Mode} {ops : Array Oper} {Q : Exit → Act → World → Prop} {S : World → Prop} {i : Nat} {fuel : Nat} {listed : Array Bool} {a : Act} {w : World} (hr : Region.ready md ops listed = [i])
    (h : wpOp P ops Q i (fun a' w' => S w' ∧ wpAnyH P md ops Q S fuel (listed.setIfInBounds i true) a' w') a w) : wpAnyH P md ops Q S (fuel + 1) listed a w :=
  wpAnyH_all hr (by simp) (fun j hj => by simp at hj; subst hj; exact h)

theorem Nt.put {W : World} {v : Value} {a : Nat} (h : Nt W v a) {D : Nat} {o o' : Obj} (hD : W.heap[D]? = some o) (ho : o.isCells = false) : Nt (W.putObj D o') v a := by
  obtain ⟨n, f, hr, h2⟩ := h
  exact ⟨n, f, hr.put hD ho, h2⟩

/-- at a panic nothing is promised -/
def calm (Q : Exit → Act → World → Prop) : Exit → Act → World → Prop := fun e a w => match e with | .panic _ => False | e => Q e a w
theorem calm_normal {Q : Exit → Act → World → Prop} {a : Act} {w : World} (h : Q .normal a w) : calm Q .normal a w := h
theorem calm_imp {Q : Exit → Act → World → Prop} {e : Exit} {a : Act} {w : World} (h : calm Q e a w) : Q e a w := by
  unfold calm at h
  split at h
  · exact h.elim
  · exact h

set_option maxRecDepth 100000 in
set_option maxHeartbeats 2000000 in
theorem small_row {b off n cap d : Nat} {f : Nat → Nat} {w : World} (hn : n ≤ 536870912) (h0 : 0 < n) (hd : 0 < d) (hd2 : d < 4294967296) (hf : Hid (Fits n f)) (hB : Hid (b < w.heap.size))
    (hc : Hid (∀ j, j < n → w.cell? ⟨b, off + j, none⟩ = some (.int .u32 (f j)))) :
    Calls Tryd.prog 93 #[.slice (some ⟨b, off, none⟩) n cap, .int .u32 d] w fun e w' => ∃ v, e = .returned (.tuple #[v, .int .u32 ((nv f n % d : Nat) : Int), .int .i64 0]) ∧ Nt w' v (nv f n / d) ∧ Below w.heap.size w w' := by
  obtain ⟨i0, hi, hz0, hz1, hz2⟩ := info_parts info_u32
  have hdz : ((d : Int) == 0) = false := by simp; omega
  refine (callsIn_wide (n := 9)).1 ?_
  refine callsIn_of_wp_marks Tryd.func93 rfl trivial ?_ rfl
  simp only [Tryd.ntmps93, List.size_toArray, List.length_cons, List.length_nil, Nat.reduceAdd, Nat.reduceSub, Array.replicate_succ, Array.replicate_zero, List.push_toArray, List.append_toArray, List.nil_append, List.cons_append]
  have hsem : ∀ (l : Nat) (ρ : Operand → Value) (o : Oper), (∀ c, o.op ≠ .defer c) → Oper.semAt (some l) ρ o = execOp ρ o := Oper.semAt_some
  gi_wp2_with (first
    | (refine ⟨trivial, ?_⟩; gi_at_call 113; refine CallsIn.mono (callsIn_wide.2 (backward_any _ _ _ _)) ?_; rintro e w' ⟨rfl, rfl⟩)
    | (gi_at_make; refine wpListIn_make_row _ rfl _ _ 22 rfl 46 i0 .u32 Tryd.underlying22 hi hz0 hz1 _ _ _ _ n n rfl rfl (by omega) (by omega) (by omega) (by rw [hz2]; omega) (by omega) ?_; intro w1 hown hgrow hsz))
  have hs1 : w1.heap.size = w.heap.size + 2 := by rw [hsz, World.size_alloc]
  simp only [World.size_alloc] at hown
  obtain ⟨W0, hW0⟩ : ∃ W0, ((w1.alloc (.cells #[.slice (some ⟨w.heap.size + 1, 0, none⟩) n n] 22)).alloc (.cells #[.int .u32 0] 46)).alloc (.cells #[.slice (some ⟨b, off, none⟩) n cap] 22) = W0 := ⟨_, rfl⟩
  rw [hW0]
  have hs0 : W0.heap.size = w.heap.size + 5 := by rw [← hW0]; simp [hs1]
  have HB : Hid (Below w.heap.size w W0) := by
    rw [← hW0]
    refine Below.trans (b := w1) ?_ (((Below.refl _ _).alloc (by omega) _).alloc (by simp; omega) _ |>.alloc (by simp; omega) _)
    exact Below.grown (w := _) (Below.alloc (Below.refl _ _) (Nat.le_refl _) _) hgrow (by simp) (fun k e => by cases e)
  have hnone : ∀ i : Nat, some i ≠ none := fun i h => by cases h
  have B0 : Blk w1 w.heap.size #[.int .u32 d] 46 := Blk.grown (Blk.new w _ _) hgrow (hnone _)
  have C0 : Blk W0 (w.heap.size + 2) #[.slice (some ⟨w.heap.size + 1, 0, none⟩) n n] 22 := by
    rw [← hW0, ← hs1]; exact ((Blk.new w1 _ _).alloc _).alloc _
  have C1 : Blk W0 (w.heap.size + 3) #[.int .u32 0] 46 := by
    rw [← hW0]
    have := Blk.new (w1.alloc (.cells #[.slice (some ⟨w.heap.size + 1, 0, none⟩) n n] 22)) #[.int .u32 0] 46
    rw [World.size_alloc, hs1] at this
    exact this.alloc _
  have C2 : Blk W0 (w.heap.size + 4) #[.slice (some ⟨b, off, none⟩) n cap] 22 := by
    rw [← hW0]
    have := Blk.new ((w1.alloc (.cells #[.slice (some ⟨w.heap.size + 1, 0, none⟩) n n] 22)).alloc (.cells #[.int .u32 0] 46)) #[.slice (some ⟨b, off, none⟩) n cap] 22
    rw [World.size_alloc, World.size_alloc, hs1] at this
    exact this
  have hI0 : ISmall d f n w.heap.size W0.heap.size w [] W0 := by
    refine ⟨⟨0, fun _ => 0, hd, ?_, C0, C1, ?_, fun _ _ => by simpa using Down.start f hd, Nat.le_refl _⟩, HB.out⟩
    · rw [← hW0]; exact ((B0.alloc _).alloc _).alloc _
    · rw [← hW0]; exact ((hown.alloc _).alloc _).alloc _
  clear hW0
  have hseq := backward_stops (9 - 1) (w.heap.size + 4) b off cap (w.heap.size + 1) (w.heap.size + 3) (w.heap.size + 3) n f (by omega) w W0 HB.out hB.out hc.out (by omega) (by omega) (by omega) C2 (by omega)
  clear C0 C1 C2 B0 hgrow hown hsz hs1 w1
  refine wpIn_rangeFunc_ownF rfl (by omega) (gf := 126) (lb := #[.pointer (some ⟨w.heap.size + 1 + 1 + 1 + 1, 0, none⟩)]) rfl trivial (enters_of Tryd.func126 (by kernel_rfl) rfl)
    hseq KpAll.t (KpAll.b (Nat.le_refl _)) (Below.refl _ _) (fun _ => rfl)
    (ISmall d f n w.heap.size W0.heap.size w) (fun _ _ _ => False) ?own (fun _ _ _ _ _ hs _ _ => hs) hI0
    (fun x => { tmps := #[.slice (some ⟨b, off, none⟩) n cap, .int .u32 d, undef, .pointer (some ⟨w.heap.size, 0, none⟩), .slice none 0 0, .int .u32 0, .int .i64 0, .pointer (some ⟨w.heap.size + 1 + 1, 0, none⟩), .pointer (some ⟨w.heap.size + 1 + 1 + 1, 0, none⟩),
      .int .i64 ((n - 1 - x : Nat) : Int), .int .u32 (f (n - 1 - x)), .int .u32 d, .bool false, .slice (some ⟨b, off, none⟩) n cap, .int .i64 n, .slice (some ⟨w.heap.size + 1, 0, none⟩) n n, .slice (some ⟨b, off, none⟩) n cap,
      .func (.func 126) #[] #[.pointer (some ⟨w.heap.size + 1 + 1 + 1 + 1, 0, none⟩)], .int .i64 ((n - 1 - x : Nat) : Int), .int .u32 (f (n - 1 - x)), undef, undef, undef, undef, undef, undef, undef, undef, undef, undef, undef, undef, undef], defers := [] }) ?assign ?body ?done ?stop
  case own => exact ISmall.own d f n w.heap.size w (Nat.le_refl _) _ (by omega)
  case assign =>
    intro l x W K hK
    unfold encBack
    gi_wp2
    exact hK
  case stop =>
    rintro D c pre W _ _ h _
    exact h.elim
  case done =>
    rintro D ys W hD rfl ⟨⟨r, F, hrd0, h1, h2, h3, h4, h5, h6⟩, hBW⟩ hK
    have hdn := h5 (by rw [List.length_range]) (by rw [List.length_range]; exact Nat.le_refl _)
    rw [List.length_range, Nat.sub_self] at hdn
    have c2 := Blk.cell (cs := #[_]) h2 rfl
    have c3 := Blk.cell (cs := #[_]) h3 rfl
    have hrd := Lib.hid (h4.rd (Nat.le_refl n) (Nat.le_refl n) (by unfold maxLen; omega))
    have HDN := Lib.hid hdn
    have HBW := Lib.hid hBW
    have HDL := Lib.hid hK
    have HD := Lib.hid hD
    clear h1 h4 h5 h6 hBW hK hD hdn
    gi_wp2
    have c2' : W.drew.cell? ⟨w.heap.size + 2, 0, none⟩ = _ := c2
    have c3' : W.drew.cell? ⟨w.heap.size + 3, 0, none⟩ = _ := c3
    have hmx : Tryd.prog.follows .mixedOrders = true := by kernel_rfl
    have HRD : Hid (Rd .u32 W.drew (.slice (some ⟨w.heap.size + 1, 0, none⟩) n n) n F) := hrd
    have hl3 : w.heap.size + 3 < W.drew.heap.size := h3.lt
    refine Code.wpIn_mono (fun _ _ _ h => calm_imp h) ?_
    gi_region_with_o (refine ⟨trivial, ?_⟩; gi_at_call 86; (with_reducible refine CallsIn.mono (callsIn_wide.2 (make_nt HRD.out (by omega) HDN.out.fits)) ?_); rintro e w2 ⟨v, rfl, hv, hb2⟩; have c3'' : w2.cell? ⟨w.heap.size + 3, 0, none⟩ = some (.int .u32 r) := (hb2.cell (p := ⟨w.heap.size + 3, 0, none⟩) hl3).trans c3')
    all_goals
      refine calm_normal ?_
      gi_wp2
      try simp only [Act.put, List.setIfInBounds_toArray, List.set_cons_zero, List.set_cons_succ]
      have hK2 : w2.heap[D]? = some (.deferred (some [])) := (hb2.block D (Array.getElem?_eq_some_iff.1 HDL.out).1).trans HDL.out
      refine ⟨by simp, .inl ⟨_, _, rfl, run_takeDeferred hK2, ?_⟩⟩
      have hfin := HDN.out.done
      refine ⟨.tuple #[v, .int .u32 r, .int .i64 0], by simp [results, Tryd.f93, go_sem], v, by rw [hfin.2], ?_, ?_⟩
      · rw [hfin.1] at hv
        exact Nt.put hv hK2 rfl
      · have hsz := HB.out.size
        exact ((HBW.out.drew).trans (hb2.mono (by have := HBW.out.size; simp; omega))).trans (belowK_b (w := w) (Nat.le_refl _) w2 D _ _ (by have := HD.out; omega) hK2 rfl rfl)
  case body =>
    rintro l pre x W ⟨⟨r, F, hrd0, h1, h2, h3, h4, h5, h6⟩, hBW⟩ hlen
    have hend := Lib.hid (fun W2 (hdr : Drawn W W2) => small_end (x := x) (W2 := W2) hf.out h0 hd2 (Nat.le_refl _) hrd0 h1 h2 h3 h4 h5 h6 (by omega) hBW hlen hdr rfl rfl)
    have hx : n - 1 - x < n := by omega
    have hfx := hf.out _ hx
    generalize n - 1 - x = i at *
    have c1 : W.drew.cell? ⟨w.heap.size, 0, none⟩ = _ := Blk.cell (cs := #[_]) h1 rfl
    have c2 : W.drew.cell? ⟨w.heap.size + 2, 0, none⟩ = _ := Blk.cell (cs := #[_]) h2 rfl
    have c3 : W.drew.cell? ⟨w.heap.size + 3, 0, none⟩ = _ := Blk.cell (cs := #[_]) h3 rfl
    have c4 : W.drew.cell? ⟨w.heap.size + 1, i, none⟩ = _ := h4.cell hx
    have f3 := Blk.free (off := 0) h3.drew
    have f4 := Own.free h4.drew i
    clear h1 h2 h3 h4 h5 h6 hBW
    have hmx : Tryd.prog.follows .mixedOrders = true := by kernel_rfl
    gi_wp2
    refine wpIn_round_held (S := (fun W' => W'.cell? ⟨w.heap.size + 2, 0, none⟩ = some (.slice (some ⟨w.heap.size + 1, 0, none⟩) n n) ∧ W'.cell? ⟨w.heap.size, 0, none⟩ = some (.int .u32 d))) (by kernel_rfl) (by kernel_rfl) (fun _ _ h => h) ?_
    show wpAnyH _ _ _ _ _ 12 (Array.replicate 12 false) _ _
    refine wpAnyH_take (i := 0) (v := .slice (some ⟨w.heap.size + 1, 0, none⟩) n n) rfl (by kernel_rfl) (by kernel_rfl) (by kernel_rfl) (fun _ _ _ h => h) (Or.inl ⟨by rfl, fun w' hw' => ?_⟩) ⟨c2, c1⟩ ?_
    · obtain ⟨k1, k2⟩ := hw'
      go_simp
    try simp only [Act.put, List.setIfInBounds_toArray, List.set_cons_zero, List.set_cons_succ]
    refine wpAnyH_take (i := 1) (v := .int .i64 i) rfl (by kernel_rfl) (by kernel_rfl) (by kernel_rfl) (fun _ _ _ h => h) (Or.inl ⟨by rfl, fun w' hw' => ?_⟩) ⟨c2, c1⟩ ?_
    · obtain ⟨k1, k2⟩ := hw'
      go_simp
    try simp only [Act.put, List.setIfInBounds_toArray, List.set_cons_zero, List.set_cons_succ]
    refine wpAnyH_take (i := 3) (v := .int .u32 (f i)) rfl (by kernel_rfl) (by kernel_rfl) (by kernel_rfl) (fun _ _ _ h => h) (Or.inl ⟨by rfl, fun w' hw' => ?_⟩) ⟨c2, c1⟩ ?_
    · obtain ⟨k1, k2⟩ := hw'
      go_simp
    try simp only [Act.put, List.setIfInBounds_toArray, List.set_cons_zero, List.set_cons_succ]
    refine wpAnyH_take (i := 4) (v := .int .u32 d) rfl (by kernel_rfl) (by kernel_rfl) (by kernel_rfl) (fun _ _ _ h => h) (Or.inl ⟨by rfl, fun w' hw' => ?_⟩) ⟨c2, c1⟩ ?_
    · obtain ⟨k1, k2⟩ := hw'
      go_simp
    try simp only [Act.put, List.setIfInBounds_toArray, List.set_cons_zero, List.set_cons_succ]
    refine anyH_one (i := 2) (by kernel_rfl) (wpOp_step rfl (fun K hK => ?_))
    go_simp
    refine hK _ _ ⟨⟨c2, c1⟩, ?_⟩
    clear hK K
    try simp only [Act.put, List.setIfInBounds_toArray, List.set_cons_zero, List.set_cons_succ]
    refine anyH_one (i := 5) (by kernel_rfl) (wpOp_step rfl (fun K hK => ?_))
    go_simp
    go_at_call 114
    (with_reducible refine (div32_any hrd0 hfx hd2 _).mono ?_)
    rintro e w' ⟨rfl, hdr⟩
    have c1' := (hdr.cell _).trans c1
    have c2' := (hdr.cell _).trans c2
    have c3' := (hdr.cell _).trans c3
    have c4' := (hdr.cell _).trans c4
    have f3' := (hdr.frozen _).trans f3
    have f4' := (hdr.frozen _).trans f4
    refine hK _ _ ⟨⟨c2', c1'⟩, ?_⟩
    clear hK K
    try simp only [Act.put, List.setIfInBounds_toArray, List.set_cons_zero, List.set_cons_succ]
    generalize hQ : (r * 4294967296 + f i) / d = q0 at *
    generalize hR : (r * 4294967296 + f i) % d = r0 at *
    refine wpAnyH_take (i := 6) (v := .tuple #[.int .u32 (q0 : Nat), .int .u32 (r0 : Nat)]) rfl (by kernel_rfl) (by kernel_rfl) (by kernel_rfl) (fun _ _ _ h => h) (Or.inl ⟨by rfl, fun w' hw' => ?_⟩) ⟨c2', c1'⟩ ?_
    · obtain ⟨k1, k2⟩ := hw'
      go_simp
    try simp only [Act.put, List.setIfInBounds_toArray, List.set_cons_zero, List.set_cons_succ]
    refine wpAnyH_take (i := 7) (v := .int .u32 (q0 : Nat)) rfl (by kernel_rfl) (by kernel_rfl) (by kernel_rfl) (fun _ _ _ h => h) (Or.inl ⟨by rfl, fun w' hw' => ?_⟩) ⟨c2', c1'⟩ ?_
    · obtain ⟨k1, k2⟩ := hw'
      go_simp
    try simp only [Act.put, List.setIfInBounds_toArray, List.set_cons_zero, List.set_cons_succ]
    refine wpAnyH_take (i := 8) (v := .int .u32 (r0 : Nat)) rfl (by kernel_rfl) (by kernel_rfl) (by kernel_rfl) (fun _ _ _ h => h) (Or.inl ⟨by rfl, fun w' hw' => ?_⟩) ⟨c2', c1'⟩ ?_
    · obtain ⟨k1, k2⟩ := hw'
      go_simp
    try simp only [Act.put, List.setIfInBounds_toArray, List.set_cons_zero, List.set_cons_succ]
    refine wpAnyH_take (i := 9) (v := .pointer (some ⟨w.heap.size + 1, i, none⟩)) rfl (by kernel_rfl) (by kernel_rfl) (by kernel_rfl) (fun _ _ _ h => h) (Or.inl ⟨by rfl, fun w' hw' => ?_⟩) ⟨c2', c1'⟩ ?_
    · obtain ⟨k1, k2⟩ := hw'
      go_simp
    try simp only [Act.put, List.setIfInBounds_toArray, List.set_cons_zero, List.set_cons_succ]
    refine anyH_one (i := 10) (by kernel_rfl) (wpOp_step rfl (fun K hK => ?_))
    go_simp
    refine hK _ _ ⟨⟨cell_apart c2' (by omega), cell_apart c1' (by omega)⟩, ?_⟩
    clear hK K
    try simp only [Act.put, List.setIfInBounds_toArray, List.set_cons_zero, List.set_cons_succ]
    have c3'' := cell_apart (i := i) (v := .int .u32 (q0 : Nat)) c3' (show w.heap.size + 3 ≠ w.heap.size + 1 by omega)
    refine anyH_one (i := 11) (by kernel_rfl) (wpOp_step rfl (fun K hK => ?_))
    go_simp
    refine hK _ _ ⟨⟨cell_apart (cell_apart c2' (by omega)) (by omega), cell_apart (cell_apart c1' (by omega)) (by omega)⟩, ?_⟩
    clear hK K
    refine wpAnyH_done (by kernel_rfl) ?_ _
    exact hend.out _ (Drawn.trans ⟨1, rfl⟩ hdr)

/-- slices.Backward's closure over an empty slice comes by nothing -/
theorem backward0_in (m l Bs cap N p q r : Nat) (ao : Option Addr) (J Jx : List Nat → World → Prop) (W : World)
    (hs : Hid (∀ W', KpAll N p q r W W' → W'.cell? ⟨Bs, 0, none⟩ = some (.slice ao 0 cap))) (h0 : J [] W) :
    CallsIn Fence.wide m Tryd.prog 126 (#[.func (.yield l) #[] #[]] ++ #[.pointer (some ⟨Bs, 0, none⟩)]) W fun e W' => (∃ v, e = .returned v) ∧
      ((∃ ys, ys = List.range 0 ∧ J ys W') ∨ (∃ pre, True ∧ Jx pre W')) := by
  refine callsIn_of_wp Tryd.func126 rfl trivial ?_ rfl
  simp only [Tryd.ntmps126, List.size_toArray, List.length_cons, List.length_nil, Nat.reduceAdd, Nat.reduceSub, Array.replicate_succ, Array.replicate_zero, List.push_toArray, List.append_toArray, List.nil_append, List.cons_append]
  have hs0 := hs.out W ⟨Nat.le_refl _, fun _ _ _ _ _ => rfl⟩
  have hsem : ∀ (l : Nat) (ρ : Operand → Value) (o : Oper), (∀ c, o.op ≠ .defer c) → Oper.semAt (some l) ρ o = execOp ρ o := Oper.semAt_some
  gi_wp2
  gi_loopw [3] (fun i wr => i = .int .i64 (-1) ∧ J [] wr) (fun i _ => (intOf i + 1).toNat)
  case atStart => exact ⟨by first | rfl | go_num, h0⟩
  case round =>
    obtain ⟨rfl, hJs⟩ := hrel
    gi_wp2
    go_end0
    exact ⟨⟨_, rfl⟩, .inl ⟨_, rfl, hJs⟩⟩
end Go.Proofs.YtopbfgmpilnghaaDoor
