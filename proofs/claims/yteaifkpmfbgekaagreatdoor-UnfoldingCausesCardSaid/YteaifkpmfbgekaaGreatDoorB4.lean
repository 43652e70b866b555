/- From the checks to a full order. -/
import Derived.Test.YteaifkpmfbgekaaGreatDoorB3
import Derived.Sort.Grow
set_option linter.all false
set_option linter.deprecated false
namespace Go.Proofs.YteaifkpmfbgekaaGreatDoor.M
open Go
section
variable {P : Program} {E : Env}

theorem allPairs_spec {α : Type} {r : α → α → Bool} : ∀ {l : List α}, allPairs r l = true → ∀ {p q : Nat} {x y : α}, p < q → l[p]? = some x → l[q]? = some y → r x y = true
  | [], _, p, q, x, y, _, hx, _ => by simp at hx
  | z :: l, h, p, q, x, y, hpq, hx, hy => by
    simp only [allPairs, Bool.and_eq_true, List.all_eq_true] at h
    obtain ⟨q', rfl⟩ : ∃ q', q = q' + 1 := ⟨q - 1, by omega⟩
    rw [List.getElem?_cons_succ] at hy
    cases p with
    | zero => simp at hx; subst hx; exact h.1 y (List.mem_of_getElem? hy)
    | succ p => rw [List.getElem?_cons_succ] at hx; exact allPairs_spec h.2 (by omega) hx hy

theorem edgesA_spec : ∀ {l : List (Nat × Oper)} {seen : List Nat}, edgesA seen l = true → ∀ {q i : Nat} {o : Oper}, l[q]? = some (i, o) → ∀ e ∈ o.after, Region.binds .any e = true →
    e.on ∈ seen ∨ ∃ p o', p < q ∧ l[p]? = some (e.on, o')
  | [], _, _, q, i, o, hx, _, _, _ => by simp at hx
  | (i0, o0) :: l, seen, h, q, i, o, hx, e, he, hb => by
    simp only [edgesA, Bool.and_eq_true, List.all_eq_true] at h
    cases q with
    | zero =>
      simp at hx
      obtain ⟨rfl, rfl⟩ := hx
      have := h.1 e (by simpa using he)
      simp [hb] at this
      exact .inl this
    | succ q =>
      rw [List.getElem?_cons_succ] at hx
      rcases edgesA_spec h.2 hx e he hb with h1 | ⟨p, o', h1, h2⟩
      · rcases List.mem_cons.1 h1 with h1 | h1
        · exact .inr ⟨0, o0, by omega, by rw [h1]; rfl⟩
        · exact .inl h1
      · exact .inr ⟨p + 1, o', by omega, by rw [List.getElem?_cons_succ]; exact h2⟩

theorem lookup_some {l : List (Nat × List Nat)} {i : Nat} {x : List Nat} (h : l.lookup i = some x) : ∃ r : Nat, l[r]? = some (i, x) := by
  induction l with
  | nil => simp at h
  | cons y l ih =>
    obtain ⟨k, v⟩ := y
    rw [List.lookup_cons] at h
    split at h
    · rename_i hk
      cases h
      exact ⟨0, by simpa using (eq_of_beq hk).symm⟩
    · obtain ⟨r, hr⟩ := ih h
      exact ⟨r + 1, by rw [List.getElem?_cons_succ]; exact hr⟩

theorem aheadA_spec : ∀ (l : List (Nat × Oper)) (acc : List (Nat × List Nat)), ∃ rest, aheadA l acc = acc ++ rest ∧ rest.length = l.length ∧
    ∀ (p i : Nat) (o : Oper), l[p]? = some (i, o) → ∃ an, rest[p]? = some (i, an) ∧
      ∀ j ∈ an, ∃ e ∈ o.after, Region.binds .any e = true ∧ (j = e.on ∨ ∃ r an', r < acc.length + p ∧ (acc ++ rest)[r]? = some (e.on, an') ∧ j ∈ an')
  | [], acc => ⟨[], by simp [aheadA], rfl, fun p i o h => by simp at h⟩
  | (i, o) :: l, acc => by
    simp only [aheadA]
    generalize han : (o.after.toList.flatMap fun e => if Region.binds .any e then e.on :: (acc.lookup e.on).getD [] else []) = an
    obtain ⟨rest, h1, h2, h3⟩ := aheadA_spec l (acc ++ [(i, an)])
    refine ⟨(i, an) :: rest, by rw [h1]; simp, by simp [h2], fun p i' o' hp => ?_⟩
    cases p with
    | zero =>
      simp at hp
      obtain ⟨rfl, rfl⟩ := hp
      refine ⟨an, rfl, fun j hj => ?_⟩
      subst han
      obtain ⟨e, he, hje⟩ := List.mem_flatMap.1 hj
      split at hje
      · rename_i hb
        refine ⟨e, by simpa using he, hb, ?_⟩
        rcases List.mem_cons.1 hje with h | h
        · exact .inl h
        · cases hl : acc.lookup e.on with
          | none => rw [hl] at h; simp at h
          | some x =>
            rw [hl] at h
            obtain ⟨r, hr⟩ := lookup_some hl
            have hlt := (List.getElem?_eq_some_iff.1 hr).1
            exact .inr ⟨r, x, by omega, by rw [List.getElem?_append_left hlt]; exact hr, h⟩
      · simp at hje
    | succ p =>
      rw [List.getElem?_cons_succ] at hp
      obtain ⟨an', e1, e2⟩ := h3 p i' o' hp
      refine ⟨an', by rw [List.getElem?_cons_succ]; exact e1, fun j hj => ?_⟩
      obtain ⟨e, he, hb, hc⟩ := e2 j hj
      refine ⟨e, he, hb, ?_⟩
      rcases hc with rfl | ⟨r, an2, hr, hx, hm⟩
      · exact .inl rfl
      · refine .inr ⟨r, an2, by simp at hr; omega, ?_, hm⟩
        simpa using hx

theorem opsTA_trace {call : CallR} {ops : Array Oper} : ∀ (l : List (Nat × Oper)) (s s' : S) (fs : List Foot), opsTA E call ops l s = some (s', fs) →
    ∃ (st : Nat → S) (ft : Nat → Foot), st 0 = s ∧ st l.length = s' ∧ fs.length = l.length ∧ (∀ p, p < l.length → fs[p]? = some (ft p)) ∧
      ∀ p i o, l[p]? = some (i, o) → stepA E call ops o (st p) = some (st (p + 1), ft p)
  | [], s, s', fs, h => by
    simp only [opsTA] at h
    cases h
    exact ⟨fun _ => s, fun _ => ⟨false, false, [], none, 0, 0⟩, rfl, rfl, rfl, fun p hp => by simp at hp, fun p i o h => by simp at h⟩
  | (i, o) :: l, s, s', fs, h => by
    simp only [opsTA] at h
    split at h
    · rename_i s1 f hs
      split at h
      · rename_i s2 fs2 hr
        cases h
        obtain ⟨st, ft, h1, h2, h3, h4, h5⟩ := opsTA_trace l s1 s' fs2 hr
        refine ⟨fun | 0 => s | p + 1 => st p, fun | 0 => f | p + 1 => ft p, rfl, h2, by simp [h3], fun p hp => ?_, fun p i' o' hp => ?_⟩
        · cases p with
          | zero => rfl
          | succ p => rw [List.getElem?_cons_succ]; exact h4 p (by simpa using hp)
        · cases p with
          | zero =>
            simp at hp
            obtain ⟨rfl, rfl⟩ := hp
            show stepA E call ops o s = some (st 0, f)
            rw [h1]; exact hs
          | succ p =>
            rw [List.getElem?_cons_succ] at hp
            exact h5 p i' o' hp
      · cases h
    · cases h

theorem order_perm (ops : Array Oper) : (orderA ops).Perm (ops.toList.zipIdx.map fun (o, i) => (i, o)) := by
  unfold orderA
  exact List.filter_append_perm _ _

theorem order_get {ops : Array Oper} {p i : Nat} {o : Oper} (h : (orderA ops)[p]? = some (i, o)) : ops[i]? = some o := by
  have hm := (order_perm ops).mem_iff.1 (List.mem_of_getElem? h)
  obtain ⟨⟨o', i'⟩, h1, h2⟩ := List.mem_map.1 hm
  cases h2
  have := List.mem_zipIdx_iff_getElem?.1 h1
  simpa using this

theorem order_len (ops : Array Oper) : (orderA ops).length = ops.size := by
  rw [(order_perm ops).length_eq]; simp

theorem order_fst (ops : Array Oper) : ((orderA ops).map (·.1)).Perm (List.range ops.size) := by
  refine ((order_perm ops).map _).trans ?_
  rw [List.map_map]
  have : ((fun x : Nat × Oper => x.1) ∘ fun (x : Oper × Nat) => (x.2, x.1)) = Prod.snd := rfl
  show (List.map ((fun x : Nat × Oper => x.1) ∘ fun (x : Oper × Nat) => (x.2, x.1)) ops.toList.zipIdx).Perm _
  rw [this, List.zipIdx_map_snd, List.range_eq_range']
  simp

/-- What is asked of a region that draws its order. -/
def DrawSound (P : Program) (E : Env) (call : CallR) (okRegion : Array Oper → Prop) : Prop :=
  ∀ {id : Nat} {ops : Array Oper} {s s' : S} {fs : List Foot}, okRegion ops → opsTA E call ops (orderA ops) s = some (s', fs) → drawA (orderA ops) fs = true →
    TrS s s' ∧ ∀ {T : Sto} {μ : Mu} {a : Act} {w : World}, StR s T μ a w → ∀ {Q : Exit → Act → World → Prop}, (∀ a' w' T' μ', StR s' T' μ' a' w' → Tr s T μ w s' T' μ' w' → Q .normal a' w') → (Code.region id ops true).wp P Q a w

theorem draw_trace {call : CallR} {ops : Array Oper} {s s' : S} {fs : List Foot} (hok : regionOk ops = true) (h : opsTA E call ops (orderA ops) s = some (s', fs)) (hd : drawA (orderA ops) fs = true) :
    ∃ ix op st ft anc, Trace E call ops ops.size ix op st ft anc ∧ st 0 = s ∧ st ops.size = s' := by
  obtain ⟨st, ft, h1, h2, h3, h4, h5⟩ := opsTA_trace _ _ _ _ h
  obtain ⟨A, a1, a2, a3⟩ := aheadA_spec (orderA ops) []
  simp only [List.nil_append, List.length_nil, Nat.zero_add] at a1 a3
  have hN := order_len ops
  rw [hN] at h2 h3 h4 a2
  unfold regionOk at hok
  simp only [Bool.and_eq_true] at hok
  obtain ⟨c1, c2⟩ := hok
  rw [a1] at c2
  let d : Nat × Oper := (0, ⟨none, .panic (.func 0), 0, default, #[], none⟩)
  have hget : ∀ p, p < ops.size → (orderA ops)[p]? = some (((orderA ops).getD p d).1, ((orderA ops).getD p d).2) := by
    intro p hp
    have : p < (orderA ops).length := by omega
    simp [this]
  have hA : ∀ p, p < ops.size → A[p]? = some (((orderA ops).getD p d).1, (A.getD p (0, [])).2) := by
    intro p hp
    obtain ⟨an, e1, _⟩ := a3 p _ _ (hget p hp)
    rw [e1]
    have : A.getD p (0, []) = (((orderA ops).getD p d).1, an) := by simp only [List.getD_eq_getElem?_getD, e1]; rfl
    rw [this]
  have hnod : ((orderA ops).map (·.1)).Nodup := (order_fst ops).nodup_iff.2 List.nodup_range
  refine ⟨fun p => ((orderA ops).getD p d).1, fun p => ((orderA ops).getD p d).2, st, ft, fun p => (A.getD p (0, [])).2, ⟨rfl, fun p hp => order_get (hget p hp), fun p hp => stepA_is (h5 p _ _ (hget p hp)), fun p q hp hq he => ?_, fun i hi => ?_, fun q hq j hj => ?_, fun q hq e he hb => ?_, fun p q hpq hq => ?_, fun p q hpq hq hc => ?_⟩, h1, h2⟩
  · refine (List.getElem?_inj (l := (orderA ops).map (·.1)) (i := p) (j := q) (by rw [List.length_map]; omega) hnod).1 ?_
    rw [List.getElem?_map, List.getElem?_map, hget p hp, hget q hq]
    simp only [Option.map_some]
    exact congrArg some he
  · have : i ∈ (orderA ops).map (·.1) := (order_fst ops).mem_iff.2 (by simpa using hi)
    obtain ⟨p, hp⟩ := List.getElem?_of_mem this
    rw [List.getElem?_map] at hp
    have hlt : p < ops.size := by
      by_cases hlt : p < (orderA ops).length
      · omega
      · rw [List.getElem?_eq_none (by omega)] at hp; cases hp
    refine ⟨p, hlt, ?_⟩
    rw [hget p hlt] at hp
    simpa using hp
  · obtain ⟨an, e1, e2⟩ := a3 q _ _ (hget q hq)
    have e3 := hA q hq
    rw [e1] at e3
    simp only [Option.some.injEq, Prod.mk.injEq, true_and] at e3
    rw [← e3] at hj
    obtain ⟨e, he, hb, hc⟩ := e2 j hj
    refine ⟨e, he, hb, ?_⟩
    rcases hc with rfl | ⟨r, an', hr, hx, hm⟩
    · exact .inl rfl
    · refine .inr ⟨r, hr, ?_, ?_⟩
      · have := hA r (by omega)
        rw [hx] at this
        simp only [Option.some.injEq, Prod.mk.injEq] at this
        exact this.1.symm
      · have := hA r (by omega)
        rw [hx] at this
        simp only [Option.some.injEq, Prod.mk.injEq] at this
        rw [← this.2]; exact hm
  · rcases edgesA_spec c1 (hget q hq) e he hb with h | ⟨p, o', hp, hx⟩
    · simp at h
    · refine ⟨p, hp, ?_⟩
      have := hget p (by omega)
      rw [hx] at this
      simp only [Option.some.injEq, Prod.mk.injEq] at this
      exact this.1.symm
  · have g : ∀ p, p < ops.size → ((A.zip (orderA ops)).map fun p => (p.1.1, p.1.2, p.2.2))[p]? = some (((orderA ops).getD p d).1, (A.getD p (0, [])).2, ((orderA ops).getD p d).2) := by
      intro p hp
      rw [List.getElem?_map, (List.getElem?_zip_eq_some (z := ((((orderA ops).getD p d).1, (A.getD p (0, [])).2), (((orderA ops).getD p d).1, ((orderA ops).getD p d).2)))).2 ⟨hA p hp, hget p hp⟩]
      rfl
    have := allPairs_spec c2 hpq (g p (by omega)) (g q hq)
    simpa using this
  · unfold drawA at hd
    rw [Bool.or_eq_true] at hd
    rcases hd with hd | hd
    · rw [List.all_eq_true] at hd
      have quiet : ∀ p, p < ops.size → (ft p).wr = none ∧ (ft p).wall = false ∧ (ft p).lo = (ft p).hi := by
        intro p hp
        have := hd _ (List.mem_of_getElem? (h4 p hp))
        simp at this
        exact ⟨this.1.1, this.1.2, this.2⟩
      obtain ⟨p1, p2, p3⟩ := quiet p (by omega)
      obtain ⟨q1, q2, q3⟩ := quiet q hq
      rw [clash_iff] at hc
      have nm : ∀ {f : Foot} {b : Nat}, f.lo = f.hi → f.made b = true → False := by
        intro f b h1 h2
        have := made_iff.1 h2
        omega
      rcases hc with ⟨b, h, _⟩ | ⟨b, h, _⟩ | ⟨h, _⟩ | ⟨h, _⟩ | ⟨_, h⟩ | ⟨b, _, h⟩ | ⟨b, _, h⟩
      · rw [p1] at h; cases h
      · rw [q1] at h; cases h
      · rw [p2] at h; cases h
      · rw [q2] at h; cases h
      · omega
      · exact (nm p3 h).elim
      · exact (nm q3 h).elim
    · rw [a1] at hd
      have g : ∀ p, p < ops.size → ((A.zip fs).map fun p => (p.1.1, p.1.2, p.2))[p]? = some (((orderA ops).getD p d).1, (A.getD p (0, [])).2, ft p) := by
        intro p hp
        rw [List.getElem?_map, (List.getElem?_zip_eq_some (z := ((((orderA ops).getD p d).1, (A.getD p (0, [])).2), ft p))).2 ⟨hA p hp, h4 p hp⟩]
        rfl
      have := allPairs_spec hd hpq (g p (by omega)) (g q hq)
      simp [hc] at this
      exact this

theorem draw_sound {call : CallR} (hcall : SoundCall P call) (hE : E.Types P) (hm : P.follows .mixedOrders = true) : DrawSound P E call (fun ops => regionOk ops = true) := by
  intro id ops s s' fs hok h hd
  obtain ⟨ix, op, st, ft, anc, tr, rfl, rfl⟩ := draw_trace hok h hd
  refine ⟨tr.trs hcall (Nat.zero_le _) (Nat.le_refl _), fun {T μ a w} R Q hQ => ?_⟩
  obtain ⟨i1, i2⟩ := R.inv.of_heap (w' := { w with drawn := w.drawn + 1 }) rfl rfl rfl rfl
  have hls : ∀ p, lis ix (Array.replicate ops.size false) p = false := by
    intro p
    unfold lis
    rw [Array.getD_eq_getD_getElem?, Array.getElem?_replicate]
    split <;> rfl
  refine wp_region_any hm (any_sound (T0 := T) (μ0 := μ) (w0 := w) hcall hE tr hQ _ _ T μ a _ ⟨by simp, fun q _ hl => ?_, i1, R.defers, ?_, fun b k hk => ?_, ⟨i2, fun _ _ h => h, fun _ _ _ => ⟨rfl, rfl⟩⟩⟩ (left_le _ _))
  · rw [hls] at hl; cases hl
  · have : sa st op (lis ix (Array.replicate ops.size false)) ops.size = (st 0).sl := by
      rw [sa_congr (ls := fun _ => false) fun i _ => hls i]
      generalize ops.size = n
      induction n with
      | zero => rfl
      | succ n ih => simpa [sa] using ih
    rw [this]; exact R.sl.mono i2
  · have : bl st ft (lis ix (Array.replicate ops.size false)) ops.size b = (st 0).st[b]? := by
      rw [bl_congr (ls := fun _ => false) fun i _ _ => hls i]
      generalize ops.size = n
      induction n with
      | zero => rfl
      | succ n ih => simpa [bl] using ih
    rw [this]; exact R.sub b k hk
end
end Go.Proofs.YteaifkpmfbgekaaGreatDoor.M

namespace Go.Proofs.YteaifkpmfbgekaaGreatDoor.M
open Go Go.Sort
section
variable {P : Program} {E : Env}

theorem insI_perm (x : Int) : ∀ l, (insI x l).Perm (x :: l)
  | [] => .refl _
  | y :: l => by
    simp only [insI]
    split
    · exact .refl _
    · exact ((insI_perm x l).cons y).trans (.swap x y l)
theorem isort_perm : ∀ l : List Int, (isort l).Perm l
  | [] => .refl _
  | x :: l => (insI_perm x (isort l)).trans ((isort_perm l).cons x)
theorem insI_sorted (x : Int) : ∀ {l : List Int}, l.Pairwise (· ≤ ·) → (insI x l).Pairwise (· ≤ ·)
  | [], _ => by simp [insI]
  | y :: l, h => by
    simp only [insI]
    rw [List.pairwise_cons] at h
    split
    · rename_i hxy
      refine List.pairwise_cons.2 ⟨fun z hz => ?_, List.pairwise_cons.2 h⟩
      rcases List.mem_cons.1 hz with rfl | hz
      · exact hxy
      · exact Int.le_trans hxy (h.1 z hz)
    · rename_i hxy
      refine List.pairwise_cons.2 ⟨fun z hz => ?_, insI_sorted x h.2⟩
      rcases List.mem_cons.1 ((insI_perm x l).mem_iff.1 hz) with rfl | hz
      · omega
      · exact h.1 z hz
theorem isort_sorted : ∀ l : List Int, (isort l).Pairwise (· ≤ ·)
  | [] => .nil
  | x :: l => insI_sorted x (isort_sorted l)

theorem sorted_unique : ∀ {l l' : List Int}, l.Perm l' → l.Pairwise (· ≤ ·) → l'.Pairwise (· ≤ ·) → l = l'
  | [], l', h, _, _ => by rw [List.nil_perm.1 h]
  | x :: l, [], h, _, _ => by have := h.length_eq; simp at this
  | x :: l, y :: l', h, h1, h2 => by
    rw [List.pairwise_cons] at h1 h2
    have hxy : x = y := by
      have a : x ∈ y :: l' := h.mem_iff.1 (by simp)
      have b : y ∈ x :: l := h.mem_iff.2 (by simp)
      rcases List.mem_cons.1 a with a | a
      · exact a
      · rcases List.mem_cons.1 b with b | b
        · exact b.symm
        · have := h1.1 y b; have := h2.1 x a; omega
    subst hxy
    rw [sorted_unique ((List.perm_cons x).1 h) h1.2 h2.2]

theorem isort_eq (l : List Int) : (l.mergeSort fun x y => decide (x ≤ y)) = isort l := by
  refine sorted_unique ((List.mergeSort_perm l _).trans (isort_perm l).symm) ?_ (isort_sorted l)
  have := List.pairwise_mergeSort (le := fun x y : Int => decide (x ≤ y)) (fun a b c h1 h2 => by simp at *; omega) (fun a b => by simp; omega) l
  exact this.imp fun h => by simpa using h

theorem isort_length (l : List Int) : (isort l).length = l.length := (isort_perm l).length_eq

theorem intsA_eq : ∀ {l : List AV} {zs : List Int}, intsA l = some zs → l = zs.map (.int .i64)
  | [], zs, h => by simp only [intsA] at h; cases h; rfl
  | v :: l, zs, h => by
    unfold intsA at h
    split at h
    · rename_i heq; cases heq
    · rename_i n l' heq
      cases heq
      split at h
      · rename_i ns hns
        cases h
        rw [intsA_eq hns]; rfl
      · cases h
    · cases h

/-- Old blocks are as they were; there may be new ones. -/
theorem Inv.ext {T : Sto} {μ : Mu} {w w' : World} (h : Inv T μ w) (hh : ∀ i, i < w.heap.size → w'.heap[i]? = w.heap[i]?) (hs : w.heap.size ≤ w'.heap.size) (ho : w'.os = w.os) (ht : w'.tape = w.tape) (hout : w'.output = w.output) :
    Inv T μ w' ∧ Evo T μ w T μ w' := by
  have ev : Evo T μ w T μ w' := ⟨fun _ k h => ⟨k, h, Nat.le_refl _, fun _ _ hc => ⟨hc, rfl, rfl⟩⟩, ho, ht, hout, hs, fun i hi hp => ⟨hh i hi, hp⟩⟩
  refine ⟨⟨h.inj, fun b c hc => ?_, fun g l hg => (h.glob g l hg).mono ev⟩, ev⟩
  obtain ⟨k, hk, cs, e, h1, h2, h3, h4⟩ := h.blk b c hc
  exact ⟨k, hk, cs, e, by rw [hh _ (Array.getElem?_eq_some_iff.1 h1).1]; exact h1, h2, h3, h4.mono ev⟩

/-- What the library's contract says. -/
def Sorts (P : Program) (f : FuncId) : Prop :=
  ∀ (blk off cap : Nat) (zs : List Int) (w : World), Holds (Value.int .i64) w blk off zs.toArray → blk < w.heap.size → zs.length < 4611686018427387904 →
    Calls P f #[.slice (some ⟨blk, off, none⟩) zs.length cap] w fun e w' =>
      e = .returned (.tuple #[]) ∧ ∃ n os, w' = grow (putRow (Value.int .i64) (Sort.ahead w n) blk off (zs.mergeSort fun x y => decide (x ≤ y)).toArray) os

theorem putCells_paste (cs : Array Value) (off : Nat) (ds : List Int) (h : off + ds.length ≤ cs.size) : (putCells (Value.int .i64) off ds.toArray cs).toList = M.paste cs.toList off (ds.map (Value.int .i64)) := by
  rw [paste_eq _ _ _ (by simpa using h)]
  apply List.ext_getElem?
  intro j
  have h1 : (putCells (Value.int .i64) off ds.toArray cs).toList[j]? = (cs[j]?).map fun x => if off ≤ j ∧ j < off + ds.length then Value.int .i64 ds.toArray[j - off]! else x := by
    rw [Array.getElem?_toList]; unfold putCells; rw [Array.getElem?_mapIdx]; simp
  rw [h1, List.append_assoc, List.getElem?_append]
  simp only [List.length_take, Array.length_toList]
  by_cases hj1 : j < off
  · rw [if_pos (by omega), List.getElem?_take_of_lt hj1, Array.getElem?_toList]
    have : ¬ (off ≤ j ∧ j < off + ds.length) := by omega
    simp only [this, if_false]
    cases cs[j]? <;> rfl
  · rw [if_neg (by omega), List.getElem?_append]
    have e0 : j - min off cs.size = j - off := by omega
    rw [e0, List.length_map]
    by_cases hj2 : j < off + ds.length
    · rw [if_pos (by omega)]
      have hlt : j < cs.size := by omega
      have hlt2 : j - off < ds.length := by omega
      simp [hlt, hlt2, show off ≤ j by omega, hj2]
    · rw [if_neg (by omega), List.getElem?_drop, Array.getElem?_toList]
      have : ¬ (off ≤ j ∧ j < off + ds.length) := by omega
      simp only [this, if_false]
      have e1 : off + ds.length + (j - off - ds.length) = j := by omega
      rw [e1]
      cases cs[j]? <;> rfl

theorem sort_calls {f : FuncId} (hS : Sorts P f) {args : List AV} {st st' : List Blk} {r : AV} {low : Nat} (h : sortA st args = some (r, st', low)) {T : Sto} {μ : Mu} {w : World} {xs : List Value} (hsub : Sub T st) (hI : Inv T μ w) (ha : Rels T μ w args xs) :
    Calls P f xs.toArray w fun e w' => ∃ x T' μ', e = .returned x ∧ CallOut T μ w st r st' low x T' μ' w' := by
  unfold sortA at h
  split at h
  · rename_i b off len ver sz
    split at h
    · cases h
    · rename_i k hk
      split at h
      · rename_i hc
        obtain ⟨c1, c2, c3⟩ := hc
        split at h
        · cases h
        · rename_i l hl
          split at h
          · cases h
          · rename_i zs hzs
            simp only [Option.some.injEq, Prod.mk.injEq] at h
            obtain ⟨rfl, rfl, rfl⟩ := h
            obtain ⟨x, hx, hr⟩ := ha.get (j := 0) (v := .sl b off len ver sz) rfl
            have hxs : xs = [x] := by
              have := ha.1
              match xs, this, hx with
              | [y], _, h => simp at h; rw [h]
            subst hxs
            cases hr with
            | @sl _ _ _ _ _ cap a k0 hk0 hv hlc hrest =>
              have hkk : k0 = k := by have := hsub _ _ hk0; rw [hk] at this; cases this; rfl
              subst hkk
              obtain ⟨c, hμ, rfl, hsz, hlen, _, _⟩ := hrest c1.symm
              obtain ⟨k1, hk1, cs, e, hb, hcs, hone, hrel⟩ := hI.blk b c hμ
              rw [hk0] at hk1; cases hk1
              rw [hsz, c2, Nat.mul_one] at hlen
              obtain ⟨hle, hll⟩ := cut_eq hl
              have hz := intsA_eq hzs
              have hzl : zs.length = len := by rw [← hll, hz]; simp
              have hcl : k0.cells.length ≤ cs.size := by
                have := hrel.1
                simp at this; omega
              have hcell : ∀ j, j < zs.length → cs[off + j]? = some (.int .i64 zs[j]!) := by
                intro j hj
                have h1 : k0.cells[off + j]? = some (.int .i64 zs[j]!) := by
                  have : l[j]? = some (.int .i64 zs[j]!) := by rw [hz]; simp [hj]
                  rw [hle, List.getElem?_take_of_lt (by omega), List.getElem?_drop] at this
                  exact this
                obtain ⟨y, hy, hyr⟩ := hrel.get h1
                rw [List.getElem?_take_of_lt (by omega), Array.getElem?_toList] at hy
                cases hyr
                exact hy
              have hH : Holds (Value.int .i64) w c.1 off zs.toArray := by
                intro j hj
                have hj' : j < zs.length := by simpa using hj
                refine ⟨?_, by simp [World.frozen?, hb]⟩
                simp only [World.cell?, hb]
                simp only [Option.isSome_none, Bool.false_eq_true, if_false]
                rw [hcell j hj']
                simp [hj']
              have hC := hS c.1 off cap zs w hH (hI.lt hμ) (by omega)
              rw [hzl] at hC
              refine hC.mono fun e' w' hx => ?_
              obtain ⟨rfl, n, os, rfl⟩ := hx
              have hll2 : off + (isort zs).length ≤ cs.size := by rw [isort_length]; omega
              have hsize : (putCells (Value.int .i64) off (isort zs).toArray cs).size = cs.size := by simp [putCells]
              have hnew : Rels T μ w (M.paste k0.cells off ((isort zs).map (.int .i64))) ((putCells (Value.int .i64) off (isort zs).toArray cs).toList.take (M.paste k0.cells off ((isort zs).map (.int .i64))).length) := by
                rw [putCells_paste cs off _ hll2, paste_length, paste_take _ _ _ _ (by simp [isort_length]; omega) (by simpa using hcl)]
                refine hrel.paste ?_ off
                refine .of_get (by simp) fun j v y hv hy => ?_
                rw [List.getElem?_map] at hv hy
                cases hg : (isort zs)[j]? with
                | none => rw [hg] at hv; cases hv
                | some z => rw [hg] at hv hy; cases hv; cases hy; exact .int _ _
              obtain ⟨i1, i2⟩ := hI.write (k' := { k0 with cells := M.paste k0.cells off ((isort zs).map (.int .i64)) }) hμ hk0 hb hsize hcs (.inl ⟨rfl, paste_length _ _ _, rfl⟩)
                (by
                  show (M.paste k0.cells off ((isort zs).map (.int .i64))).all AV.one = true
                  rw [paste_eq _ _ _ (by simp [isort_length]; omega)]
                  rw [List.all_eq_true] at hone ⊢
                  intro v hv
                  rw [List.mem_append, List.mem_append] at hv
                  rcases hv with (hv | hv) | hv
                  · exact hone v (List.mem_of_mem_take hv)
                  · obtain ⟨z, _, rfl⟩ := List.mem_map.1 hv; rfl
                  · exact hone v (List.mem_of_mem_drop hv)) hnew
              have hlt := hI.lt hμ
              obtain ⟨j1, j2⟩ := i1.ext (w' := grow (putRow (Value.int .i64) (Sort.ahead w n) c.1 off (zs.mergeSort fun x y => decide (x ≤ y)).toArray) os) (fun i hi => by
                  have hi' : i < w.heap.size := by simpa using hi
                  rw [heap_grow_old _ _ (by simp [putRow, mapBlock, Sort.ahead]; exact hi'), isort_eq]
                  by_cases hic : i = c.1
                  · subst hic
                    rw [setRow_heap w c.1 cs _ e (0, 0) hb]
                    have hb' : w.heap[c.1] = .cells cs e (0, 0) := (Array.getElem?_eq_some_iff.1 hb).2
                    simp [putRow, mapBlock, Sort.ahead, hlt, Array.getElem_modify, hb', onCells]
                  · rw [setRow_other w c.1 i _ hic]
                    simp [putRow, mapBlock, Sort.ahead, Array.getElem?_modify, Ne.symm hic])
                (by simp [grow, putRow, mapBlock, Sort.ahead]) rfl rfl rfl
              refine ⟨_, _, _, rfl, ⟨fun b' k' hk' => ?_, j1, .tup rfl fun j hj => by simp at hj, i2.trans j2, fun b' hb' hn => ?_, fun b' hb' hlow => ?_⟩⟩
              · by_cases hbb : b' = b
                · subst hbb
                  rw [upd_same] at hk'
                  rw [List.getElem?_set, if_pos rfl, if_pos (List.getElem?_eq_some_iff.1 hk).1]
                  exact hk'
                · rw [upd_other _ _ hbb] at hk'
                  rw [List.getElem?_set, if_neg (Ne.symm hbb)]
                  exact hsub _ _ hk'
              · have hbb : b' ≠ b := fun e => by subst e; rw [hk0] at hn; cases hn
                rw [upd_other _ _ hbb]; exact hn
              · exact ⟨upd_other _ _ (by omega), rfl⟩
      · cases h
  · cases h

theorem sort_len {args : List AV} {st st' : List Blk} {r : AV} {low : Nat} (h : sortA st args = some (r, st', low)) : st.length ≤ st'.length ∧ ∀ b, b < st.length → b < low → st'[b]? = st[b]? := by
  unfold sortA at h
  split at h
  · split at h
    · cases h
    · split at h
      · split at h
        · cases h
        · split at h
          · cases h
          · simp only [Option.some.injEq, Prod.mk.injEq] at h
            obtain ⟨rfl, rfl, rfl⟩ := h
            refine ⟨by simp, fun b hb hl => ?_⟩
            rw [List.getElem?_set, if_neg (by omega)]
      · cases h
  · cases h
end
end Go.Proofs.YteaifkpmfbgekaaGreatDoor.M

namespace Go.Proofs.YteaifkpmfbgekaaGreatDoor.M
open Go
section
variable {P : Program} {E : Env}

theorem ops_sound {call : CallR} (hcall : SoundCall P call) (hE : E.Types P) {ops : Array Oper} : ∀ (l : List Oper) (k : Nat), ops.toList.drop k = l → ∀ {s s' : S}, opsA E call ops l s = some s' →
    TrS s s' ∧ ∀ {T : Sto} {μ : Mu} {a : Act} {w : World}, StR s T μ a w → ∀ {Q : Exit → Act → World → Prop}, (∀ a' w' T' μ', StR s' T' μ' a' w' → Tr s T μ w s' T' μ' w' → Q .normal a' w') → wpOps P ops Q (List.range' k l.length) a w
  | [], k, _, s, s', h => by
    simp only [opsA] at h
    cases h
    exact ⟨.refl _, fun R _ hQ => hQ _ _ _ _ R (.refl _ _ _ _)⟩
  | o :: l, k, hd, s, s', h => by
    simp only [opsA] at h
    split at h
    · rename_i s1 f hs
      have hi : ops[k]? = some o := by
        have : (ops.toList.drop k)[0]? = some o := by rw [hd]; rfl
        simpa using this
      have hd' : ops.toList.drop (k + 1) = l := by
        rw [← List.drop_drop, hd]; rfl
      obtain ⟨t2, rest⟩ := ops_sound hcall hE l (k + 1) hd' h
      have t1 := (stepA_is hs).trs hcall
      refine ⟨t1.trans t2, fun R Q hQ => ?_⟩
      rw [List.length_cons, List.range'_succ, wpOps_cons]
      refine step_sound hcall hE hi hs R fun a' w' T' μ' R' tr => ?_
      exact rest R' fun a2 w2 T2 μ2 R2 tr2 => hQ _ _ _ _ R2 (tr.trans t1 t2 tr2)
    · cases h

/-- A region that keeps its order. -/
theorem region_sound {call : CallR} (hcall : SoundCall P call) (hE : E.Types P) {id : Nat} {ops : Array Oper} {s s' : S} (h : opsA E call ops ops.toList s = some s') :
    TrS s s' ∧ ∀ {T : Sto} {μ : Mu} {a : Act} {w : World}, StR s T μ a w → ∀ {Q : Exit → Act → World → Prop}, (∀ a' w' T' μ', StR s' T' μ' a' w' → Tr s T μ w s' T' μ' w' → Q .normal a' w') → (Code.region id ops false).wp P Q a w := by
  obtain ⟨t, hw⟩ := ops_sound hcall hE ops.toList 0 rfl h
  refine ⟨t, fun R Q hQ => wp_region ?_⟩
  rw [List.range_eq_range']
  have := hw R hQ
  simpa using this

/-- All regions of a code that draw their order are well formed. -/
def CodeOk (okRegion : Array Oper → Prop) : Code → Prop
  | .region _ ops true => okRegion ops
  | .seq a b => CodeOk okRegion a ∧ CodeOk okRegion b
  | .cond _ a b => CodeOk okRegion a ∧ CodeOk okRegion b
  | .block _ a => CodeOk okRegion a
  | .loop a => CodeOk okRegion a
  | _ => True

def exitOf : Ctl → Exit
  | .next => .normal
  | .exit id => .exit id
  | .ret => .ret

/-- What a code is worth. -/
def CodeSound (P : Program) (c : Code) (s : S) (ctl : Ctl) (s' : S) : Prop :=
  TrS s s' ∧ ∀ {T : Sto} {μ : Mu} {a : Act} {w : World}, StR s T μ a w → ∀ {Q : Exit → Act → World → Prop}, (∀ a' w' T' μ', StR s' T' μ' a' w' → Tr s T μ w s' T' μ' w' → Q (exitOf ctl) a' w') → c.wp P Q a w

theorem iter_sound {c : Code} {body : S → Option (Ctl × S)} (hb : ∀ s ctl s', body s = some (ctl, s') → CodeSound P c s ctl s') : ∀ (k : Nat) (s : S) (ctl : Ctl) (s' : S), iterA body k s = some (ctl, s') →
    TrS s s' ∧ ∀ {T : Sto} {μ : Mu} {a : Act} {w : World}, StR s T μ a w → ∀ {Q : Exit → Act → World → Prop}, (∀ a' w' T' μ', StR s' T' μ' a' w' → Tr s T μ w s' T' μ' w' → Q (exitOf ctl) a' w') → Code.rounds P c Q k a w
  | 0, s, ctl, s', h => by simp [iterA] at h
  | k + 1, s, ctl, s', h => by
    simp only [iterA] at h
    cases hbs : body s with
    | none => rw [hbs] at h; cases h
    | some r =>
      obtain ⟨c1, s1⟩ := r
      rw [hbs] at h
      obtain ⟨t1, w1⟩ := hb s c1 s1 hbs
      cases c1 with
      | next =>
        simp only [] at h
        obtain ⟨t2, w2⟩ := iter_sound hb k s1 ctl s' h
        refine ⟨t1.trans t2, fun R Q hQ => ?_⟩
        rw [rounds_succ]
        refine w1 R fun a' w' T' μ' R' tr => ?_
        exact w2 R' fun a2 w2 T2 μ2 R2 tr2 => hQ _ _ _ _ R2 (tr.trans t1 t2 tr2)
      | exit id =>
        simp only [] at h
        cases h
        refine ⟨t1, fun R Q hQ => ?_⟩
        rw [rounds_succ]
        exact w1 R fun a' w' T' μ' R' tr => hQ _ _ _ _ R' tr
      | ret =>
        simp only [] at h
        cases h
        refine ⟨t1, fun R Q hQ => ?_⟩
        rw [rounds_succ]
        exact w1 R fun a' w' T' μ' R' tr => hQ _ _ _ _ R' tr

theorem code_sound {call : CallR} (hcall : SoundCall P call) (hE : E.Types P) {ok : Array Oper → Prop} (hdraw : DrawSound P E call ok) (K : Nat) : ∀ (c : Code), CodeOk ok c → ∀ (s : S) (ctl : Ctl) (s' : S), codeA E call K c s = some (ctl, s') → CodeSound P c s ctl s' := by
  intro c
  induction c with
  | skip =>
    intro _ s ctl s' h
    simp only [codeA] at h
    cases h
    exact ⟨.refl _, fun R Q hQ => wp_skip (hQ _ _ _ _ R (.refl _ _ _ _))⟩
  | region id ops draw =>
    intro hok s ctl s' h
    cases draw with
    | false =>
      simp only [codeA] at h
      split at h
      · rename_i s1 hs
        cases h
        exact region_sound hcall hE hs
      · cases h
    | true =>
      simp only [codeA] at h
      split at h
      · rename_i s1 fs hs
        split at h
        · rename_i hd
          cases h
          exact hdraw hok hs hd
        · cases h
      · cases h
  | seq x y ihx ihy =>
    intro hok s ctl s' h
    simp only [codeA] at h
    cases hx : codeA E call K x s with
    | none => rw [hx] at h; cases h
    | some r =>
      obtain ⟨c1, s1⟩ := r
      rw [hx] at h
      obtain ⟨t1, w1⟩ := ihx hok.1 s c1 s1 hx
      cases c1 with
      | next =>
        simp only [] at h
        obtain ⟨t2, w2⟩ := ihy hok.2 s1 ctl s' h
        refine ⟨t1.trans t2, fun R Q hQ => wp_seq ?_⟩
        refine w1 R fun a' w' T' μ' R' tr => ?_
        exact w2 R' fun a2 w2 T2 μ2 R2 tr2 => hQ _ _ _ _ R2 (tr.trans t1 t2 tr2)
      | exit id =>
        simp only [] at h
        cases h
        exact ⟨t1, fun R Q hQ => wp_seq (w1 R fun a' w' T' μ' R' tr => hQ _ _ _ _ R' tr)⟩
      | ret =>
        simp only [] at h
        cases h
        exact ⟨t1, fun R Q hQ => wp_seq (w1 R fun a' w' T' μ' R' tr => hQ _ _ _ _ R' tr)⟩
  | cond c x y ihx ihy =>
    intro hok s ctl s' h
    simp only [codeA] at h
    split at h
    · rename_i t hc
      have heval : ∀ {T : Sto} {μ : Mu} {a : Act} {w : World}, StR s T μ a w → a.eval c = .bool t := by
        intro T μ a w R
        have := opd_sound R.inv R.sl hc
        generalize a.eval c = v at this
        cases this
        rfl
      cases t with
      | true =>
        simp only [if_true] at h
        obtain ⟨t1, w1⟩ := ihx hok.1 s ctl s' h
        exact ⟨t1, fun R Q hQ => wp_cond_true (heval R) (w1 R hQ)⟩
      | false =>
        simp only [Bool.false_eq_true, if_false] at h
        obtain ⟨t1, w1⟩ := ihy hok.2 s ctl s' h
        exact ⟨t1, fun R Q hQ => wp_cond_false (heval R) (w1 R hQ)⟩
    · cases h
  | block id x ih =>
    intro hok s ctl s' h
    simp only [codeA] at h
    cases hx : codeA E call K x s with
    | none => rw [hx] at h; cases h
    | some r =>
      obtain ⟨c1, s1⟩ := r
      rw [hx] at h
      obtain ⟨t1, w1⟩ := ih hok s c1 s1 hx
      cases c1 with
      | next =>
        simp only [] at h
        cases h
        exact ⟨t1, fun R Q hQ => wp_block (w1 R fun a' w' T' μ' R' tr => hQ _ _ _ _ R' tr)⟩
      | exit i =>
        simp only [] at h
        split at h
        · rename_i he
          cases h
          exact ⟨t1, fun R Q hQ => wp_block (w1 R fun a' w' T' μ' R' tr => by
            show Exit.inBlock id Q (.exit i) a' w'
            simp only [Exit.inBlock, he, if_true]
            exact hQ _ _ _ _ R' tr)⟩
        · rename_i he
          cases h
          exact ⟨t1, fun R Q hQ => wp_block (w1 R fun a' w' T' μ' R' tr => by
            show Exit.inBlock id Q (.exit i) a' w'
            simp only [Exit.inBlock, he, if_false]
            exact hQ _ _ _ _ R' tr)⟩
      | ret =>
        simp only [] at h
        cases h
        exact ⟨t1, fun R Q hQ => wp_block (w1 R fun a' w' T' μ' R' tr => hQ _ _ _ _ R' tr)⟩
  | loop x ih =>
    intro hok s ctl s' h
    simp only [codeA] at h
    obtain ⟨t1, w1⟩ := iter_sound (fun s ctl s' hb => ih hok s ctl s' hb) K s ctl s' h
    exact ⟨t1, fun R Q hQ => wp_loop_rounds K (w1 R hQ)⟩
  | exit id =>
    intro _ s ctl s' h
    simp only [codeA] at h
    cases h
    exact ⟨.refl _, fun R Q hQ => wp_exit (hQ _ _ _ _ R (.refl _ _ _ _))⟩
  | ret =>
    intro _ s ctl s' h
    simp only [codeA] at h
    cases h
    exact ⟨.refl _, fun R Q hQ => wp_ret (hQ _ _ _ _ R (.refl _ _ _ _))⟩
  | _ => intro _ s ctl s' h; simp [codeA] at h

/-! ### Calls -/

theorem result_tmp {s : S} {T : Sto} {μ : Mu} {a : Act} {w : World} (R : StR s T μ a w) {t : Tmp} {v : AV} (h : resultA E s (.tmp t) = some v) : Rel T μ w v (a.tmps.getD t undef) := by
  simp only [resultA] at h
  obtain ⟨x, hx, hr⟩ := R.sl.get h
  have : a.tmps[t]? = some x := by simpa using hx
  simpa [Array.getD_eq_getD_getElem?, this] using hr

theorem result_cell (hE : E.Types P) {s : S} {T : Sto} {μ : Mu} {a : Act} {w : World} (R : StR s T μ a w) {c : Tmp} {t : TypeId} {v : AV} (h : resultA E s (.cell c t) = some v) :
    ∃ ad x, a.tmps.getD c undef = .pointer (some ad) ∧ (loadVar t ad).run P w = .ok x w ∧ Rel T μ w v x := by
  simp only [resultA] at h
  split at h
  · rename_i p hp
    split at h
    · rename_i e he
      cases h
      obtain ⟨x, hx, hr⟩ := R.sl.get hp
      have hx' : a.tmps[c]? = some x := by simpa using hx
      have heT : readA E T t p = some e := by
        have hsee : readA E (seeA (leadA (some p)) T) t p = some e := by
          have h1 : readA E (seeA (leadA (some p)) fun b => s.st[b]?) t p = some e := by
            unfold readA at he ⊢
            cases hi : E.info t with
            | none => simp only [hi] at he; cases he
            | some i =>
              simp only [hi] at he ⊢
              cases p with
              | ptr b off ver => simp only [leadA, seeA, List.contains_cons, List.contains_nil, BEq.rfl, Bool.or_false, if_true] at he ⊢; exact he
              | iptr cells => exact he
              | _ => simp only [] at he; cases he
          rw [seeA_congr (lk := T) (fun b hb => by
            obtain ⟨k, hk⟩ := lead_some hr hb
            rw [hk]; exact R.sub b k hk)] at h1
          exact h1
        exact readA_mono (seeA_le _) hsee
      obtain ⟨_, _, y, hy, hry⟩ := read_sound R.inv hE hr heT
      have hload : (Instr.loadAt t x).run P w = .ok y w := hy
      cases x with
      | pointer o =>
        cases o with
        | none => simp [Instr.loadAt, Instr.sureAddr] at hload
        | some ad =>
          simp [Instr.loadAt, Instr.sureAddr] at hload
          exact ⟨ad, y, by simp [Array.getD_eq_getD_getElem?, hx'], hload, hry⟩
      | _ => simp [Instr.loadAt, Instr.sureAddr] at hload
    · cases h
  · cases h

theorem results_list {s : S} {T : Sto} {μ : Mu} {w : World} (g : ResultVar → Sem Value) (hg : ∀ r v, resultA E s r = some v → ∃ x, (g r).run P w = .ok x w ∧ Rel T μ w v x) : ∀ {l : List ResultVar} {vs : List AV}, resultsA E s l = some vs →
    ∃ xs : List Value, (l.mapM g).run P w = .ok xs w ∧ Rels T μ w vs xs
  | [], vs, h => by simp only [resultsA] at h; cases h; exact ⟨[], by simp, .nil⟩
  | r :: l, vs, h => by
    simp only [resultsA] at h
    split at h
    · rename_i v hv
      split at h
      · rename_i ws hws
        cases h
        obtain ⟨x, hx, hr⟩ := hg r v hv
        obtain ⟨xs, hxs, hrs⟩ := results_list g hg hws
        refine ⟨x :: xs, ?_, .cons hr hrs⟩
        rw [List.mapM_cons]
        simp only [Sem.run_bind, hx, Result.andThen_ok, hxs, Sem.run_pure]
      · cases h
    · cases h

theorem mapM_array (g : ResultVar → Sem Value) (l : Array ResultVar) {xs : List Value} {w : World} (h : (l.toList.mapM g).run P w = .ok xs w) : (l.mapM g).run P w = .ok xs.toArray w := by
  rw [Array.mapM_eq_mapM_toList]
  simp only [Sem.run_map, h, Result.andThen_ok]

theorem results_sound (hE : E.Types P) {s : S} {T : Sto} {μ : Mu} {a : Act} {w : World} (R : StR s T μ a w) {fn : Func} {vs : List AV} (h : resultsA E s fn.results.toList = some vs) :
    ∃ x, (results fn a.tmps).run P w = .ok x w ∧ Rel T μ w (oneA vs) x := by
  have key : ∀ g : ResultVar → Sem Value, (∀ t, g (.tmp t) = pure (a.tmps.getD t undef)) → (∀ c t, g (.cell c t) = do loadVar t (← asAddr (a.tmps.getD c undef))) →
      ∃ xs : List Value, (fn.results.mapM g).run P w = .ok xs.toArray w ∧ Rels T μ w vs xs := by
    intro g h1 h2
    obtain ⟨xs, hxs, hrs⟩ := results_list (P := P) (T := T) (μ := μ) (w := w) g (fun r v hr => by
      cases r with
      | tmp t => exact ⟨_, by rw [h1]; rfl, result_tmp R hr⟩
      | cell c t =>
        obtain ⟨ad, x, e1, e2, e3⟩ := result_cell (P := P) hE R hr
        exact ⟨x, by rw [h2]; simp only [Sem.run_bind, e1, asAddr, Sem.run_pure, Result.andThen_ok]; exact e2, e3⟩) h
    exact ⟨xs, mapM_array _ _ hxs, hrs⟩
  obtain ⟨g, hg, g1, g2⟩ : ∃ g : ResultVar → Sem Value, results fn a.tmps = (do let vs ← fn.results.mapM g; pure (if h : vs.size = 1 then vs[0] else .tuple vs)) ∧ (∀ t, g (.tmp t) = pure (a.tmps.getD t undef)) ∧
      (∀ c t, g (.cell c t) = do loadVar t (← asAddr (a.tmps.getD c undef))) := ⟨_, rfl, fun _ => rfl, fun _ _ => rfl⟩
  obtain ⟨xs, hxs, hrs⟩ := key g g1 g2
  rw [hg]
  simp only [Sem.run_bind, hxs, Result.andThen_ok]
  refine ⟨if h : xs.toArray.size = 1 then xs.toArray[0] else .tuple xs.toArray, rfl, ?_⟩
  · match vs, xs, hrs with
    | [v], [x], hrs => exact hrs.head
    | [], [], _ => exact .tup rfl fun j hj => by simp at hj
    | v :: v' :: vs, x :: x' :: xs, hrs =>
      have : ¬ (x :: x' :: xs).toArray.size = 1 := by simp
      rw [dif_neg this]
      exact .tup (by simpa using hrs.1) fun j hj hx => by have := hrs.2 j hj (by simpa using hx); simpa using this
    | [], _ :: _, hrs => have := hrs.1; simp at this
    | _ :: _, [], hrs => have := hrs.1; simp at this
    | [_], _ :: _ :: _, hrs => have := hrs.1; simp at this
    | _ :: _ :: _, [_], hrs => have := hrs.1; simp at this

/-! ### What a call leaves -/

theorem bare_rel {T T' : Sto} {μ μ' : Mu} {w : World} {v : AV} {x : Value} (hb : v.bare = true) (h : Rel T μ w v x) : Rel T' μ' w v x := by
  cases h <;> first | (constructor; done) | (simp [AV.bare] at hb)

theorem bare1_rel {T T' : Sto} {μ μ' : Mu} {w : World} {v : AV} {x : Value} (hp : ∀ i, Prot μ i → Prot μ' i) (hb : v.bare1 = true) (h : Rel T μ w v x) : Rel T' μ' w v x := by
  cases h with
  | agg hl hr => exact .agg hl fun j hj hx => bare_rel (by have := List.all_eq_true.1 (show _ = true from hb) _ (List.getElem_mem hj); exact this) (hr j hj hx)
  | imm0 => exact .imm0
  | @imm n cap cells a f hl hpr hc hr => exact .imm (f := f) hl (fun hne => hp _ (hpr hne)) hc fun j hj => bare_rel (by have := List.all_eq_true.1 (show _ = true from hb) _ (List.getElem_mem hj); exact this) (hr j hj)
  | bool => exact .bool _
  | int => exact .int _ _
  | str => exact .str _
  | nilp => exact .nilp
  | nils => exact .nils
  | emp => exact .emp
  | nilf => exact .nilf
  | _ => simp [AV.bare1, AV.bare] at hb

theorem bare2_rel {T T' : Sto} {μ μ' : Mu} {w : World} {v : AV} {x : Value} (hp : ∀ i, Prot μ i → Prot μ' i) (hb : v.bare2 = true) (h : Rel T μ w v x) : Rel T' μ' w v x := by
  cases h with
  | tup hl hr => exact .tup hl fun j hj hx => bare1_rel hp (by have := List.all_eq_true.1 (show _ = true from hb) _ (List.getElem_mem hj); exact this) (hr j hj hx)
  | bool => exact .bool _
  | int => exact .int _ _
  | str => exact .str _
  | nilp => exact .nilp
  | nils => exact .nils
  | emp => exact .emp
  | nilf => exact .nilf
  | agg hl hr => exact bare1_rel hp hb (.agg hl hr)
  | imm0 => exact .imm0
  | imm hl hpr hc hr => exact bare1_rel hp hb (.imm hl hpr hc hr)
  | _ => simp [AV.bare2, AV.bare1, AV.bare] at hb

def take (T : Sto) (n : Nat) : Sto := fun b => if b < n then T b else none
def takeM (μ : Mu) (n : Nat) : Mu := fun b => if b < n then μ b else none

/-- Values that lead to older blocks alone still do, when the newer ones are dropped. -/
theorem Rel.cutDown {T0 : Sto} {μ0 : Mu} {w0 : World} {T : Sto} {μ : Mu} {w : World} {n : Nat} (h0 : ∀ b k, T0 b = some k → b < n) {v : AV} {x0 : Value} (h : Rel T0 μ0 w0 v x0) : ∀ {x : Value}, Rel T μ w v x → Rel (take T n) (takeM μ n) w v x := by
  have hp : ∀ i, Prot μ i → Prot (takeM μ n) i := fun i hi b c hc => by
    unfold takeM at hc
    split at hc
    · exact hi b c hc
    · cases hc
  induction h with
  | ptr hk hv hh =>
    intro x h'
    cases h' with
    | ptr hk' hv' hh' =>
      have hb := h0 _ _ hk
      exact .ptr (by unfold take; rw [if_pos hb]; exact hk') hv' fun e => by
        obtain ⟨c, hc, ha⟩ := hh' e
        exact ⟨c, by unfold takeM; rw [if_pos hb]; exact hc, ha⟩
  | sl hk hv hl hh =>
    intro x h'
    cases h' with
    | sl hk' hv' hl' hh' =>
      have hb := h0 _ _ hk
      exact .sl (by unfold take; rw [if_pos hb]; exact hk') hv' hl' fun e => by
        obtain ⟨c, hc, ha⟩ := hh' e
        exact ⟨c, by unfold takeM; rw [if_pos hb]; exact hc, ha⟩
  | iptr hpr hc hr ih =>
    intro x h'
    cases h' with
    | @iptr _ a' f' hpr' hc' hr' => exact .iptr (f := f') (fun hne => hp _ (hpr' hne)) hc' fun j hj => ih j hj (hr' j hj)
  | imm0 => intro x h'; exact bare1_rel hp rfl h'
  | imm hl hpr hc hr ih =>
    intro x h'
    cases h' with
    | imm0 => exact .imm0
    | @imm _ cap' _ a' f' hl' hpr' hc' hr' => exact .imm (f := f') hl' (fun hne => hp _ (hpr' hne)) hc' fun j hj => ih j hj (hr' j hj)
  | @fn f cap xs hl hr ih =>
    intro x h'
    cases h' with
    | fn hl' hr' => exact .fn hl' fun j hj hx => ih j hj (by omega) (hr' j hj hx)
  | agg hl hr ih =>
    intro x h'
    cases h' with
    | agg hl' hr' => exact .agg hl' fun j hj hx => ih j hj (by omega) (hr' j hj hx)
  | tup hl hr ih =>
    intro x h'
    cases h' with
    | tup hl' hr' => exact .tup hl' fun j hj hx => ih j hj (by omega) (hr' j hj hx)
  | _ => intro x h'; exact bare_rel rfl h'

theorem Rels.cutDown {T0 : Sto} {μ0 : Mu} {w0 : World} {T : Sto} {μ : Mu} {w : World} {n : Nat} (h0 : ∀ b k, T0 b = some k → b < n) {l : List AV} {xs0 xs : List Value} (h : Rels T0 μ0 w0 l xs0) (h' : Rels T μ w l xs) : Rels (M.take T n) (takeM μ n) w l xs :=
  ⟨h'.1, fun j hj hx => (h.2 j hj (by rw [h.1]; exact hj)).cutDown h0 (h'.2 j hj hx)⟩

theorem sub_lt {T : Sto} {st : List Blk} (h : Sub T st) : ∀ b k, T b = some k → b < st.length := fun b k hk => (List.getElem?_eq_some_iff.1 (h b k hk)).1

/-- What a call leaves, as the evaluator tidies it. -/
theorem mapO_spec {f : AV → Option AV} : ∀ {l l' : List AV}, mapO f l = some l' → l'.length = l.length ∧ ∀ (j : Nat) v, l[j]? = some v → ∃ v', l'[j]? = some v' ∧ f v = some v'
  | [], l', h => by simp only [mapO] at h; cases h; exact ⟨rfl, fun j v h => by simp at h⟩
  | v :: l, l', h => by
    simp only [mapO] at h
    split at h
    · rename_i x hx
      split at h
      · rename_i xs hxs
        cases h
        obtain ⟨h1, h2⟩ := mapO_spec hxs
        refine ⟨by simp [h1], fun j u hu => ?_⟩
        cases j with
        | zero => simp at hu; subst hu; exact ⟨x, rfl, hx⟩
        | succ j => rw [List.getElem?_cons_succ] at hu ⊢; exact h2 j u hu
      · cases h
    · cases h

theorem prot_take {μ : Mu} {n i : Nat} (h : Prot μ i) : Prot (takeM μ n) i := fun b c hc => by
  unfold takeM at hc
  split at hc
  · exact h b c hc
  · cases hc

theorem frz_rel {T : Sto} {μ : Mu} {w : World} {st : List Blk} (hI : Inv T μ w) (hsub : Sub T st) {n : Nat} : ∀ (d : Nat) (v v' : AV), frzA st n d v = some v' → ∀ x, Rel T μ w v x → Rel (take T n) (takeM μ n) w v' x
  | 0, v, v', h, x, hr => by
    simp only [frzA] at h
    split at h
    · rename_i hb; cases h; exact bare_rel hb hr
    · cases h
  | d + 1, v, v', h, x, hr => by
    have ih := frz_rel hI hsub (n := n) d
    have lst : ∀ {l l' : List AV} {xs : List Value}, mapO (frzA st n d) l = some l' → Rels T μ w l xs → Rels (take T n) (takeM μ n) w l' xs := by
      intro l l' xs hm hrs
      obtain ⟨h1, h2⟩ := mapO_spec hm
      refine .of_get (by rw [h1]; exact hrs.1) fun j u y hu hy => ?_
      have hlt : j < l.length := by rw [← h1]; exact (List.getElem?_eq_some_iff.1 hu).1
      obtain ⟨u', hu', hf⟩ := h2 j l[j] (List.getElem?_eq_getElem hlt)
      rw [hu] at hu'; cases hu'
      exact ih _ _ hf y (hrs.rel (List.getElem?_eq_getElem hlt) hy)
    unfold frzA at h
    split at h
    · rename_i b off len ver sz
      split at h
      · rename_i hnb
        split at h
        · cases h
        · rename_i k hk
          split at h
          · rename_i hver
            split at h
            · cases h
            · rename_i l hl
              split at h
              · rename_i l' hm
                cases h
                cases hr with
                | @sl _ _ _ _ _ cap a k0 hk0 hv hlc hrest =>
                  have hkk : k0 = k := by have := hsub _ _ hk0; rw [hk] at this; cases this; rfl
                  subst hkk
                  obtain ⟨c, hμ, rfl, _⟩ := hrest hver.symm
                  obtain ⟨xs, hxr, hxc⟩ := ((At.of_block hI hμ hk0).cut hl).list
                  have hadd : (⟨c.1, 0, none⟩ : Addr).add off = ⟨c.1, off, none⟩ := by
                    unfold Addr.add
                    split
                    · rename_i h0; subst h0; rfl
                    · simp
                  rw [hadd] at hxc
                  have hfr := lst hm hxr
                  refine .imm (f := fun j => xs.getD j undef) hlc (fun _ b' c' hc' => ?_) (fun j hj => ?_) (fun j hj => ?_)
                  · unfold takeM at hc'
                    split at hc'
                    · rename_i hlt
                      intro e
                      have := hI.inj b' b c' c hc' hμ e
                      omega
                    · cases hc'
                  · have hlt : j < xs.length := by rw [hfr.1]; exact hj
                    rw [hxc j xs[j] (List.getElem?_eq_getElem hlt)]
                    simp [hlt]
                  · have hlt : j < xs.length := by rw [hfr.1]; exact hj
                    have := hfr.2 j hj hlt
                    simpa [hlt] using this
              · cases h
          · cases h
      · cases h
    · rename_i m l
      split at h
      · rename_i l' hm
        cases h
        cases hr with
        | imm0 =>
          simp only [mapO] at hm
          cases hm
          exact .imm0
        | @imm _ cap _ a f hl hp hc hrr =>
          have hlen := (mapO_spec hm).1
          have hfr := lst hm (xs := (List.range l.length).map f) (.of_get (by simp) fun j u y hu hy => by
            have hlt := (List.getElem?_eq_some_iff.1 hu).1
            have hue := (List.getElem?_eq_some_iff.1 hu).2
            simp [hlt] at hy
            subst hy
            rw [← hue]
            exact hrr j hlt)
          refine .imm (f := f) hl (fun hne => prot_take (hp fun e => hne (List.length_eq_zero_iff.1 (by rw [hlen, e]; rfl)))) (fun j hj => hc j (by omega)) fun j hj => ?_
          have := hfr.2 j hj (by simp; omega)
          simpa using this
      · cases h
    · rename_i l
      split at h
      · rename_i l' hm
        cases h
        obtain ⟨xs, rfl, hrs⟩ := Rel.agg_iff.1 hr
        exact Rel.agg_iff.2 ⟨xs, rfl, lst hm hrs⟩
      · cases h
    · rename_i l
      split at h
      · rename_i l' hm
        cases h
        cases hr with
        | @tup _ xs hl hrr =>
          have hrs : Rels T μ w l xs.toList := ⟨by simpa using hl, fun j hj hx => by
            have := hrr j hj (by simpa using hx)
            simpa using this⟩
          have h2 := lst hm hrs
          exact .tup (by simpa using h2.1) fun j hj hx => by
            have := h2.2 j hj (by simpa using hx)
            simpa using this
      · cases h
    · rename_i b off ver
      split at h
      · rename_i hnb
        split at h
        · cases h
        · rename_i k hk
          split at h
          · rename_i hver
            split at h
            · cases h
            · rename_i l hl
              split at h
              · rename_i l' hm
                cases h
                cases hr with
                | @ptr _ _ _ a k0 hk0 hv hrest =>
                  have hkk : k0 = k := by have := hsub _ _ hk0; rw [hk] at this; cases this; rfl
                  subst hkk
                  obtain ⟨c, hμ, rfl⟩ := hrest hver.symm
                  obtain ⟨xs, hxr, hxc⟩ := ((At.of_block hI hμ hk0).cut hl).list
                  have hadd : (⟨c.1, 0, none⟩ : Addr).add off = ⟨c.1, off, none⟩ := by
                    unfold Addr.add
                    split
                    · rename_i h0; subst h0; rfl
                    · simp
                  rw [hadd] at hxc
                  have hfr := lst hm hxr
                  refine .iptr (f := fun j => xs.getD j undef) (fun _ b' c' hc' => ?_) (fun j hj => ?_) (fun j hj => ?_)
                  · unfold takeM at hc'
                    split at hc'
                    · rename_i hlt
                      intro e
                      have := hI.inj b' b c' c hc' hμ e
                      omega
                    · cases hc'
                  · have hlt : j < xs.length := by rw [hfr.1]; exact hj
                    rw [hxc j xs[j] (List.getElem?_eq_getElem hlt)]
                    simp [hlt]
                  · have hlt : j < xs.length := by rw [hfr.1]; exact hj
                    have := hfr.2 j hj hlt
                    simpa [hlt] using this
              · cases h
          · cases h
      · cases h
    · rename_i l
      split at h
      · rename_i l' hm
        cases h
        cases hr with
        | @iptr _ a f hp hc hrr =>
          have hlen := (mapO_spec hm).1
          have hfr := lst hm (xs := (List.range l.length).map f) (.of_get (by simp) fun j u y hu hy => by
            have hlt := (List.getElem?_eq_some_iff.1 hu).1
            have hue := (List.getElem?_eq_some_iff.1 hu).2
            simp [hlt] at hy
            subst hy
            rw [← hue]
            exact hrr j hlt)
          refine .iptr (f := f) (fun hne => prot_take (hp fun e => hne (List.length_eq_zero_iff.1 (by rw [hlen, e]; rfl)))) (fun j hj => hc j (by omega)) fun j hj => ?_
          have := hfr.2 j hj (by simp; omega)
          simpa using this
      · cases h
    · rename_i f l
      split at h
      · rename_i l' hm
        cases h
        cases hr with
        | @fn _ _ xs hl hrr =>
          have hrs : Rels T μ w l xs.toList := ⟨by simpa using hl, fun j hj hx => by
            have := hrr j hj (by simpa using hx)
            simpa using this⟩
          have h2 := lst hm hrs
          exact .fn (by simpa using h2.1) fun j hj hx => by
            have := h2.2 j hj (by simpa using hx)
            simpa using this
      · cases h
    · split at h
      · rename_i hb; cases h; exact bare_rel hb hr
      · cases h

/-- What a call leaves when its blocks are dropped. -/
theorem drop_sound {T T' : Sto} {μ μ' : Mu} {w w' : World} {st st' : List Blk} {r r2 : AV} {x : Value} {low : Nat} (hsub : Sub T st) (hI : Inv T μ w) (hlow : st.length ≤ low)
    (out : CallOut T μ w st r st' low x T' μ' w') (hrel : Rel (take T' st.length) (takeM μ' st.length) w' r2 x) : CallOut T μ w st r2 (st'.take st.length) st.length x (take T' st.length) (takeM μ' st.length) w' := by
  have hlt := sub_lt hsub
  refine ⟨?_, ⟨?_, ?_, fun g l hg => (hI.glob g l hg).cutDown hlt (out.inv.glob g l hg)⟩, hrel, ⟨?_, out.evo.os, out.evo.tape, out.evo.output, out.evo.size, fun i hi hpr => ?_⟩, fun b hb hn => ?_, fun b hb hl => ?_⟩
  · intro b k hk
    unfold take at hk
    split at hk
    · rename_i hbl
      rw [List.getElem?_take, if_pos hbl]
      exact out.sub b k hk
    · cases hk
  · intro b b' c c' h1 h2 he
    unfold takeM at h1 h2
    split at h1
    · split at h2
      · exact out.inv.inj b b' c c' h1 h2 he
      · cases h2
    · cases h1
  · intro b c hcμ
    unfold takeM at hcμ
    split at hcμ
    · rename_i hbl
      obtain ⟨k, hk, cs, e, g1, g2, g3, g4⟩ := out.inv.blk b c hcμ
      refine ⟨k, by unfold take; rw [if_pos hbl]; exact hk, cs, e, g1, g2, g3, ?_⟩
      obtain ⟨e1, e2⟩ := out.kept b hbl (Nat.lt_of_lt_of_le hbl hlow)
      rw [e1] at hk
      rw [e2] at hcμ
      obtain ⟨k0, hk0, cs0, e0, _, _, _, f4⟩ := hI.blk b c hcμ
      rw [hk] at hk0; cases hk0
      exact f4.cutDown hlt g4
    · cases hcμ
  · intro b k hk
    obtain ⟨k', hk', hv, he⟩ := out.evo.blk b k hk
    have hbl := hlt b k hk
    refine ⟨k', by unfold take; rw [if_pos hbl]; exact hk', hv, fun e c hc => ?_⟩
    obtain ⟨h1, h2, h3⟩ := he e c hc
    exact ⟨by unfold takeM; rw [if_pos hbl]; exact h1, h2, h3⟩
  · obtain ⟨h1, h2⟩ := out.evo.frame i hi hpr
    exact ⟨h1, prot_take h2⟩
  · unfold take; rw [if_pos hb]; exact out.hole b hb hn
  · obtain ⟨h1, h2⟩ := out.kept b hb (Nat.lt_of_lt_of_le hl hlow)
    exact ⟨by unfold take; rw [if_pos hb]; exact h1, by unfold takeM; rw [if_pos hb]; exact h2⟩

theorem leave_sound {T T' : Sto} {μ μ' : Mu} {w w' : World} {st st' : List Blk} {r : AV} {x : Value} {low : Nat} (hsub : Sub T st) (hI : Inv T μ w)
    (out : CallOut T μ w st r st' low x T' μ' w') {fz : Bool} {r2 : AV} {st2 : List Blk} {low2 : Nat} (h : leaveA fz st.length r st' low = (r2, st2, low2)) :
    ∃ T2 μ2, CallOut T μ w st r2 st2 low2 x T2 μ2 w' := by
  unfold leaveA at h
  split at h
  · rename_i hlow
    split at h
    · rename_i hb
      simp only [Prod.mk.injEq] at h
      obtain ⟨rfl, rfl, rfl⟩ := h
      exact ⟨_, _, drop_sound hsub hI hlow out (bare2_rel (fun i hi => prot_take hi) hb out.rel)⟩
    · split at h
      · rename_i r' hr'
        simp only [Prod.mk.injEq] at h
        obtain ⟨rfl, rfl, rfl⟩ := h
        split at hr'
        · exact ⟨_, _, drop_sound hsub hI hlow out (frz_rel out.inv out.sub _ _ _ hr' _ out.rel)⟩
        · cases hr'
      · simp only [Prod.mk.injEq] at h
        obtain ⟨rfl, rfl, rfl⟩ := h
        exact ⟨T', μ', out⟩
  · simp only [Prod.mk.injEq] at h
    obtain ⟨rfl, rfl, rfl⟩ := h
    exact ⟨T', μ', out⟩

theorem leave_len {st st' : List Blk} {r : AV} {low : Nat} (hl : st.length ≤ st'.length) (hk : ∀ b, b < st.length → b < low → st'[b]? = st[b]?) {fz : Bool} {r2 : AV} {st2 : List Blk} {low2 : Nat} (h : leaveA fz st.length r st' low = (r2, st2, low2)) :
    st.length ≤ st2.length ∧ ∀ b, b < st.length → b < low2 → st2[b]? = st[b]? := by
  have cutd : st.length ≤ low → st.length ≤ (st'.take st.length).length ∧ ∀ b, b < st.length → b < st.length → (st'.take st.length)[b]? = st[b]? := by
    intro hlow
    refine ⟨by simp; omega, fun b hb _ => ?_⟩
    rw [List.getElem?_take, if_pos hb]
    exact hk b hb (Nat.lt_of_lt_of_le hb hlow)
  unfold leaveA at h
  split at h
  · rename_i hlow
    split at h
    · simp only [Prod.mk.injEq] at h
      obtain ⟨rfl, rfl, rfl⟩ := h
      exact cutd hlow
    · split at h
      · simp only [Prod.mk.injEq] at h
        obtain ⟨rfl, rfl, rfl⟩ := h
        exact cutd hlow
      · simp only [Prod.mk.injEq] at h
        obtain ⟨rfl, rfl, rfl⟩ := h
        exact ⟨hl, hk⟩
  · simp only [Prod.mk.injEq] at h
    obtain ⟨rfl, rfl, rfl⟩ := h
    exact ⟨hl, hk⟩

/-- What is asked of the functions. -/
structure Env.Ok (P : Program) (E : Env) (ok : Array Oper → Prop) : Prop where
  types : E.Types P
  func : ∀ f fn, E.func f = some fn → P.funcs[f]? = some fn ∧ (fn.name == "runtime.NumGoroutine") = false ∧ ∀ c, fn.body = some c → CodeOk ok c
  sort : ∀ f, E.srt f = true → Sorts P f

theorem Rels.undefs {T : Sto} {μ : Mu} {w : World} (n : Nat) : Rels T μ w (List.replicate n .undef) (List.replicate n undef) := Rels.replicate undef_rel n

theorem callS_sound {ok : Array Oper → Prop} (hE : Env.Ok P E ok) (hdraw : ∀ call, SoundCall P call → DrawSound P E call ok) (K : Nat) {call : CallR} (ih : SoundCall P call) : SoundCall P (callS E K call) := by
    have key : ∀ f args st r st' low, callS E K call f args st = some (r, st', low) → ∃ fn c, P.funcs[f]? = some fn ∧ fn.body = some c ∧ (fn.name == "runtime.NumGoroutine") = false ∧
        ((Sorts P f ∧ sortA st args = some (r, st', low)) ∨ ∃ ctl s vs,
        CodeSound P c ⟨args ++ List.replicate (fn.ntmps - args.length) .undef, st, st.length⟩ ctl s ∧ (ctl = .next ∨ ctl = .ret) ∧ resultsA E s fn.results.toList = some vs ∧ leaveA (E.frz f) st.length (oneA vs) s.st s.low = (r, st', low)) := by
      intro f args st r st' low h
      simp only [callS] at h
      split at h
      · cases h
      · rename_i fn hf
        obtain ⟨h1, h2, h3⟩ := hE.func f fn hf
        split at h
        · cases h
        · rename_i c hc
          split at h
          · rename_i x hx
            cases h
            split at hx
            · rename_i hs
              exact ⟨fn, c, h1, hc, h2, .inl ⟨hE.sort f hs, hx⟩⟩
            · cases hx
          · split at h
            · rename_i ctl s hs
              split at h
              · rename_i hctl
                split at h
                · rename_i vs hvs
                  exact ⟨fn, c, h1, hc, h2, .inr ⟨ctl, s, vs, code_sound ih hE.types (hdraw _ ih) K c (h3 c hc) _ _ _ hs, hctl, hvs, Option.some.inj h⟩⟩
                · cases h
              · cases h
            · cases h
    refine ⟨fun f args st r st' low h => ?_, fun f args st r st' low h => ?_, fun f args st r st' low h => ?_⟩
    · obtain ⟨fn, c, h1, h2, h3, _⟩ := key _ _ _ _ _ _ h
      exact ⟨fn, h1, by rw [h2]; rfl, h3⟩
    · obtain ⟨fn, c, _, _, _, ⟨_, hs⟩ | ⟨ctl, s, vs, hcs, _, _, hl⟩⟩ := key _ _ _ _ _ _ h
      · exact sort_len hs
      · exact leave_len hcs.1.len (fun b hb hlow => hcs.1.kept b hb hlow) hl
    · obtain ⟨fn, c, h1, h2, h3, ⟨hS, hs⟩ | ⟨ctl, s, vs, hcs, hctl, hvs, hl⟩⟩ := key _ _ _ _ _ _ h
      · intro T μ w xs hsub hI hargs
        exact sort_calls hS hs hsub hI hargs
      intro T μ w xs hsub hI hargs
      refine calls_of_wp h1 h2 ?_
      have hlen : xs.toArray.size = args.length := by simpa using hargs.1
      have R : StR ⟨args ++ List.replicate (fn.ntmps - args.length) .undef, st, st.length⟩ T μ { tmps := xs.toArray ++ Array.replicate (fn.ntmps - xs.toArray.size) undef, defers := [] } w := by
        refine ⟨hsub, hI, ?_, rfl⟩
        rw [hlen]
        simpa using hargs.append (Rels.undefs (fn.ntmps - args.length))
      refine hcs.2 R fun a' w' T' μ' R' tr => ?_
      obtain ⟨x, hx, hr⟩ := results_sound (P := P) hE.types R' (fn := fn) hvs
      obtain ⟨T2, μ2, out⟩ := leave_sound hsub hI ⟨R'.sub, R'.inv, hr, tr.evo, tr.hole, tr.kept⟩ hl
      have hpost : bodyPost P fn (fun e w' => ∃ x T' μ', e = .returned x ∧ CallOut T μ w st r st' low x T' μ' w') .normal a' w' := ⟨R'.defers, x, hx, x, T2, μ2, rfl, out⟩
      rcases hctl with rfl | rfl
      · exact hpost
      · exact hpost

theorem call_sound {ok : Array Oper → Prop} (hE : Env.Ok P E ok) (hdraw : ∀ call, SoundCall P call → DrawSound P E call ok) (K : Nat) : ∀ n, SoundCall P (callA E K n)
  | 0 => ⟨fun _ _ _ _ _ _ h => by simp [callA] at h, fun _ _ _ _ _ _ h => by simp [callA] at h, fun _ _ _ _ _ _ h => by simp [callA] at h⟩
  | n + 1 => callS_sound hE hdraw K (call_sound hE hdraw K n)

/-- What the evaluator says of a call is so, of every program whose orders may be drawn. -/
theorem sound (hE : Env.Ok P E (fun ops => regionOk ops = true)) (hm : P.follows .mixedOrders = true) (K n : Nat) : SoundCall P (callA E K n) :=
  call_sound hE (fun _ h => draw_sound h hE.types hm) K n
end
end Go.Proofs.YteaifkpmfbgekaaGreatDoor.M

namespace Go.Proofs.YteaifkpmfbgekaaGreatDoor.M
open Go

/-! ### Monotony in the calls -/

def Le (c c' : CallR) : Prop := ∀ f a st r, c f a st = some r → c' f a st = some r

theorem Le.refl (c : CallR) : Le c c := fun _ _ _ _ h => h
theorem Le.trans {a b c : CallR} (h : Le a b) (h' : Le b c) : Le a c := fun _ _ _ _ x => h' _ _ _ _ (h _ _ _ _ x)

section
variable {E : Env} {K : Nat} {c c' : CallR}

theorem stepA_le (h : Le c c') {ops : Array Oper} {o : Oper} {s : S} {r : S × Foot} (hs : stepA E c ops o s = some r) : stepA E c' ops o s = some r := by
  unfold stepA at hs ⊢
  by_cases hw : wantedA ops s.sl o = true
  · rw [if_pos hw] at hs ⊢
    obtain ⟨dst, op, type, pos, after, guard⟩ := o
    cases op
    case call k =>
      obtain ⟨callee, args, tys⟩ := k
      cases callee with
      | value f =>
        simp only [] at hs ⊢
        cases h1 : opdA s.sl f with
        | none => rw [h1] at hs; cases hs
        | some v =>
          rw [h1] at hs
          cases v with
          | fn g cap =>
            cases h2 : opdsA s.sl args.toList with
            | none => rw [h2] at hs; cases hs
            | some l =>
              rw [h2] at hs
              simp only [] at hs ⊢
              cases h3 : c g (l ++ cap) s.st with
              | none => rw [h3] at hs; cases hs
              | some r => rw [h3] at hs; rw [h _ _ _ _ h3]; exact hs
          | _ => cases hs
      | _ => exact hs
    all_goals exact hs
  · rw [if_neg hw] at hs ⊢; exact hs

theorem opsA_le (h : Le c c') {ops : Array Oper} : ∀ {l : List Oper} {s r : S}, opsA E c ops l s = some r → opsA E c' ops l s = some r
  | [], _, _, hs => hs
  | o :: l, s, r, hs => by
    simp only [opsA] at hs ⊢
    cases h1 : stepA E c ops o s with
    | none => rw [h1] at hs; cases hs
    | some x =>
      rw [h1] at hs; rw [stepA_le h h1]
      exact opsA_le h hs

theorem opsTA_le (h : Le c c') {ops : Array Oper} : ∀ {l : List (Nat × Oper)} {s : S} {r : S × List Foot}, opsTA E c ops l s = some r → opsTA E c' ops l s = some r
  | [], _, _, hs => hs
  | (_, o) :: l, s, r, hs => by
    simp only [opsTA] at hs ⊢
    cases h1 : stepA E c ops o s with
    | none => rw [h1] at hs; cases hs
    | some x =>
      rw [h1] at hs; rw [stepA_le h h1]
      simp only [] at hs ⊢
      cases h2 : opsTA E c ops l x.1 with
      | none => rw [h2] at hs; cases hs
      | some y => rw [h2] at hs; rw [opsTA_le h h2]; exact hs

theorem iterA_le {b b' : S → Option (Ctl × S)} (h : ∀ s r, b s = some r → b' s = some r) : ∀ {k : Nat} {s : S} {r : Ctl × S}, iterA b k s = some r → iterA b' k s = some r
  | 0, _, _, hs => hs
  | k + 1, s, r, hs => by
    simp only [iterA] at hs ⊢
    cases h1 : b s with
    | none => rw [h1] at hs; cases hs
    | some x =>
      rw [h1] at hs; rw [h _ _ h1]
      obtain ⟨ctl, s'⟩ := x
      cases ctl with
      | next => exact iterA_le h hs
      | _ => exact hs

theorem codeA_le (h : Le c c') : ∀ {a : Code} {s : S} {r : Ctl × S}, codeA E c K a s = some r → codeA E c' K a s = some r := by
  intro a
  induction a with
  | skip => intro s r hs; exact hs
  | ret => intro s r hs; exact hs
  | exit id => intro s r hs; exact hs
  | region id ops d =>
    intro s r hs
    cases d with
    | false =>
      simp only [codeA] at hs ⊢
      cases h1 : opsA E c ops ops.toList s with
      | none => rw [h1] at hs; cases hs
      | some x => rw [h1] at hs; rw [opsA_le h h1]; exact hs
    | true =>
      simp only [codeA] at hs ⊢
      cases h1 : opsTA E c ops (orderA ops) s with
      | none => rw [h1] at hs; cases hs
      | some x => rw [h1] at hs; rw [opsTA_le h h1]; exact hs
  | seq a b iha ihb =>
    intro s r hs
    simp only [codeA] at hs ⊢
    cases h1 : codeA E c K a s with
    | none => rw [h1] at hs; cases hs
    | some x =>
      rw [h1] at hs; rw [iha h1]
      obtain ⟨ctl, s'⟩ := x
      cases ctl with
      | next => exact ihb hs
      | _ => exact hs
  | cond x a b iha ihb =>
    intro s r hs
    simp only [codeA] at hs ⊢
    split at hs
    · rename_i t _
      cases t with
      | true => simp only [if_true] at hs ⊢; exact iha hs
      | false => simp only [Bool.false_eq_true, if_false] at hs ⊢; exact ihb hs
    · cases hs
  | block id a iha =>
    intro s r hs
    simp only [codeA] at hs ⊢
    cases h1 : codeA E c K a s with
    | none => rw [h1] at hs; cases hs
    | some x => rw [h1] at hs; rw [iha h1]; exact hs
  | loop a iha =>
    intro s r hs
    simp only [codeA] at hs ⊢
    exact iterA_le (fun s r hb => iha hb) hs
  | _ => intro s r hs; simp only [codeA] at hs; cases hs

theorem callA_succ (n : Nat) : callA E K (n + 1) = callS E K (callA E K n) := rfl

theorem callS_le (h : Le c c') : Le (callS E K c) (callS E K c') := by
  intro f a st r hs
  unfold callS at hs ⊢
  cases hf : E.func f with
  | none => rw [hf] at hs; cases hs
  | some fn =>
    rw [hf] at hs
    simp only [] at hs ⊢
    cases hb : fn.body with
    | none => rw [hb] at hs; cases hs
    | some cd =>
      rw [hb] at hs
      simp only [] at hs ⊢
      cases hq : (if E.srt f then sortA st a else none) with
      | some x => rw [hq] at hs; exact hs
      | none =>
        rw [hq] at hs
        simp only [] at hs ⊢
        cases h1 : codeA E c K cd ⟨a ++ List.replicate (fn.ntmps - a.length) .undef, st, st.length⟩ with
        | none => rw [h1] at hs; cases hs
        | some x => rw [h1] at hs; rw [codeA_le h h1]; exact hs

theorem callA_le : ∀ (n k : Nat), Le (callA E K n) (callA E K (n + k))
  | 0, k => fun f a st r h => by cases h
  | n + 1, k => by
    rw [show n + 1 + k = (n + k) + 1 by omega, callA_succ, callA_succ]
    exact callS_le (callA_le n k)

theorem callA_le' {n m : Nat} (h : n ≤ m) : Le (callA E K n) (callA E K m) := by
  have := callA_le (E := E) (K := K) n (m - n)
  rwa [show n + (m - n) = m by omega] at this
end

/-! ### Comparing -/

mutual
def AV.beq : AV → AV → Bool
  | .bool a, y => match y with | .bool b => a == b | _ => false
  | .int k a, y => match y with | .int k' b => decide (k = k') && decide (a = b) | _ => false
  | .str a, y => match y with | .str b => bytesEq a b | _ => false
  | .nilp, y => match y with | .nilp => true | _ => false
  | .ptr b o v, y => match y with | .ptr b' o' v' => Nat.beq b b' && Nat.beq o o' && Nat.beq v v' | _ => false
  | .iptr l, y => match y with | .iptr l' => AV.beqs l l' | _ => false
  | .nils, y => match y with | .nils => true | _ => false
  | .sl b o l v s, y => match y with | .sl b' o' l' v' s' => Nat.beq b b' && Nat.beq o o' && Nat.beq l l' && Nat.beq v v' && Nat.beq s s' | _ => false
  | .imm n l, y => match y with | .imm n' l' => Nat.beq n n' && AV.beqs l l' | _ => false
  | .emp, y => match y with | .emp => true | _ => false
  | .fn f l, y => match y with | .fn f' l' => Nat.beq f f' && AV.beqs l l' | _ => false
  | .nilf, y => match y with | .nilf => true | _ => false
  | .agg l, y => match y with | .agg l' => AV.beqs l l' | _ => false
  | .tup l, y => match y with | .tup l' => AV.beqs l l' | _ => false
def AV.beqs : List AV → List AV → Bool
  | [], y => match y with | [] => true | _ => false
  | a :: l, y => match y with | b :: l' => AV.beq a b && AV.beqs l l' | [] => false
end

theorem nat_beq {a b : Nat} (h : Nat.beq a b = true) : a = b := Nat.eq_of_beq_eq_true h

mutual
theorem AV.eq_of_beq : ∀ {x y : AV}, x.beq y = true → x = y
  | .bool a, y, h => by cases y <;> simp [AV.beq] at h; rw [h]
  | .int k a, y, h => by cases y <;> simp [AV.beq] at h; rw [h.1, h.2]
  | .str a, y, h => by cases y <;> simp [AV.beq] at h; rename_i b; have e : a = b := by { apply ByteArray.ext; simpa [bytesEq] using h }; rw [e]
  | .nilp, y, h => by cases y <;> simp [AV.beq] at h; rfl
  | .ptr b o v, y, h => by cases y <;> simp [AV.beq] at h; rw [h.1.1, h.1.2, h.2]
  | .iptr l, y, h => by cases y <;> simp [AV.beq] at h; rw [AV.eqs_of_beqs h]
  | .nils, y, h => by cases y <;> simp [AV.beq] at h; rfl
  | .sl b o l v s, y, h => by cases y <;> simp [AV.beq] at h; obtain ⟨⟨⟨⟨h1, h2⟩, h3⟩, h4⟩, h5⟩ := h; rw [h1, h2, h3, h4, h5]
  | .imm n l, y, h => by cases y <;> simp [AV.beq] at h; rw [h.1, AV.eqs_of_beqs h.2]
  | .emp, y, h => by cases y <;> simp [AV.beq] at h; rfl
  | .fn f l, y, h => by cases y <;> simp [AV.beq] at h; rw [h.1, AV.eqs_of_beqs h.2]
  | .nilf, y, h => by cases y <;> simp [AV.beq] at h; rfl
  | .agg l, y, h => by cases y <;> simp [AV.beq] at h; rw [AV.eqs_of_beqs h]
  | .tup l, y, h => by cases y <;> simp [AV.beq] at h; rw [AV.eqs_of_beqs h]
theorem AV.eqs_of_beqs : ∀ {x y : List AV}, AV.beqs x y = true → x = y
  | [], y, h => by cases y <;> simp [AV.beqs] at h; rfl
  | a :: l, y, h => by cases y <;> simp [AV.beqs] at h; rw [AV.eq_of_beq h.1, AV.eqs_of_beqs h.2]
end

mutual
theorem AV.beq_self : ∀ (x : AV), x.beq x = true
  | .bool a | .int k a | .nilp | .ptr b o v | .nils | .sl b o l v s | .emp | .nilf => by simp [AV.beq]
  | .str a => by simp [AV.beq, bytesEq]
  | .iptr l | .imm n l | .fn f l | .agg l | .tup l => by simp [AV.beq, AV.beqs_self l]
theorem AV.beqs_self : ∀ (x : List AV), AV.beqs x x = true
  | [] => rfl
  | a :: l => by simp [AV.beqs, AV.beq_self a, AV.beqs_self l]
end

def Blk.beq (x y : Blk) : Bool := Nat.beq x.sz y.sz && Nat.beq x.ver y.ver && AV.beqs x.cells y.cells
def beqSt : List Blk → List Blk → Bool
  | [], y => match y with | [] => true | _ => false
  | a :: l, y => match y with | b :: l' => a.beq b && beqSt l l' | [] => false

theorem Blk.eq_of_beq : ∀ {x y : Blk}, x.beq y = true → x = y
  | ⟨a, b, c⟩, ⟨a', b', c'⟩, h => by
    simp only [Blk.beq, Bool.and_eq_true] at h
    rw [nat_beq h.1.1, nat_beq h.1.2, AV.eqs_of_beqs h.2]
theorem eq_of_beqSt : ∀ {x y : List Blk}, beqSt x y = true → x = y
  | [], y, h => by cases y <;> simp [beqSt] at h; rfl
  | a :: l, y, h => by cases y <;> simp [beqSt] at h; rw [Blk.eq_of_beq h.1, eq_of_beqSt h.2]

/-! ### Tables of calls -/

structure Ent where
  f : FuncId
  args : List AV
  st : List Blk
  r : AV × List Blk × Nat

def look : List Ent → CallR
  | [], _, _, _ => none
  | e :: T, f, args, st => if (Nat.beq e.f f && (AV.beqs e.args args && beqSt e.st st)) = true then some e.r else look T f args st

/-- A call, the known ones asked first. -/
def callT (E : Env) (K : Nat) (T : List Ent) : Nat → CallR
  | 0 => look T
  | n + 1 => fun f args st => match look T f args st with
    | some r => some r
    | none => callS E K (callT E K T n) f args st

/-- What a call comes to. -/
def Ent.good (E : Env) (K m : Nat) (e : Ent) : Prop := callA E K m e.f e.args e.st = some e.r

section
variable {E : Env} {K m : Nat}
theorem look_le : ∀ {T : List Ent}, (∀ e ∈ T, e.good E K m) → Le (look T) (callA E K m)
  | [], _ => fun _ _ _ _ h => by cases h
  | e :: T, hT => by
    intro f a st r h
    simp only [look] at h
    split at h
    · rename_i hc
      simp only [Bool.and_eq_true] at hc
      have h1 := nat_beq hc.1
      have h2 := AV.eqs_of_beqs hc.2.1
      have h3 := eq_of_beqSt hc.2.2
      cases h
      have := hT e (List.mem_cons_self ..)
      unfold Ent.good at this
      rw [h1, h2, h3] at this; exact this
    · exact look_le (fun e he => hT e (List.mem_cons_of_mem _ he)) _ _ _ _ h

theorem callT_le {T : List Ent} (hT : ∀ e ∈ T, e.good E K m) : ∀ n, Le (callT E K T n) (callA E K (m + n))
  | 0 => look_le hT
  | n + 1 => by
    intro f a st r h
    simp only [callT] at h
    split at h
    · rename_i x hx
      cases h
      exact callA_le _ (n + 1) _ _ _ _ (look_le hT _ _ _ _ hx)
    · rw [show m + (n + 1) = (m + n) + 1 by omega, callA_succ]
      exact callS_le (callT_le hT n) _ _ _ _ h

theorem Ent.good.le {e : Ent} {m' : Nat} (h : e.good E K m) (hm : m ≤ m') : e.good E K m' := callA_le' hm _ _ _ _ h

/-- A call is known, given the known ones. -/
theorem good_of {T : List Ent} (hT : ∀ e ∈ T, e.good E K m) {n : Nat} {e : Ent} (h : callT E K T n e.f e.args e.st = some e.r) : e.good E K (m + n) := callT_le hT n _ _ _ _ h

theorem all_nil : ∀ e ∈ ([] : List Ent), e.good E K m := fun _ h => by cases h
theorem all_cons {e : Ent} {T : List Ent} {m' : Nat} (h : e.good E K m') (hm : m' ≤ m) (hT : ∀ e ∈ T, e.good E K m) : ∀ x ∈ e :: T, x.good E K m := by
  intro x hx
  cases hx with
  | head => exact h.le hm
  | tail _ hx => exact hT x hx
end
end Go.Proofs.YteaifkpmfbgekaaGreatDoor.M

namespace Go.Proofs.YteaifkpmfbgekaaGreatDoor.M
open Go

/-- A result that is all new, read out of the store. -/
def freshA (st : List Blk) : Nat → AV → Option AV
  | 0, v => if v.bare then some v else none
  | d + 1, v => match v with
    | .sl b off len ver _ =>
      match st[b]? with
      | none => none
      | some k =>
        if k.ver = ver then
          match cut k.cells off (len * k.sz) with
          | none => none
          | some l => match mapO (freshA st d) l with
            | some l => some (.imm len l)
            | none => none
        else none
    | .imm n l => if n = 0 ∧ l = [] then some (.imm 0 []) else none
    | .agg l => match mapO (freshA st d) l with
      | some l => some (.agg l)
      | none => none
    | .tup l => match mapO (freshA st d) l with
      | some l => some (.tup l)
      | none => none
    | v => if v.bare then some v else none

structure Known where
  f : FuncId
  args : List AV
  r : AV

/-- Is a function among the known ones? -/
def anyF : List Known → FuncId → Bool
  | [], _ => false
  | e :: T, f => Nat.beq e.f f || anyF T f
def findK : List Known → FuncId → List AV → Option AV
  | [], _, _ => none
  | e :: T, f, args => if (Nat.beq e.f f && AV.beqs e.args args) = true then some e.r else findK T f args

/-- What the known calls say of a call. -/
def lookK (T : List Known) : CallR := fun f args st =>
  if anyF T f = true then
    match mapO (frzA st 0 12) args with
    | none => none
    | some cs => match findK T f cs with
      | some r => some (r, st, st.length)
      | none => none
  else none

/-- A call, the known ones asked first. -/
def callK (E : Env) (K : Nat) (T : List Known) : Nat → CallR
  | 0 => lookK T
  | n + 1 => fun f args st => match lookK T f args st with
    | some r => some r
    | none => callS E K (callK E K T n) f args st

abbrev sto0 : Sto := fun _ => none
abbrev mu0 : Mu := fun _ => none
theorem prot0 (i : Nat) : Prot mu0 i := fun _ _ h => by cases h

theorem take0 (T : Sto) : take T 0 = sto0 := by funext b; simp [take]
theorem takeM0 (μ : Mu) : takeM μ 0 = mu0 := by funext b; simp [takeM]

section
variable {P : Program} {E : Env}

theorem fresh_rel {T T2 : Sto} {μ μ2 : Mu} {w : World} {st : List Blk} (hI : Inv T μ w) (hsub : Sub T st) (hfr : ∀ b c, μ b = some c → Prot μ2 c.1) : ∀ (d : Nat) (v v' : AV), freshA st d v = some v' → ∀ x, Rel T μ w v x → Rel T2 μ2 w v' x
  | 0, v, v', h, x, hr => by
    simp only [freshA] at h
    split at h
    · rename_i hb; cases h; exact bare_rel hb hr
    · cases h
  | d + 1, v, v', h, x, hr => by
    have ih := fresh_rel (T2 := T2) hI hsub hfr d
    have lst : ∀ {l l' : List AV} {xs : List Value}, mapO (freshA st d) l = some l' → Rels T μ w l xs → Rels T2 μ2 w l' xs := by
      intro l l' xs hm hrs
      obtain ⟨h1, h2⟩ := mapO_spec hm
      refine .of_get (by rw [h1]; exact hrs.1) fun j u y hu hy => ?_
      have hlt : j < l.length := by rw [← h1]; exact (List.getElem?_eq_some_iff.1 hu).1
      obtain ⟨u', hu', hf⟩ := h2 j l[j] (List.getElem?_eq_getElem hlt)
      rw [hu] at hu'; cases hu'
      exact ih _ _ hf y (hrs.rel (List.getElem?_eq_getElem hlt) hy)
    unfold freshA at h
    split at h
    · rename_i b off len ver sz
      split at h
      · cases h
      · rename_i k hk
        split at h
        · rename_i hver
          split at h
          · cases h
          · rename_i l hl
            split at h
            · rename_i l' hm
              cases h
              cases hr with
              | @sl _ _ _ _ _ cap a k0 hk0 hv hlc hrest =>
                have hkk : k0 = k := by have := hsub _ _ hk0; rw [hk] at this; cases this; rfl
                subst hkk
                obtain ⟨c, hμ, rfl, _⟩ := hrest hver.symm
                obtain ⟨xs, hxr, hxc⟩ := ((At.of_block hI hμ hk0).cut hl).list
                have hadd : (⟨c.1, 0, none⟩ : Addr).add off = ⟨c.1, off, none⟩ := by
                  unfold Addr.add
                  split
                  · rename_i h0; subst h0; rfl
                  · simp
                rw [hadd] at hxc
                have hfr2 := lst hm hxr
                refine .imm (f := fun j => xs.getD j undef) hlc (fun _ => hfr b c hμ) (fun j hj => ?_) (fun j hj => ?_)
                · have hlt : j < xs.length := by rw [hfr2.1]; exact hj
                  rw [hxc j xs[j] (List.getElem?_eq_getElem hlt)]
                  simp [hlt]
                · have hlt : j < xs.length := by rw [hfr2.1]; exact hj
                  have := hfr2.2 j hj hlt
                  simpa [hlt] using this
            · cases h
        · cases h
    · rename_i n l
      split at h
      · rename_i hc
        obtain ⟨rfl, rfl⟩ := hc
        cases h
        cases hr with
        | imm0 => exact .imm0
        | imm _ _ _ _ => exact .imm0
      · cases h
    · rename_i l
      split at h
      · rename_i l' hm
        cases h
        obtain ⟨xs, rfl, hrs⟩ := Rel.agg_iff.1 hr
        exact Rel.agg_iff.2 ⟨xs, rfl, lst hm hrs⟩
      · cases h
    · rename_i l
      split at h
      · rename_i l' hm
        cases h
        cases hr with
        | @tup _ xs hl hrr =>
          have hrs : Rels T μ w l xs.toList := ⟨by simpa using hl, fun j hj hx => by
            have := hrr j hj (by simpa using hx)
            simpa using this⟩
          have h2 := lst hm hrs
          exact .tup (by simpa using h2.1) fun j hj hx => by
            have := h2.2 j hj (by simpa using hx)
            simpa using this
      · cases h
    · split at h
      · rename_i hb; cases h; exact bare_rel hb hr
      · cases h

/-- What a known call is worth. -/
structure GoodK (P : Program) (e : Known) : Prop where
  fn : ∃ fn, P.funcs[e.f]? = some fn ∧ fn.body.isNone = false ∧ (fn.name == "runtime.NumGoroutine") = false
  calls : ∀ w (xs : List Value), Inv sto0 mu0 w → Rels sto0 mu0 w e.args xs → Calls P e.f xs.toArray w fun e' W' => ∃ x, e' = .returned x ∧ Evo sto0 mu0 w sto0 mu0 W' ∧
    ∀ T μ, (∀ b c, μ b = some c → c.1 < w.heap.size) → Rel T μ W' e.r x

theorem anyF_mem : ∀ {T : List Known} {f : FuncId} {cs : List AV} {r : AV}, findK T f cs = some r → ∃ e ∈ T, e.f = f ∧ e.args = cs ∧ e.r = r
  | [], _, _, _, h => by cases h
  | e :: T, f, cs, r, h => by
    simp only [findK] at h
    split at h
    · rename_i hc
      simp only [Bool.and_eq_true] at hc
      cases h
      exact ⟨e, List.mem_cons_self .., nat_beq hc.1, AV.eqs_of_beqs hc.2, rfl⟩
    · obtain ⟨e', he', h1⟩ := anyF_mem h
      exact ⟨e', List.mem_cons_of_mem _ he', h1⟩

theorem lookK_spec {T : List Known} {f : FuncId} {args : List AV} {st : List Blk} {x : AV × List Blk × Nat} (h : lookK T f args st = some x) :
    ∃ e ∈ T, e.f = f ∧ mapO (frzA st 0 12) args = some e.args ∧ x = (e.r, st, st.length) := by
  unfold lookK at h
  split at h
  · split at h
    · cases h
    · rename_i cs hcs
      split at h
      · rename_i r hr
        cases h
        obtain ⟨e, he, h1, h2, h3⟩ := anyF_mem hr
        exact ⟨e, he, h1, by rw [h2]; exact hcs, by rw [h3]⟩
      · cases h
  · cases h

theorem frzs_rel {T : Sto} {μ : Mu} {w : World} {st : List Blk} (hI : Inv T μ w) (hsub : Sub T st) {d : Nat} {l l' : List AV} {xs : List Value} (hm : mapO (frzA st 0 d) l = some l') (hrs : Rels T μ w l xs) : Rels sto0 mu0 w l' xs := by
  obtain ⟨h1, h2⟩ := mapO_spec hm
  refine .of_get (by rw [h1]; exact hrs.1) fun j u y hu hy => ?_
  have hlt : j < l.length := by rw [← h1]; exact (List.getElem?_eq_some_iff.1 hu).1
  obtain ⟨u', hu', hf⟩ := h2 j l[j] (List.getElem?_eq_getElem hlt)
  rw [hu] at hu'; cases hu'
  have := frz_rel hI hsub d _ _ hf y (hrs.rel (List.getElem?_eq_getElem hlt) hy)
  rwa [take0, takeM0] at this

theorem globs_bare : ∀ g l, globs g = some l → mapO (frzA [] 0 0) l = some l := by
  intro g l h
  unfold globs at h
  split at h
  · cases h; rfl
  · cases h

theorem Inv.bottom {T : Sto} {μ : Mu} {w : World} (hI : Inv T μ w) : Inv sto0 mu0 w := by
  refine ⟨fun _ _ _ _ h => (nomatch h), fun _ _ h => (nomatch h), fun g l hg => ?_⟩
  have hb := globs_bare g l hg
  obtain ⟨h1, h2⟩ := mapO_spec hb
  have hr := hI.glob g l hg
  cases hr with
  | @iptr _ a f hp hc hrr =>
    refine .iptr (f := f) (fun _ => prot0 _) hc fun j hj => ?_
    obtain ⟨u', hu', hf⟩ := h2 j l[j] (List.getElem?_eq_getElem hj)
    simp only [frzA] at hf
    split at hf
    · rename_i hbv; exact bare_rel hbv (hrr j hj)
    · cases hf

theorem lookK_sound {T : List Known} (hT : ∀ e ∈ T, GoodK P e) : SoundCall P (lookK T) := by
  refine ⟨fun f args st r st' low h => ?_, fun f args st r st' low h => ?_, fun f args st r st' low h => ?_⟩
  · obtain ⟨e, he, rfl, _, _⟩ := lookK_spec h
    exact (hT e he).fn
  · obtain ⟨e, he, rfl, _, hx⟩ := lookK_spec h
    cases hx
    exact ⟨Nat.le_refl _, fun _ _ _ => rfl⟩
  · obtain ⟨e, he, rfl, hm, hx⟩ := lookK_spec h
    cases hx
    intro T μ w xs hsub hI hargs
    refine ((hT e he).calls w xs hI.bottom (frzs_rel hI hsub hm hargs)).mono fun e' W' hx => ?_
    obtain ⟨x, rfl, ev, hr⟩ := hx
    have ev' : Evo T μ w T μ W' := ⟨fun _ k h => ⟨k, h, Nat.le_refl _, fun _ _ hc => ⟨hc, rfl, rfl⟩⟩, ev.os, ev.tape, ev.output, ev.size, fun i hi hp => ⟨(ev.frame i hi (prot0 i)).1, hp⟩⟩
    refine ⟨x, T, μ, rfl, hsub, ⟨hI.inj, fun b c hc => ?_, fun g l hg => (hI.glob g l hg).mono ev'⟩, hr T μ fun b c hc => hI.lt hc, ev', fun _ _ h => h, fun _ _ _ => ⟨rfl, rfl⟩⟩
    obtain ⟨k, hk, cs, t, h1, h2, h3, h4⟩ := hI.blk b c hc
    exact ⟨k, hk, cs, t, by rw [(ev.frame c.1 (hI.lt hc) (prot0 _)).1]; exact h1, h2, h3, h4.mono ev'⟩

/-- Two ways to a call, one after the other. -/
theorem or_sound {c c' d : CallR} (h : SoundCall P c) (h' : SoundCall P c') (hd : ∀ f args st r, d f args st = some r → c f args st = some r ∨ c' f args st = some r) : SoundCall P d :=
  ⟨fun f args st r st' low hx => (hd _ _ _ _ hx).elim (h.fn _ _ _ _ _ _) (h'.fn _ _ _ _ _ _),
   fun f args st r st' low hx => (hd _ _ _ _ hx).elim (h.len _ _ _ _ _ _) (h'.len _ _ _ _ _ _),
   fun f args st r st' low hx => (hd _ _ _ _ hx).elim (h.calls _ _ _ _ _ _) (h'.calls _ _ _ _ _ _)⟩

theorem callK_sound {K : Nat} (hE : Env.Ok P E (fun ops => regionOk ops = true)) (hm : P.follows .mixedOrders = true) {T : List Known} (hT : ∀ e ∈ T, GoodK P e) : ∀ n, SoundCall P (callK E K T n)
  | 0 => lookK_sound hT
  | n + 1 => or_sound (lookK_sound hT) (callS_sound hE (fun _ h => draw_sound h hE.types hm) K (callK_sound hE hm hT n)) fun f args st r h => by
    simp only [callK] at h
    split at h
    · rename_i hx; cases h; exact .inl hx
    · exact .inr h

/-- A call becomes known. -/
theorem good_known {call : CallR} (hS : SoundCall P call) {e : Known} {r : AV} {st : List Blk} {low : Nat} (h : call e.f e.args [] = some (r, st, low)) (hr : freshA st 12 r = some e.r) : GoodK P e := by
  refine ⟨hS.fn _ _ _ _ _ _ h, fun w xs hI hargs => (hS.calls _ _ _ _ _ _ h sto0 mu0 w xs (fun _ _ h => (nomatch h)) hI hargs).mono fun e' W' hx => ?_⟩
  obtain ⟨x, T', μ', rfl, out⟩ := hx
  refine ⟨x, rfl, ⟨fun _ _ h => (nomatch h), out.evo.os, out.evo.tape, out.evo.output, out.evo.size, fun i hi _ => ⟨(out.evo.frame i hi (prot0 i)).1, prot0 i⟩⟩, fun T μ hlt => ?_⟩
  refine fresh_rel out.inv out.sub (fun b c hc b' c' hc' heq => ?_) 12 _ _ hr _ out.rel
  have h1 := hlt b' c' hc'
  have h2 := (out.evo.frame c'.1 h1 (prot0 _)).2
  exact h2 b c hc heq.symm

/-- The check of a known call. -/
def chkK (E : Env) (K : Nat) (T : List Known) (n : Nat) (e : Known) : Bool :=
  match callK E K T n e.f e.args [] with
  | some (r, st, _) => (match freshA st 12 r with | some r => AV.beq r e.r | none => false)
  | none => false

theorem known_of_chk {K : Nat} (hE : Env.Ok P E (fun ops => regionOk ops = true)) (hm : P.follows .mixedOrders = true) {T : List Known} (hT : ∀ e ∈ T, GoodK P e) {n : Nat} {e : Known} (h : chkK E K T n e = true) : GoodK P e := by
  unfold chkK at h
  split at h
  · rename_i r st low hc
    split at h
    · rename_i r' hr
      exact good_known (callK_sound hE hm hT n) hc (by rw [hr, AV.eq_of_beq h])
    · cases h
  · cases h

theorem goods_nil : ∀ e ∈ ([] : List Known), GoodK P e := fun _ h => by cases h
theorem goods_cons {e : Known} {T : List Known} (h : GoodK P e) (hT : ∀ e ∈ T, GoodK P e) : ∀ x ∈ e :: T, GoodK P x := by
  intro x hx
  cases hx with
  | head => exact h
  | tail _ hx => exact hT x hx
end
end Go.Proofs.YteaifkpmfbgekaaGreatDoor.M

namespace Go.Proofs.YteaifkpmfbgekaaGreatDoor.M
open Go

def orC (a b : CallR) : CallR := fun f args st => match a f args st with
  | some r => some r
  | none => b f args st

/-- A call, over a ground that is asked first. -/
def callB (E : Env) (K : Nat) (base : CallR) : Nat → CallR
  | 0 => base
  | n + 1 => fun f args st => match base f args st with
    | some r => some r
    | none => callS E K (callB E K base n) f args st

def chkE (E : Env) (K : Nat) (base : CallR) (n : Nat) (e : Ent) : Bool :=
  match callB E K base n e.f e.args e.st with
  | some (r, st, low) => AV.beq r e.r.1 && (beqSt st e.r.2.1 && Nat.beq low e.r.2.2)
  | none => false

def chkB (E : Env) (K : Nat) (base : CallR) (n : Nat) (e : Known) : Bool :=
  match callB E K base n e.f e.args [] with
  | some (r, st, _) => (match freshA st 12 r with | some r => AV.beq r e.r | none => false)
  | none => false

section
variable {P : Program} {E : Env} {K : Nat}

theorem orC_sound {a b : CallR} (ha : SoundCall P a) (hb : SoundCall P b) : SoundCall P (orC a b) := or_sound ha hb fun f args st r h => by
  unfold orC at h
  split at h
  · rename_i hx; cases h; exact .inl hx
  · exact .inr h

theorem callB_sound (hE : Env.Ok P E (fun ops => regionOk ops = true)) (hm : P.follows .mixedOrders = true) {base : CallR} (hb : SoundCall P base) : ∀ n, SoundCall P (callB E K base n)
  | 0 => hb
  | n + 1 => or_sound hb (callS_sound hE (fun _ h => draw_sound h hE.types hm) K (callB_sound hE hm hb n)) fun f args st r h => by
    simp only [callB] at h
    split at h
    · rename_i hx; cases h; exact .inl hx
    · exact .inr h

theorem look_nil : SoundCall P (look []) := ⟨fun _ _ _ _ _ _ h => (nomatch h), fun _ _ _ _ _ _ h => (nomatch h), fun _ _ _ _ _ _ h => (nomatch h)⟩

theorem look_one {call : CallR} (hS : SoundCall P call) {e : Ent} (h : call e.f e.args e.st = some e.r) : SoundCall P (look [e]) :=
  or_sound hS hS fun f args st r hx => by
    simp only [look] at hx
    split at hx
    · rename_i hc
      simp only [Bool.and_eq_true] at hc
      cases hx
      rw [← nat_beq hc.1, ← AV.eqs_of_beqs hc.2.1, ← eq_of_beqSt hc.2.2]
      exact .inl h
    · cases hx

theorem look_cons {e : Ent} {T : List Ent} (h : SoundCall P (look [e])) (hT : SoundCall P (look T)) : SoundCall P (look (e :: T)) :=
  or_sound h hT fun f args st r hx => by
    simp only [look] at hx ⊢
    split at hx
    · rename_i hc
      rw [if_pos hc]
      exact .inl hx
    · exact .inr hx

theorem ent_of_chk (hE : Env.Ok P E (fun ops => regionOk ops = true)) (hm : P.follows .mixedOrders = true) {base : CallR} (hb : SoundCall P base) {n : Nat} {e : Ent} (h : chkE E K base n e = true) : SoundCall P (look [e]) := by
  unfold chkE at h
  split at h
  · rename_i r st low hc
    simp only [Bool.and_eq_true] at h
    refine look_one (callB_sound (K := K) hE hm hb n) (hc.trans ?_)
    rw [AV.eq_of_beq h.1, eq_of_beqSt h.2.1, nat_beq h.2.2]
  · cases h

theorem known_of_chkB (hE : Env.Ok P E (fun ops => regionOk ops = true)) (hm : P.follows .mixedOrders = true) {base : CallR} (hb : SoundCall P base) {n : Nat} {e : Known} (h : chkB E K base n e = true) : GoodK P e := by
  unfold chkB at h
  split at h
  · rename_i r st low hc
    split at h
    · rename_i r' hr
      exact good_known (callB_sound hE hm hb n) hc (by rw [hr, AV.eq_of_beq h])
    · cases h
  · cases h
end
end Go.Proofs.YteaifkpmfbgekaaGreatDoor.M
