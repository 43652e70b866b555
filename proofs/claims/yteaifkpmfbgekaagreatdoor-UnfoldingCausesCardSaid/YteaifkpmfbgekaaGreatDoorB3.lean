/- An operation looks at its operands, and at the blocks that it names: nothing else. -/
import Derived.Test.YteaifkpmfbgekaaGreatDoorB2
set_option linter.all false
set_option linter.deprecated false
namespace Go.Proofs.YteaifkpmfbgekaaGreatDoor.M
open Go
section
variable {E : Env} {sl sl' : List AV} {lk lk' : Nat → Option Blk}

theorem opdA_congr {x : Operand} (h : ∀ t, x = .tmp t → sl'[t]? = sl[t]?) : opdA sl' x = opdA sl x := by
  cases x with
  | tmp t => exact h t rfl
  | _ => rfl
theorem opdsA_congr : ∀ {l : List Operand}, (∀ x ∈ l, ∀ t, x = .tmp t → sl'[t]? = sl[t]?) → opdsA sl' l = opdsA sl l
  | [], _ => rfl
  | x :: l, h => by
    simp only [opdsA]
    rw [opdA_congr (h x (List.mem_cons_self ..)), opdsA_congr fun y hy => h y (List.mem_cons_of_mem _ hy)]
theorem partsA_congr : ∀ {l : List (Nat × Operand)}, (∀ x ∈ l.map (·.2), ∀ t, x = .tmp t → sl'[t]? = sl[t]?) → partsA sl' l = partsA sl l
  | [], _ => rfl
  | (i, x) :: l, h => by
    simp only [partsA]
    rw [opdA_congr (h x (List.mem_cons_self ..)), partsA_congr fun y hy => h y (List.mem_cons_of_mem _ hy)]
theorem optA_congr {x : Option Operand} (h : ∀ y, x = some y → ∀ t, y = .tmp t → sl'[t]? = sl[t]?) : optA sl' x = optA sl x := by
  cases x with
  | none => rfl
  | some y => simp only [optA]; rw [opdA_congr (h y rfl)]

/-- The same operands, the same effect. -/
theorem effA_congr {id : Nat} {op : Op} (h : ∀ x ∈ op.operands, ∀ t, x = .tmp t → sl'[t]? = sl[t]?) : effA E sl' lk id op = effA E sl lk id op := by
  cases op
  case pick c x y =>
    simp only [effA]
    rw [opdA_congr (x := c) (h _ (by simp [Op.operands])), opdA_congr (x := x) (h _ (by simp [Op.operands])), opdA_congr (x := y) (h _ (by simp [Op.operands]))]
  case build t parts =>
    simp only [effA]
    rw [partsA_congr fun x hx => h x (by simpa [Op.operands] using hx)]
  case buildSlice t n parts =>
    simp only [effA]
    rw [partsA_congr fun x hx => h x (by simpa [Op.operands] using hx)]
  case makeFunc fn first cap =>
    cases fn <;> simp only [effA]
    rw [opdsA_congr fun x hx => h x (by simp only [Op.operands, Array.mem_append]; exact .inr (by simpa using hx))]
  case slice t x lo hi mx =>
    simp only [effA]
    rw [opdA_congr (x := x) (h _ (by simp [Op.operands])), optA_congr (x := lo) fun y hy => h y (by subst hy; simp [Op.operands]), optA_congr (x := hi) fun y hy => h y (by subst hy; simp [Op.operands]),
      optA_congr (x := mx) fun y hy => h y (by subst hy; simp [Op.operands])]
  case call c =>
    obtain ⟨callee, args, tys⟩ := c
    cases callee <;> simp only [effA]
    rw [opdsA_congr fun x hx => h x (by simp only [Op.operands, Call.operands, Array.mem_append]; exact .inr (by simpa using hx))]
  all_goals first
    | rfl
    | (simp only [effA]; rw [opdA_congr (h _ (by simp [Op.operands]))]; done)
    | (rename_i x y; simp only [effA]; rw [opdA_congr (x := x) (h _ (by simp [Op.operands])), opdA_congr (x := y) (h _ (by simp [Op.operands]))]; done)
    | (rename_i x y _; simp only [effA]; rw [opdA_congr (x := x) (h _ (by simp [Op.operands])), opdA_congr (x := y) (h _ (by simp [Op.operands]))]; done)

theorem needA_congr {op : Op} (h : ∀ x ∈ op.operands, ∀ t, x = .tmp t → sl'[t]? = sl[t]?) : needA sl' op = needA sl op := by
  have args : ∀ (l : List Operand), (∀ x ∈ l, ∀ t, x = .tmp t → sl'[t]? = sl[t]?) → (l.flatMap fun x => leadA (opdA sl' x)) = l.flatMap fun x => leadA (opdA sl x) := by
    intro l hl
    induction l with
    | nil => rfl
    | cons x l ih =>
      simp only [List.flatMap_cons]
      rw [opdA_congr (hl x (List.mem_cons_self ..)), ih fun y hy => hl y (List.mem_cons_of_mem _ hy)]
  cases op
  case load t a => simp only [needA]; rw [opdA_congr (h _ (by simp [Op.operands]))]
  case store t a x => simp only [needA]; rw [opdA_congr (x := a) (h _ (by simp [Op.operands]))]
  case call c =>
    obtain ⟨callee, as, tys⟩ := c
    cases callee <;> simp only [needA]
    rename_i b
    cases b <;> (try rfl)
    all_goals exact args _ fun x hx => h x (by simp only [Op.operands, Call.operands, Array.mem_append]; exact .inr (by simpa using hx))
  all_goals rfl

theorem seeA_congr {need : List Nat} (h : ∀ b ∈ need, lk' b = lk b) : seeA need lk' = seeA need lk := by
  funext b
  unfold seeA
  by_cases hb : need.contains b = true
  · rw [if_pos hb, if_pos hb, h b (by simpa using hb)]
  · rw [if_neg hb, if_neg hb]

theorem ontoA_id {id sz : Nat} {s : AV} {n : Nat} {cells : List AV} {rd : List Nat} {e : Eff} (h : ontoA lk id sz s n cells rd = some e) (hn : e.new = none) (id' : Nat) : ontoA lk id' sz s n cells rd = some e := by
  unfold ontoA at h ⊢
  by_cases h0 : n = 0
  · rw [if_pos h0] at h ⊢; exact h
  · rw [if_neg h0] at h ⊢
    cases s with
    | nils => cases h; cases hn
    | emp => cases h; cases hn
    | sl b off len ver sz' => exact h
    | _ => cases h

theorem appendA_id {id : Nat} {ts : List TypeId} {args : List AV} {e : Eff} (h : appendA E lk id ts args = some e) (hn : e.new = none) (id' : Nat) : appendA E lk id' ts args = some e := by
  obtain ⟨t, u, s, x, rfl, rfl⟩ : ∃ t u s x, ts = [t, u] ∧ args = [s, x] := by
    unfold appendA at h
    split at h
    · exact ⟨_, _, _, _, rfl, rfl⟩
    · cases h
  unfold appendA at h ⊢
  simp only [] at h ⊢
  split at h
  · rename_i el sz by_ z0 eqk iu hi hu
    skip
    split at h
    · cases h
    · rename_i j hj
      split at h
      · cases h
      · rename_i z hz
        skip
        split at h
        · rename_i hc
          rw [if_pos hc]
          split at h <;> rename_i hd <;> (try simp only [hd])
          · split at h
            · rename_i h2; rw [if_pos h2]; exact ontoA_id h hn id'
            · cases h
          · split at h
            · rename_i hs; (try simp only [hs])
              split at h
              · rename_i h2; rw [if_pos h2]; exact ontoA_id h hn id'
              · cases h
            · cases h
          · split at h
            · rename_i hs; (try simp only [hs])
              split at h
              · rename_i h2; rw [if_pos h2]; exact ontoA_id h hn id'
              · cases h
            · cases h
          · cases h
        · cases h
  · cases h

/-- Where no block is made, its name does not matter. -/
theorem effA_id {id : Nat} {op : Op} {e : Eff} (h : effA E sl lk id op = some e) (hn : e.new = none) (id' : Nat) : effA E sl lk id' op = some e := by
  cases op
  case alloc t =>
    simp only [effA] at h
    split at h
    · split at h
      · split at h
        · cases h; cases hn
        · cases h
      · cases h
    · cases h
  case box t x =>
    simp only [effA] at h
    split at h
    · split at h
      · cases h; cases hn
      · cases h
    · cases h
  case buildSlice t len parts =>
    simp only [effA] at h
    split at h
    · unfold buildSliceA at h
      split at h
      · split at h
        · split at h
          · split at h
            · split at h
              · cases h; cases hn
              · cases h
            · cases h
          · cases h
        · cases h
      · cases h
    · cases h
  case makeSlice t l c =>
    simp only [effA] at h
    split at h
    · unfold makeSliceA at h
      split at h
      · split at h
        · split at h
          · split at h
            · cases h; cases hn
            · cases h
          · cases h
        · cases h
      · cases h
    · cases h
  case makeFunc fn first cap => cases fn <;> exact h
  case call c =>
    obtain ⟨callee, args, tys⟩ := c
    cases callee with
    | builtin b =>
      simp only [effA] at h ⊢
      split at h
      · rename_i l hl
        cases b <;> simp only [builtinA] at h ⊢ <;> try exact h
        exact appendA_id h hn id'
      · cases h
    | _ => exact h
  all_goals exact h

/-! ### The more is known of the store, the more is known -/

theorem readA_mono (hl : ∀ b k, lk b = some k → lk' b = some k) {t : TypeId} {p : AV} {e : Eff} (h : readA E lk t p = some e) : readA E lk' t p = some e := by
  unfold readA at h ⊢
  cases hi : E.info t with
  | none => simp only [hi] at h; cases h
  | some i =>
    simp only [hi] at h ⊢
    cases p with
    | ptr b off ver =>
      simp only [] at h ⊢
      cases hb : lk b with
      | none => simp only [hb] at h; cases h
      | some k => simp only [hb] at h; simp only [hl b k hb]; exact h
    | iptr cells => exact h
    | _ => simp only [] at h; cases h

theorem storeA_mono (hl : ∀ b k, lk b = some k → lk' b = some k) {t : TypeId} {p v : AV} {e : Eff} (h : storeA E lk t p v = some e) : storeA E lk' t p v = some e := by
  unfold storeA at h ⊢
  cases hi : E.info t with
  | none => simp only [hi] at h; cases h
  | some i =>
    simp only [hi] at h ⊢
    cases p with
    | ptr b off ver =>
      simp only [] at h ⊢
      cases hb : lk b with
      | none => simp only [hb] at h; cases h
      | some k => simp only [hb] at h; simp only [hl b k hb]; exact h
    | _ => simp only [] at h; cases h

theorem srcA_mono (hl : ∀ b k, lk b = some k → lk' b = some k) {sz : Nat} {x : AV} {r : Nat × List AV × List Nat} (h : srcA lk sz x = some r) : srcA lk' sz x = some r := by
  unfold srcA at h ⊢
  cases x with
  | sl b off len ver sz' =>
    simp only [] at h ⊢
    cases hb : lk b with
    | none => simp only [hb] at h; cases h
    | some k => simp only [hb] at h; simp only [hl b k hb]; exact h
  | _ => exact h

theorem ontoA_mono (hl : ∀ b k, lk b = some k → lk' b = some k) {id sz : Nat} {s : AV} {n : Nat} {cells : List AV} {rd : List Nat} {e : Eff} (h : ontoA lk id sz s n cells rd = some e) : ontoA lk' id sz s n cells rd = some e := by
  unfold ontoA at h ⊢
  by_cases h0 : n = 0
  · rw [if_pos h0] at h ⊢; exact h
  · rw [if_neg h0] at h ⊢
    cases s with
    | sl b off len ver sz' =>
      simp only [] at h ⊢
      cases hb : lk b with
      | none => simp only [hb] at h; cases h
      | some k => simp only [hb] at h; simp only [hl b k hb]; exact h
    | _ => exact h

theorem appendA_mono (hl : ∀ b k, lk b = some k → lk' b = some k) {id : Nat} {ts : List TypeId} {args : List AV} {e : Eff} (h : appendA E lk id ts args = some e) : appendA E lk' id ts args = some e := by
  obtain ⟨t, u, s, x, rfl, rfl⟩ : ∃ t u s x, ts = [t, u] ∧ args = [s, x] := by
    unfold appendA at h
    split at h
    · exact ⟨_, _, _, _, rfl, rfl⟩
    · cases h
  unfold appendA at h ⊢
  simp only [] at h ⊢
  split at h
  · split at h
    · cases h
    · split at h
      · cases h
      · split at h
        · rename_i hc
          rw [if_pos hc]
          split at h <;> rename_i hd <;> (try simp only [hd])
          · split at h
            · rename_i h2; rw [if_pos h2]; exact ontoA_mono hl h
            · cases h
          · split at h
            · rename_i hs
              simp only [srcA_mono hl hs]
              split at h
              · rename_i h2; rw [if_pos h2]; exact ontoA_mono hl h
              · cases h
            · cases h
          · split at h
            · rename_i hs
              simp only [srcA_mono hl hs]
              split at h
              · rename_i h2; rw [if_pos h2]; exact ontoA_mono hl h
              · cases h
            · cases h
          · cases h
        · cases h
  · cases h

theorem copyA_mono (hl : ∀ b k, lk b = some k → lk' b = some k) {ts : List TypeId} {args : List AV} {e : Eff} (h : copyA E lk ts args = some e) : copyA E lk' ts args = some e := by
  obtain ⟨t, tr, d, x, rfl, rfl⟩ : ∃ t tr d x, ts = t :: tr ∧ args = [d, x] := by
    unfold copyA at h
    split at h
    · exact ⟨_, _, _, _, rfl, rfl⟩
    · cases h
  unfold copyA at h ⊢
  simp only [] at h ⊢
  split at h
  · split at h
    · cases h
    · rename_i j hj
      cases hs : srcA lk j.size x with
      | none => rw [hs] at h; cases d <;> cases h
      | some r =>
        rw [hs] at h
        rw [srcA_mono hl hs]
        obtain ⟨n, cells, rd⟩ := r
        cases d with
        | sl b off len ver sz =>
          simp only [] at h ⊢
          cases hb : lk b with
          | none => simp only [hb] at h; cases h
          | some k => simp only [hb] at h; simp only [hl b k hb]; exact h
        | _ => exact h
  · cases h

theorem clearA_mono (hl : ∀ b k, lk b = some k → lk' b = some k) {ts : List TypeId} {args : List AV} {e : Eff} (h : clearA E lk ts args = some e) : clearA E lk' ts args = some e := by
  unfold clearA at h ⊢
  split at h
  · rename_i t b off len ver sz
    split at h
    · split at h
      · cases h
      · split at h
        · cases h
        · split at h
          · cases h
          · rename_i k hk
            rw [hl b k hk]
            exact h
    · cases h
  · cases h

theorem effA_mono (hl : ∀ b k, lk b = some k → lk' b = some k) {id : Nat} {op : Op} {e : Eff} (h : effA E sl lk id op = some e) : effA E sl lk' id op = some e := by
  cases op
  case load t a =>
    simp only [effA] at h ⊢
    cases hp : opdA sl a with
    | none => rw [hp] at h; cases h
    | some p => rw [hp] at h; exact readA_mono hl h
  case store t a x =>
    simp only [effA] at h ⊢
    cases hp : opdA sl a with
    | none => rw [hp] at h; cases h
    | some p =>
      cases hx : opdA sl x with
      | none => rw [hp, hx] at h; cases h
      | some v => rw [hp, hx] at h; exact storeA_mono hl h
  case makeFunc fn first cap => cases fn <;> exact h
  case call c =>
    obtain ⟨callee, args, tys⟩ := c
    cases callee with
    | builtin b =>
      simp only [effA] at h ⊢
      cases hp : opdsA sl args.toList with
      | none => rw [hp] at h; cases h
      | some l =>
        rw [hp] at h
        cases b <;> simp only [builtinA] at h ⊢ <;> first
          | exact h
          | exact appendA_mono hl h
          | exact copyA_mono hl h
          | exact clearA_mono hl h
    | _ => exact h
  all_goals exact h

theorem seeA_le (need : List Nat) : ∀ b k, seeA need lk b = some k → lk b = some k := by
  intro b k h
  unfold seeA at h
  split at h
  · exact h
  · cases h
end
end Go.Proofs.YteaifkpmfbgekaaGreatDoor.M

namespace Go.Proofs.YteaifkpmfbgekaaGreatDoor.M
open Go

def stoOf (st : List Blk) : Sto := fun b => st[b]?

/-- A part of a store. -/
def Sub (T : Sto) (st : List Blk) : Prop := ∀ b k, T b = some k → st[b]? = some k

/-- What a call is worth. -/
structure CallOut (T : Sto) (μ : Mu) (w : World) (st : List Blk) (r : AV) (st' : List Blk) (low : Nat) (x : Value) (T' : Sto) (μ' : Mu) (w' : World) : Prop where
  sub : Sub T' st'
  inv : Inv T' μ' w'
  rel : Rel T' μ' w' r x
  evo : Evo T μ w T' μ' w'
  hole : ∀ b, b < st.length → T b = none → T' b = none
  kept : ∀ b, b < st.length → b < low → T' b = T b ∧ μ' b = μ b

structure SoundCall (P : Program) (call : CallR) : Prop where
  fn : ∀ f args st r st' low, call f args st = some (r, st', low) → ∃ fn, P.funcs[f]? = some fn ∧ fn.body.isNone = false ∧ (fn.name == "runtime.NumGoroutine") = false
  len : ∀ f args st r st' low, call f args st = some (r, st', low) → st.length ≤ st'.length ∧ ∀ b, b < st.length → b < low → st'[b]? = st[b]?
  calls : ∀ f args st r st' low, call f args st = some (r, st', low) → ∀ T μ w (xs : List Value), Sub T st → Inv T μ w → Rels T μ w args xs →
      Calls P f xs.toArray w fun e w' => ∃ x T' μ', e = .returned x ∧ CallOut T μ w st r st' low x T' μ' w'

structure StR (s : S) (T : Sto) (μ : Mu) (a : Act) (w : World) : Prop where
  sub : Sub T s.st
  inv : Inv T μ w
  sl : Rels T μ w s.sl a.tmps.toList
  defers : a.defers = []

/-- From one state to a later one, of stores alone. -/
structure TrS (s s' : S) : Prop where
  len : s.st.length ≤ s'.st.length
  low : s'.low ≤ s.low
  kept : ∀ b, b < s.st.length → b < s'.low → s'.st[b]? = s.st[b]?

theorem TrS.refl (s : S) : TrS s s := ⟨Nat.le_refl _, Nat.le_refl _, fun _ _ _ => rfl⟩
theorem TrS.trans {s s1 s2 : S} (h : TrS s s1) (h' : TrS s1 s2) : TrS s s2 :=
  ⟨Nat.le_trans h.len h'.len, Nat.le_trans h'.low h.low, fun b hb hl => (h'.kept b (Nat.lt_of_lt_of_le hb h.len) hl).trans (h.kept b hb (Nat.lt_of_lt_of_le hl h'.low))⟩

/-- From one state to a later one. -/
structure Tr (s : S) (T : Sto) (μ : Mu) (w : World) (s' : S) (T' : Sto) (μ' : Mu) (w' : World) : Prop where
  evo : Evo T μ w T' μ' w'
  hole : ∀ b, b < s.st.length → T b = none → T' b = none
  kept : ∀ b, b < s.st.length → b < s'.low → T' b = T b ∧ μ' b = μ b

theorem Tr.refl (s : S) (T : Sto) (μ : Mu) (w : World) : Tr s T μ w s T μ w := ⟨.refl _ _ _, fun _ _ h => h, fun _ _ _ => ⟨rfl, rfl⟩⟩
theorem Tr.trans {s T μ w s1 T1 μ1 w1 s2 T2 μ2 w2} (h : Tr s T μ w s1 T1 μ1 w1) (hs : TrS s s1) (hs' : TrS s1 s2) (h' : Tr s1 T1 μ1 w1 s2 T2 μ2 w2) : Tr s T μ w s2 T2 μ2 w2 where
  evo := h.evo.trans h'.evo
  hole b hb hn := h'.hole b (Nat.lt_of_lt_of_le hb hs.len) (h.hole b hb hn)
  kept b hb hl := by
    obtain ⟨h1, h2⟩ := h.kept b hb (Nat.lt_of_lt_of_le hl hs'.low)
    obtain ⟨h3, h4⟩ := h'.kept b (Nat.lt_of_lt_of_le hb hs.len) hl
    exact ⟨h3.trans h1, h4.trans h2⟩

section
variable {P : Program} {E : Env}

theorem stoOf_none {st : List Blk} {b : Nat} (h : st.length ≤ b) : stoOf st b = none := List.getElem?_eq_none h
theorem stoOf_some {st : List Blk} {b : Nat} {k : Blk} (h : stoOf st b = some k) : b < st.length := (List.getElem?_eq_some_iff.1 h).1

theorem apply_get (st : List Blk) (e : Eff) (b : Nat) (hw : ∀ b k, e.wr = some (b, k) → b < st.length) :
    (effApply st e)[b]? = effT (stoOf st) st.length e b := by
  unfold effApply effT stoOf
  cases hwr : e.wr with
  | none =>
    cases e.new with
    | none => rfl
    | some k =>
      simp only [upd]
      rw [List.getElem?_append]
      by_cases h1 : b < st.length
      · rw [if_pos h1, if_neg (Nat.ne_of_lt h1)]
      · rw [if_neg h1]
        by_cases h2 : b = st.length
        · subst h2; simp
        · rw [if_neg h2, List.getElem?_eq_none (l := st) (by omega)]
          exact List.getElem?_eq_none (show [k].length ≤ _ by show 1 ≤ _; omega)
  | some bk =>
    obtain ⟨b', k⟩ := bk
    have hlt := hw b' k hwr
    cases e.new with
    | none =>
      simp only [upd]
      rw [List.getElem?_set]
      by_cases h : b = b'
      · subst h; simp [hlt]
      · rw [if_neg (fun e => h e.symm), if_neg h]
    | some k' =>
      simp only [upd]
      rw [List.getElem?_append, List.length_set, List.getElem?_set]
      by_cases h1 : b < st.length
      · rw [if_pos h1, if_neg (Nat.ne_of_lt h1)]
        by_cases h : b = b'
        · subst h; simp [hlt]
        · rw [if_neg (fun e => h e.symm), if_neg h]
      · rw [if_neg h1]
        by_cases h2 : b = st.length
        · subst h2; simp
        · have hib : b ≠ b' := by omega
          rw [if_neg h2, if_neg hib, List.getElem?_eq_none (l := st) (by omega)]
          exact List.getElem?_eq_none (show [k'].length ≤ _ by show 1 ≤ _; omega)

theorem effT_sub {T : Sto} {st : List Blk} (h : Sub T st) (e : Eff) (hw : ∀ b k, e.wr = some (b, k) → b < st.length) : Sub (effT T st.length e) (effApply st e) := by
  intro b k hb
  rw [apply_get st e b hw]
  revert hb
  unfold effT
  have base : ∀ b k, T b = some k → stoOf st b = some k := h
  cases e.wr with
  | none =>
    cases e.new with
    | none => exact base b k
    | some k' =>
      simp only [upd]
      split
      · exact id
      · exact base b k
  | some bk =>
    cases e.new with
    | none =>
      simp only [upd]
      split
      · exact id
      · exact base b k
    | some k' =>
      simp only [upd]
      split
      · exact id
      · split
        · exact id
        · exact base b k

theorem effT_other {T : Sto} {id b : Nat} {e : Eff} (h1 : ∀ k, e.wr ≠ some (b, k)) (h2 : b ≠ id) : effT T id e b = T b := by
  unfold effT
  cases hwr : e.wr with
  | none =>
    cases e.new with
    | none => rfl
    | some k => exact upd_other _ _ h2
  | some bk =>
    obtain ⟨b', k⟩ := bk
    have hbb : b ≠ b' := fun e1 => h1 k (by rw [hwr, e1])
    cases e.new with
    | none => exact upd_other _ _ hbb
    | some k' => exact (upd_other (upd T b' k) k' h2).trans (upd_other _ _ hbb)

theorem apply_len (st : List Blk) (e : Eff) : (effApply st e).length = st.length + (if e.new.isSome then 1 else 0) := by
  unfold effApply
  cases e.wr <;> cases e.new <;> simp

theorem put_rel {T : Sto} {μ : Mu} {w : World} {sl : List AV} {a : Act} (h : Rels T μ w sl a.tmps.toList) (d : Option Tmp) {v : AV} {x : Value} (hv : Rel T μ w v x) : Rels T μ w (putA sl d v) (a.put d x).tmps.toList := by
  cases d with
  | none => exact h
  | some d => simpa [putA, Act.put] using h.set hv d

theorem put_defers (a : Act) (d : Option Tmp) (x : Value) : (a.put d x).defers = a.defers := by cases d <;> rfl

theorem undef_rel {T : Sto} {μ : Mu} {w : World} : Rel T μ w .undef undef := .tup rfl fun j hj => by simp at hj

theorem bool_back {T : Sto} {μ : Mu} {w : World} {v : AV} {b : Bool} (h : Rel T μ w v (.bool b)) : v = .bool b := by cases h; rfl

theorem wanted_eq {T : Sto} {μ : Mu} {w : World} {sl : List AV} {a : Act} (hs : Rels T μ w sl a.tmps.toList) (ops : Array Oper) (o : Oper) : Region.wanted o (yielded ops a.tmps) = wantedA ops sl o := by
  unfold Region.wanted wantedA
  cases o.guard with
  | none => rfl
  | some g =>
    obtain ⟨j, want⟩ := g
    simp only [yielded]
    cases ops[j]? with
    | none => rfl
    | some p =>
      simp only [Option.bind_some]
      cases p.dst with
      | none => rfl
      | some d =>
        simp only [Option.bind_some]
        cases hv : sl[d]? with
        | none =>
          have : a.tmps[d]? = none := by
            have hl := hs.1
            have := List.getElem?_eq_none_iff.1 hv
            simp at hl ⊢; omega
          rw [this]; rfl
        | some v =>
          obtain ⟨x, hx, hr⟩ := hs.get hv
          have hx' : a.tmps[d]? = some x := by simpa using hx
          rw [hx']
          cases v with
          | bool b => cases hr; rfl
          | _ =>
            cases x with
            | bool b => exact absurd (bool_back hr) (by simp)
            | _ => rfl

theorem lead_some {T : Sto} {μ : Mu} {w : World} {v : AV} {x : Value} (h : Rel T μ w v x) {b : Nat} (hb : b ∈ leadA (some v)) : ∃ k, T b = some k := by
  cases h with
  | ptr hk => simp [leadA] at hb; subst hb; exact ⟨_, hk⟩
  | sl hk => simp [leadA] at hb; subst hb; exact ⟨_, hk⟩
  | _ => simp [leadA] at hb

/-- The blocks that an operation may look into are there. -/
theorem need_some {T : Sto} {μ : Mu} {w : World} (hI : Inv T μ w) {sl : List AV} {a : Act} (hs : Rels T μ w sl a.tmps.toList) {op : Op} {b : Nat} (hb : b ∈ needA sl op) : ∃ k, T b = some k := by
  have one : ∀ x : Operand, b ∈ leadA (opdA sl x) → ∃ k, T b = some k := by
    intro x hx
    cases hv : opdA sl x with
    | none => rw [hv] at hx; simp [leadA] at hx
    | some v => rw [hv] at hx; exact lead_some (opd_sound hI hs hv) hx
  unfold needA at hb
  split at hb
  · exact one _ hb
  · exact one _ hb
  · obtain ⟨x, _, hx⟩ := List.mem_flatMap.1 hb; exact one x hx
  · obtain ⟨x, _, hx⟩ := List.mem_flatMap.1 hb; exact one x hx
  · obtain ⟨x, _, hx⟩ := List.mem_flatMap.1 hb; exact one x hx
  · simp at hb

/-- What a step of the evaluator is: an operation that is not wanted, a call, or an effect. -/
inductive StepIs (E : Env) (call : CallR) (ops : Array Oper) (o : Oper) (s s' : S) (f : Foot) : Prop
  | skip (hw : wantedA ops s.sl o = false) (hs : s' = ⟨putA s.sl o.dst .undef, s.st, s.low⟩) (hf : f = ⟨false, false, [], none, s.st.length, s.st.length⟩)
  | call {fop : Operand} {args : Array Operand} {tys : Array TypeId} {g : FuncId} {cap l : List AV} {r : AV} {st : List Blk} {low : Nat} (hw : wantedA ops s.sl o = true) (hop : o.op = .call ⟨.value fop, args, tys⟩)
      (hfn : opdA s.sl fop = some (.fn g cap)) (hl : opdsA s.sl args.toList = some l) (hc : call g (l ++ cap) s.st = some (r, st, low))
      (hs : s' = ⟨putA s.sl o.dst r, st, min s.low low⟩) (hf : f = ⟨true, decide (low < s.st.length), [], none, s.st.length, st.length⟩)
  | eff {e : Eff} (hw : wantedA ops s.sl o = true) (he : effA E s.sl (seeA (needA s.sl o.op) fun b => s.st[b]?) s.st.length o.op = some e)
      (hwr : ∀ b k, e.wr = some (b, k) → b < s.st.length ∧ b ∈ needA s.sl o.op)
      (hs : s' = ⟨putA s.sl o.dst e.res, effApply s.st e, match e.wr with | some (b, _) => min s.low b | none => s.low⟩)
      (hf : f = ⟨false, false, needA s.sl o.op, e.wr.map (·.1), s.st.length, (effApply s.st e).length⟩)

theorem stepA_is {call : CallR} {ops : Array Oper} {o : Oper} {s s' : S} {f : Foot} (h : stepA E call ops o s = some (s', f)) : StepIs E call ops o s s' f := by
  unfold stepA at h
  split at h
  · rename_i hw
    split at h
    · rename_i fop args tys hop
      split at h
      · rename_i g cap l hf hl
        split at h
        · rename_i r st low hc
          cases h
          exact .call hw hop hf hl hc rfl rfl
        · cases h
      · cases h
    · dsimp only at h
      split at h
      · rename_i e he
        split at h
        · rename_i hwr
          cases h
          refine .eff hw he (fun b k hk => ?_) rfl rfl
          unfold wrOk at hwr
          rw [hk] at hwr
          simpa using hwr
        · cases h
      · cases h
  · rename_i hw
    cases h
    exact .skip (by simpa using hw) rfl rfl

theorem StepIs.trs {call : CallR} (hcall : SoundCall P call) {ops : Array Oper} {o : Oper} {s s' : S} {f : Foot} (h : StepIs E call ops o s s' f) : TrS s s' := by
  cases h with
  | skip _ hs => subst hs; exact ⟨Nat.le_refl _, Nat.le_refl _, fun _ _ _ => rfl⟩
  | call _ _ _ _ hc hs =>
    subst hs
    obtain ⟨h1, h2⟩ := hcall.len _ _ _ _ _ _ hc
    exact ⟨h1, Nat.min_le_left _ _, fun b hb hl => h2 b hb (Nat.lt_of_lt_of_le hl (Nat.min_le_right _ _))⟩
  | @eff e _ _ hwr hs =>
    subst hs
    refine ⟨by rw [apply_len]; omega, ?_, fun b hb hl => ?_⟩
    · cases e.wr with
      | none => simp
      | some bk => exact Nat.min_le_left _ _
    · show (effApply s.st e)[b]? = s.st[b]?
      rw [apply_get s.st e b fun b k hk => (hwr b k hk).1]
      refine effT_other (T := stoOf s.st) (fun k hk => ?_) (by omega)
      simp only [hk] at hl
      omega

/-- A call, from whatever world. -/
theorem call_wp {call : CallR} (hcall : SoundCall P call) {o : Oper} {fop : Operand} {args : Array Operand} {tys : Array TypeId} {g : FuncId} {cap l : List AV} {r : AV} {st st' : List Blk} {low : Nat} {sl : List AV} (hop : o.op = .call ⟨.value fop, args, tys⟩)
    (hfn : opdA sl fop = some (.fn g cap)) (hl : opdsA sl args.toList = some l) (hc : call g (l ++ cap) st = some (r, st', low)) {T : Sto} {μ : Mu} {a : Act} {w : World} (hsub : Sub T st) (hI : Inv T μ w) (hs : Rels T μ w sl a.tmps.toList)
    {Q : Exit → Act → World → Prop} {K : Act → World → Prop} (hK : ∀ x T' μ' w', CallOut T μ w st r st' low x T' μ' w' → K (a.put o.dst x) w') : o.wp P a w K Q := by
  obtain ⟨fn, hfn', hbody, hname⟩ := hcall.fn _ _ _ _ _ _ hc
  have hfr := opd_sound hI hs hfn
  have hlr := opds_sound hI hs hl
  generalize hfe : a.eval fop = fv at hfr
  cases hfr with
  | @fn _ _ xs hxl hxr =>
    have hrels : Rels T μ w (l ++ cap) ((args.map a.eval).toList ++ xs.toList) := by
      refine Rels.append (by simpa using hlr) ⟨by simpa using hxl, fun j hj hx => ?_⟩
      have := hxr j hj (by simpa using hx)
      simpa using this
    have hC := hcall.calls _ _ _ _ _ _ hc T μ w _ hsub hI hrels
    have hexec : (execOp a.eval o).run P w = .ok (.enter g (args.map a.eval ++ xs)) w := by
      simp only [execOp, hop, resolve, hfe, Deferred.ofValue, Sem.run_bind, Sem.run_pure, Result.andThen_ok, invoke, callFunc, run_program, hfn', hname, Bool.false_eq_true, if_false, hbody]
      simp
    unfold Oper.wp
    rw [hexec, Oper.upon_enter]
    have e1 : ((args.map a.eval).toList ++ xs.toList).toArray = args.map a.eval ++ xs := by simp
    rw [e1] at hC
    refine hC.mono fun e w' hx => ?_
    obtain ⟨x, T', μ', rfl, out⟩ := hx
    exact hK x T' μ' w' out

/-- One operation. -/
theorem step_sound {call : CallR} (hcall : SoundCall P call) (hE : E.Types P) {ops : Array Oper} {i : Nat} {o : Oper} (hi : ops[i]? = some o) {s s' : S} {f : Foot} (h : stepA E call ops o s = some (s', f))
    {T : Sto} {μ : Mu} {a : Act} {w : World} (R : StR s T μ a w) {Q : Exit → Act → World → Prop} {K : Act → World → Prop} (hK : ∀ a' w' T' μ', StR s' T' μ' a' w' → Tr s T μ w s' T' μ' w' → K a' w') : wpOp P ops Q i K a w := by
  have hw := wanted_eq R.sl ops o
  unfold wpOp
  simp only [hi]
  cases stepA_is h with
  | skip hwf hs _ =>
    subst hs
    rw [hw, hwf]
    simp only [Bool.false_eq_true, if_false]
    exact hK _ _ T μ ⟨R.sub, R.inv, put_rel R.sl _ undef_rel, by rw [put_defers]; exact R.defers⟩ ⟨.refl _ _ _, fun _ _ h => h, fun _ _ _ => ⟨rfl, rfl⟩⟩
  | call hwt hop hfn hl hc hs _ =>
    subst hs
    rw [hw, hwt]
    simp only [if_true]
    refine .inl (call_wp hcall hop hfn hl hc R.sub R.inv R.sl fun x T' μ' w' out => ?_)
    exact hK _ _ T' μ' ⟨out.sub, out.inv, put_rel (R.sl.mono out.evo) _ out.rel, by rw [put_defers]; exact R.defers⟩
      ⟨out.evo, out.hole, fun b hb hlow => out.kept b hb (Nat.lt_of_lt_of_le hlow (Nat.min_le_right _ _))⟩
  | @eff e hwt he hwr hs _ =>
    subst hs
    rw [hw, hwt]
    simp only [if_true]
    refine .inl ?_
    have hTid : T s.st.length = none := by
      cases hT : T s.st.length with
      | none => rfl
      | some k => have := R.sub _ _ hT; rw [List.getElem?_eq_none (Nat.le_refl _)] at this; cases this
    have hμid : μ s.st.length = none := by
      cases hc : μ s.st.length with
      | none => rfl
      | some c => obtain ⟨k, hk, _⟩ := R.inv.blk _ _ hc; rw [hTid] at hk; cases hk
    have hsee : seeA (needA s.sl o.op) (fun b => s.st[b]?) = seeA (needA s.sl o.op) T := seeA_congr fun b hb => by
      obtain ⟨k, hk⟩ := need_some R.inv R.sl hb
      rw [hk]; exact R.sub b k hk
    rw [hsee] at he
    have he' : effA E s.sl T s.st.length o.op = some e := effA_mono (seeA_le _) he
    obtain ⟨x, w', μ', hrun, out⟩ := eff_sound R.inv hE R.sl hTid hμid he'
    have hwr1 : ∀ b k, e.wr = some (b, k) → b < s.st.length := fun b k hk => (hwr b k hk).1
    have hout : StR ⟨putA s.sl o.dst e.res, effApply s.st e, match e.wr with | some (b, _) => min s.low b | none => s.low⟩ (effT T s.st.length e) μ' (a.put o.dst x) w' :=
      ⟨effT_sub R.sub e hwr1, out.inv, put_rel (R.sl.mono out.evo) _ out.rel, by rw [put_defers]; exact R.defers⟩
    have htr : Tr s T μ w ⟨putA s.sl o.dst e.res, effApply s.st e, match e.wr with | some (b, _) => min s.low b | none => s.low⟩ (effT T s.st.length e) μ' w' := by
      refine ⟨out.evo, fun b hb hn => ?_, fun b hb hlow => ?_⟩
      · rw [effT_other (fun k hk => ?_) (by omega)]
        · exact hn
        · obtain ⟨k', hk'⟩ := need_some R.inv R.sl (hwr b k hk).2
          rw [hn] at hk'; cases hk'
      · have hne : ∀ k, e.wr ≠ some (b, k) := by
          intro k hk
          simp only [hk] at hlow
          omega
        exact ⟨effT_other hne (by omega), out.same b (by omega) hne⟩
    unfold Oper.wp
    rcases hrun with hrun | ⟨hrun, rfl⟩
    · rw [hrun, Oper.upon_value]; exact hK _ _ _ _ hout htr
    · rw [hrun, Oper.upon_skip]; exact hK _ _ _ _ hout htr

end
end Go.Proofs.YteaifkpmfbgekaaGreatDoor.M

namespace Go.Proofs.YteaifkpmfbgekaaGreatDoor.M
open Go
section
variable {P : Program} {E : Env}

def tch (f : Foot) (b : Nat) : Bool := f.wr == some b || f.wall || f.made b

theorem tch_iff {f : Foot} {b : Nat} : tch f b = true ↔ f.wr = some b ∨ f.wall = true ∨ f.made b = true := by
  unfold tch; simp [or_assoc]
theorem made_iff {f : Foot} {b : Nat} : f.made b = true ↔ f.lo ≤ b ∧ b < f.hi := by
  unfold Foot.made; simp

/-- What a foot says of a step. -/
structure FootOk (o : Oper) (s s' : S) (f : Foot) : Prop where
  lo : f.lo = s.st.length
  hi : f.hi = s'.st.length
  le : s.st.length ≤ s'.st.length
  wr : ∀ b, f.wr = some b → b < s.st.length
  same : ∀ b, tch f b = false → s'.st[b]? = s.st[b]?
  sl : ∃ r, s'.sl = putA s.sl o.dst r

theorem StepIs.foot {call : CallR} (hcall : SoundCall P call) {ops : Array Oper} {o : Oper} {s s' : S} {f : Foot} (h : StepIs E call ops o s s' f) : FootOk o s s' f := by
  have no : ∀ {b : Nat}, tch f b = false → f.wr ≠ some b ∧ f.wall = false ∧ ¬ (f.lo ≤ b ∧ b < f.hi) := by
    intro b hb
    have : ¬ (tch f b = true) := by simp [hb]
    rw [tch_iff, made_iff] at this
    refine ⟨fun e => this (.inl e), ?_, fun e => this (.inr (.inr e))⟩
    cases hw : f.wall
    · rfl
    · exact absurd (.inr (.inl hw)) this
  cases h with
  | skip _ hs hf => subst hs; subst hf; exact ⟨rfl, rfl, Nat.le_refl _, by simp, fun _ _ => rfl, _, rfl⟩
  | @call fop args tys g cap l r st low _ _ _ _ hc hs hf =>
    subst hs; subst hf
    obtain ⟨h1, h2⟩ := hcall.len _ _ _ _ _ _ hc
    refine ⟨rfl, rfl, h1, by simp, fun b hb => ?_, _, rfl⟩
    obtain ⟨_, n2, n3⟩ := no hb
    have n2' : s.st.length ≤ low := by simpa using n2
    by_cases hlt : b < s.st.length
    · exact h2 b hlt (by omega)
    · have : ¬ b < st.length := fun h => n3 ⟨by show s.st.length ≤ b; omega, h⟩
      show st[b]? = s.st[b]?
      rw [List.getElem?_eq_none (by omega), List.getElem?_eq_none (by omega)]
  | @eff e _ _ hwr hs hf =>
    subst hs; subst hf
    have hl := apply_len s.st e
    refine ⟨rfl, rfl, by show s.st.length ≤ (effApply s.st e).length; omega, fun b hb => ?_, fun b hb => ?_, _, rfl⟩
    · cases hw : e.wr with
      | none => simp [hw] at hb
      | some bk => obtain ⟨b', k⟩ := bk; simp [hw] at hb; subst hb; exact (hwr b' k hw).1
    · obtain ⟨n1, _, n3⟩ := no hb
      show (effApply s.st e)[b]? = s.st[b]?
      by_cases hlt : b < s.st.length
      · rw [apply_get s.st e b fun b k hk => (hwr b k hk).1]
        exact effT_other (T := stoOf s.st) (fun k hk => n1 (by simp [hk])) (by omega)
      · have : ¬ b < (effApply s.st e).length := fun h => n3 ⟨by show s.st.length ≤ b; omega, h⟩
        rw [List.getElem?_eq_none (by omega), List.getElem?_eq_none (by omega)]

/-! ### Clashes -/

theorem clash_iff {f g : Foot} : f.clash g = true ↔ (∃ b, f.wr = some b ∧ g.hits b = true) ∨ (∃ b, g.wr = some b ∧ (f.hits b = true ∨ f.made b = true)) ∨
    (f.wall = true ∧ g.touches = true) ∨ (g.wall = true ∧ f.touches = true) ∨ (f.all = true ∧ g.lo < g.hi) ∨ (∃ b ∈ g.rd, f.made b = true) ∨ (∃ b ∈ f.rd, g.made b = true) := by
  unfold Foot.clash
  cases hf : f.wr <;> cases hg : g.wr <;> simp [or_assoc]

theorem hits_iff {f : Foot} {b : Nat} : f.hits b = true ↔ f.all = true ∨ f.wall = true ∨ b ∈ f.rd ∨ f.wr = some b := by
  unfold Foot.hits; simp [or_assoc]
theorem touches_iff {f : Foot} : f.touches = true ↔ f.all = true ∨ f.wall = true ∨ f.rd ≠ [] ∨ (∃ b, f.wr = some b) ∨ f.lo < f.hi := by
  unfold Foot.touches; simp [or_assoc, Option.isSome_iff_exists]

theorem touches_tch {f : Foot} {b : Nat} (h : tch f b = true) : f.touches = true := by
  rw [touches_iff]
  rcases tch_iff.1 h with h | h | h
  · exact .inr (.inr (.inr (.inl ⟨b, h⟩)))
  · exact .inr (.inl h)
  · have := made_iff.1 h
    exact .inr (.inr (.inr (.inr (by omega))))
theorem touches_rd {f : Foot} {b : Nat} (h : b ∈ f.rd) : f.touches = true := by
  rw [touches_iff]
  exact .inr (.inr (.inl (fun e => by rw [e] at h; simp at h)))
theorem touches_all {f : Foot} (h : f.all = true) : f.touches = true := by
  rw [touches_iff]; exact .inl h

theorem clash_before {f g : Foot} {b : Nat} (h : tch f b = true) (hb : b ∈ g.rd) : f.clash g = true := by
  rw [clash_iff]
  rcases tch_iff.1 h with h | h | h
  · exact .inl ⟨b, h, hits_iff.2 (.inr (.inr (.inl hb)))⟩
  · exact .inr (.inr (.inl ⟨h, touches_rd hb⟩))
  · exact .inr (.inr (.inr (.inr (.inr (.inl ⟨b, hb, h⟩)))))
theorem clash_after {f g : Foot} {b : Nat} (hb : b ∈ f.rd) (h : tch g b = true) : f.clash g = true := by
  rw [clash_iff]
  rcases tch_iff.1 h with h | h | h
  · exact .inr (.inl ⟨b, h, .inl (hits_iff.2 (.inr (.inr (.inl hb))))⟩)
  · exact .inr (.inr (.inr (.inl ⟨h, touches_rd hb⟩)))
  · exact .inr (.inr (.inr (.inr (.inr (.inr ⟨b, hb, h⟩)))))
theorem clash_beforeAll {f g : Foot} {b : Nat} (h : tch f b = true) (hm : f.made b = false) (hb : g.all = true) : f.clash g = true := by
  rw [clash_iff]
  rcases tch_iff.1 h with h | h | h
  · exact .inl ⟨b, h, hits_iff.2 (.inl hb)⟩
  · exact .inr (.inr (.inl ⟨h, touches_all hb⟩))
  · rw [hm] at h; cases h
theorem clash_afterAll {f g : Foot} {b : Nat} (hb : f.all = true) (h : tch g b = true) : f.clash g = true := by
  rw [clash_iff]
  rcases tch_iff.1 h with h | h | h
  · exact .inr (.inl ⟨b, h, .inl (hits_iff.2 (.inl hb))⟩)
  · exact .inr (.inr (.inr (.inl ⟨h, touches_all hb⟩)))
  · have := made_iff.1 h
    exact .inr (.inr (.inr (.inr (.inl ⟨hb, by omega⟩))))
theorem clash_tch {f g : Foot} {b : Nat} (hf : tch f b = true) (hg : tch g b = true) (hlt : f.hi ≤ g.lo) (hle : f.lo ≤ f.hi) (hwf : ∀ b, f.wr = some b → b < f.lo) : f.clash g = true := by
  rw [clash_iff]
  rcases tch_iff.1 hf with h | h | h
  · rcases tch_iff.1 hg with h' | h' | h'
    · exact .inl ⟨b, h, hits_iff.2 (.inr (.inr (.inr h')))⟩
    · exact .inl ⟨b, h, hits_iff.2 (.inr (.inl h'))⟩
    · have := made_iff.1 h'
      have := hwf b h
      omega
  · exact .inr (.inr (.inl ⟨h, touches_tch hg⟩))
  · rcases tch_iff.1 hg with h' | h' | h'
    · exact .inr (.inl ⟨b, h', .inr h⟩)
    · exact .inr (.inr (.inr (.inl ⟨h', touches_tch hf⟩)))
    · have := made_iff.1 h'
      have := made_iff.1 h
      omega

/-! ### One order, in full -/

structure Trace (E : Env) (call : CallR) (ops : Array Oper) (N : Nat) (ix : Nat → Nat) (op : Nat → Oper) (st : Nat → S) (ft : Nat → Foot) (anc : Nat → List Nat) : Prop where
  size : N = ops.size
  get : ∀ p, p < N → ops[ix p]? = some (op p)
  is : ∀ p, p < N → StepIs E call ops (op p) (st p) (st (p + 1)) (ft p)
  inj : ∀ p q, p < N → q < N → ix p = ix q → p = q
  onto : ∀ i, i < ops.size → ∃ p, p < N ∧ ix p = i
  ancs : ∀ q, q < N → ∀ j ∈ anc q, ∃ e ∈ (op q).after, Region.binds .any e = true ∧ (j = e.on ∨ ∃ p, p < q ∧ ix p = e.on ∧ j ∈ anc p)
  early : ∀ q, q < N → ∀ e ∈ (op q).after, Region.binds .any e = true → ∃ p, p < q ∧ ix p = e.on
  names : ∀ p q, p < q → q < N → (op p).apart ops (op q) = true ∨ ix p ∈ anc q
  clash : ∀ p q, p < q → q < N → (ft p).clash (ft q) = true → ix p ∈ anc q

/-- The value that a step has put. -/
def resOf (s : S) (d : Option Tmp) : AV := match d with | some d => s.sl.getD d .undef | none => .undef

theorem put_resOf {X Y : List AV} {d : Option Tmp} {r : AV} {s : S} (hs : s.sl = putA Y d r) (hl : X.length = Y.length) : putA X d (resOf s d) = putA X d r := by
  cases d with
  | none => rfl
  | some d =>
    simp only [putA] at *
    by_cases h : d < Y.length
    · have : resOf s (some d) = r := by simp [resOf, hs, h]
      rw [this]
    · have h' : Y.length ≤ d := Nat.not_lt.1 h
      rw [List.set_eq_of_length_le (by rw [hl]; exact h'), List.set_eq_of_length_le (by rw [hl]; exact h')]

theorem putA_len (X : List AV) (d : Option Tmp) (r : AV) : (putA X d r).length = X.length := by cases d <;> simp [putA]

theorem putA_get {X Y : List AV} {t : Nat} (h : X[t]? = Y[t]?) (hl : X.length = Y.length) (d : Option Tmp) (r : AV) : (putA X d r)[t]? = (putA Y d r)[t]? := by
  cases d with
  | none => exact h
  | some d => simp only [putA, List.getElem?_set, hl, h]
theorem putA_other {X : List AV} {t : Nat} {d : Option Tmp} (h : d ≠ some t) (r : AV) : (putA X d r)[t]? = X[t]? := by
  cases d with
  | none => rfl
  | some d =>
    have : d ≠ t := fun e => h (by rw [e])
    simp only [putA, List.getElem?_set, if_neg this]
theorem putA_comm {X : List AV} {d e : Option Tmp} (r v : AV) (h : ∀ t, e = some t → d ≠ some t) : putA (putA X d r) e v = putA (putA X e v) d r := by
  cases d with
  | none => rfl
  | some d =>
    cases e with
    | none => rfl
    | some e =>
      have : d ≠ e := fun h' => h e rfl (by rw [h'])
      simp only [putA]
      exact List.set_comm _ _ this

/-- A block, after the listed ones of the first steps. -/
def bl (st : Nat → S) (ft : Nat → Foot) (ls : Nat → Bool) : Nat → Nat → Option Blk
  | 0, b => (st 0).st[b]?
  | p + 1, b => if ls p && tch (ft p) b then (st (p + 1)).st[b]? else bl st ft ls p b

/-- The slots, after the listed ones of the first steps. -/
def sa (st : Nat → S) (op : Nat → Oper) (ls : Nat → Bool) : Nat → List AV
  | 0 => (st 0).sl
  | p + 1 => if ls p then putA (sa st op ls p) (op p).dst (resOf (st (p + 1)) (op p).dst) else sa st op ls p

section
variable {N : Nat} {op : Nat → Oper} {st : Nat → S} {ft : Nat → Foot} (F : ∀ p, p < N → FootOk (op p) (st p) (st (p + 1)) (ft p))
include F

theorem tr_len : ∀ {p q : Nat}, p ≤ q → q ≤ N → (st p).st.length ≤ (st q).st.length := by
  intro p q hpq hq
  induction q with
  | zero => have : p = 0 := by omega
            subst this; exact Nat.le_refl _
  | succ q ih =>
    by_cases h : p = q + 1
    · subst h; exact Nat.le_refl _
    · exact Nat.le_trans (ih (by omega) (by omega)) (F q (by omega)).le

theorem tr_sl : ∀ {p : Nat}, p ≤ N → (st p).sl.length = (st 0).sl.length := by
  intro p hp
  induction p with
  | zero => rfl
  | succ p ih =>
    obtain ⟨r, hr⟩ := (F p (by omega)).sl
    rw [hr, putA_len, ih (by omega)]

theorem tr_put {p : Nat} (hp : p < N) : (st (p + 1)).sl = putA (st p).sl (op p).dst (resOf (st (p + 1)) (op p).dst) := by
  obtain ⟨r, hr⟩ := (F p hp).sl
  rw [put_resOf hr rfl]; exact hr

theorem sa_len {ls : Nat → Bool} : ∀ {p : Nat}, p ≤ N → (sa st op ls p).length = (st 0).sl.length := by
  intro p hp
  induction p with
  | zero => rfl
  | succ p ih =>
    simp only [sa]
    split
    · rw [putA_len, ih (by omega)]
    · exact ih (by omega)

theorem bl_all {ls : Nat → Bool} {b : Nat} : ∀ {q : Nat}, q ≤ N → (∀ p, p < q → tch (ft p) b = true → ls p = true) → bl st ft ls q b = (st q).st[b]? := by
  intro q
  induction q with
  | zero => intro _ _; rfl
  | succ q ih =>
    intro hq h
    simp only [bl]
    split
    · rfl
    · rename_i hn
      rw [ih (by omega) fun p hp => h p (by omega)]
      have : tch (ft q) b = false := by
        cases ht : tch (ft q) b
        · rfl
        · exact absurd (by rw [h q (by omega) ht, ht]; rfl) hn
      exact ((F q (by omega)).same b this).symm

theorem sa_get_all {ls : Nat → Bool} {t : Nat} : ∀ {q : Nat}, q ≤ N → (∀ p, p < q → (op p).dst = some t → ls p = true) → (sa st op ls q)[t]? = (st q).sl[t]? := by
  intro q
  induction q with
  | zero => intro _ _; rfl
  | succ q ih =>
    intro hq h
    have ih' := ih (by omega) fun p hp => h p (by omega)
    rw [tr_put F (show q < N by omega)]
    simp only [sa]
    split
    · exact putA_get ih' ((sa_len F (by omega)).trans (tr_sl F (by omega)).symm) _ _
    · rename_i hn
      rw [ih', putA_other fun e => hn (h q (by omega) e)]

theorem sa_eq {ls : Nat → Bool} : ∀ {q : Nat}, q ≤ N → (∀ p, p < q → ls p = true) → sa st op ls q = (st q).sl := by
  intro q
  induction q with
  | zero => intro _ _; rfl
  | succ q ih =>
    intro hq h
    rw [tr_put F (show q < N by omega)]
    simp only [sa, h q (by omega), if_true]
    rw [ih (by omega) fun p hp => h p (by omega)]

theorem bl_lt {ls : Nat → Bool} {b : Nat} {k : Blk} : ∀ {p : Nat}, p ≤ N → bl st ft ls p b = some k → b < (st N).st.length := by
  intro p
  induction p with
  | zero => intro hp h; exact Nat.lt_of_lt_of_le (List.getElem?_eq_some_iff.1 h).1 (tr_len F hp (Nat.le_refl _))
  | succ p ih =>
    intro hp h
    simp only [bl] at h
    split at h
    · exact Nat.lt_of_lt_of_le (List.getElem?_eq_some_iff.1 h).1 (tr_len F hp (Nat.le_refl _))
    · exact ih (by omega) h

/-- What an operation makes is not there before it is listed. -/
theorem bl_none {ls : Nat → Bool} {b q : Nat} (hq : q < N) (hun : ls q = false) (hm : (ft q).lo ≤ b) (ha : ∀ i, q < i → i < N → ls i = true → tch (ft i) b = false) : ∀ {p : Nat}, p ≤ N → bl st ft ls p b = none := by
  intro p
  have hlo := (F q hq).lo
  induction p with
  | zero =>
    intro hp
    have := tr_len F (Nat.zero_le q) (Nat.le_of_lt hq)
    exact List.getElem?_eq_none (by omega)
  | succ p ih =>
    intro hp
    simp only [bl]
    split
    · rename_i h
      simp only [Bool.and_eq_true] at h
      by_cases hpq : p < q
      · have := tr_len F (show p + 1 ≤ q from hpq) (Nat.le_of_lt hq)
        exact List.getElem?_eq_none (by omega)
      · by_cases he : p = q
        · subst he; rw [hun] at h; cases h.1
        · have := ha p (by omega) (by omega) h.1
          rw [this] at h; cases h.2
    · exact ih (by omega)
end

theorem bl_after {st : Nat → S} {ft : Nat → Foot} {ls : Nat → Bool} {b q : Nat} : ∀ {p : Nat}, q ≤ p → (∀ i, q ≤ i → i < p → ls i = true → tch (ft i) b = false) → bl st ft ls p b = bl st ft ls q b := by
  intro p
  induction p with
  | zero => intro hp _; have : q = 0 := by omega
            subst this; rfl
  | succ p ih =>
    intro hp h
    by_cases he : q = p + 1
    · subst he; rfl
    · simp only [bl]
      rw [if_neg, ih (by omega) fun i h1 h2 => h i h1 (by omega)]
      intro hc
      simp only [Bool.and_eq_true] at hc
      have := h p (by omega) (by omega) hc.1
      rw [this] at hc; cases hc.2

theorem bl_congr {st : Nat → S} {ft : Nat → Foot} {ls ls' : Nat → Bool} {b : Nat} : ∀ {p : Nat}, (∀ i, i < p → tch (ft i) b = true → ls' i = ls i) → bl st ft ls' p b = bl st ft ls p b := by
  intro p
  induction p with
  | zero => intro _; rfl
  | succ p ih =>
    intro h
    simp only [bl]
    rw [ih fun i hi => h i (by omega)]
    cases ht : tch (ft p) b
    · simp
    · rw [h p (by omega) ht]

theorem sa_get_after {st : Nat → S} {op : Nat → Oper} {ls : Nat → Bool} {t q : Nat} : ∀ {p : Nat}, q ≤ p → (∀ i, q ≤ i → i < p → ls i = true → (op i).dst ≠ some t) → (sa st op ls p)[t]? = (sa st op ls q)[t]? := by
  intro p
  induction p with
  | zero => intro hp _; have : q = 0 := by omega
            subst this; rfl
  | succ p ih =>
    intro hp h
    by_cases he : q = p + 1
    · subst he; rfl
    · have ih' := ih (by omega) fun i h1 h2 => h i h1 (by omega)
      simp only [sa]
      split
      · rename_i hl
        rw [putA_other (h p (by omega) (by omega) hl), ih']
      · exact ih'

theorem sa_congr {st : Nat → S} {op : Nat → Oper} {ls ls' : Nat → Bool} : ∀ {p : Nat}, (∀ i, i < p → ls' i = ls i) → sa st op ls' p = sa st op ls p := by
  intro p
  induction p with
  | zero => intro _; rfl
  | succ p ih =>
    intro h
    simp only [sa]
    rw [ih fun i hi => h i (by omega), h p (by omega)]

theorem sa_add {st : Nat → S} {op : Nat → Oper} {ls ls' : Nat → Bool} {q : Nat} (hq : ls q = false) (hq' : ls' q = true) : ∀ {p : Nat}, q < p → (∀ i, i < p → i ≠ q → ls' i = ls i) →
    (∀ i, q < i → i < p → ls i = true → ∀ d, (op i).dst = some d → (op q).dst ≠ some d) → sa st op ls' p = putA (sa st op ls p) (op q).dst (resOf (st (q + 1)) (op q).dst) := by
  intro p
  induction p with
  | zero => intro hp; omega
  | succ p ih =>
    intro hp he h
    by_cases hpq : p = q
    · subst hpq
      simp only [sa, hq, hq', if_true, Bool.false_eq_true, if_false]
      rw [sa_congr fun i hi => he i (by omega) (by omega)]
    · have ih' := ih (by omega) (fun i h1 h2 => he i (by omega) h2) fun i h1 h2 => h i h1 (by omega)
      simp only [sa, he p (by omega) hpq]
      split
      · rename_i hl
        rw [ih', putA_comm _ _ (h p (by omega) (by omega) hl)]
      · exact ih'

/-! ### Any order -/

def lis (ix : Nat → Nat) (listed : Array Bool) (p : Nat) : Bool := listed.getD (ix p) false

structure Good (ops : Array Oper) (N : Nat) (ix : Nat → Nat) (op : Nat → Oper) (st : Nat → S) (ft : Nat → Foot) (anc : Nat → List Nat) (T0 : Sto) (μ0 : Mu) (w0 : World)
    (listed : Array Bool) (T : Sto) (μ : Mu) (a : Act) (w : World) : Prop where
  size : listed.size = ops.size
  closed : ∀ q, q < N → lis ix listed q = true → ∀ j ∈ anc q, listed.getD j false = true
  inv : Inv T μ w
  defers : a.defers = []
  sl : Rels T μ w (sa st op (lis ix listed) N) a.tmps.toList
  sub : ∀ b k, T b = some k → bl st ft (lis ix listed) N b = some k
  tr : Tr (st 0) T0 μ0 w0 (st N) T μ w

section
variable {call : CallR} {ops : Array Oper} {N : Nat} {ix : Nat → Nat} {op : Nat → Oper} {st : Nat → S} {ft : Nat → Foot} {anc : Nat → List Nat} {T0 : Sto} {μ0 : Mu} {w0 : World}

theorem Trace.foot (hcall : SoundCall P call) (tr : Trace E call ops N ix op st ft anc) : ∀ p, p < N → FootOk (op p) (st p) (st (p + 1)) (ft p) := fun p hp => (tr.is p hp).foot hcall

theorem Trace.trs (hcall : SoundCall P call) (tr : Trace E call ops N ix op st ft anc) : ∀ {p q : Nat}, p ≤ q → q ≤ N → TrS (st p) (st q) := by
  intro p q hpq hq
  induction q with
  | zero => have : p = 0 := by omega
            subst this; exact .refl _
  | succ q ih =>
    by_cases h : p = q + 1
    · subst h; exact .refl _
    · exact (ih (by omega) (by omega)).trans ((tr.is q (by omega)).trs hcall)

theorem clash_of_tch (hcall : SoundCall P call) (tr : Trace E call ops N ix op st ft anc) {p q b : Nat} (hpq : p < q) (hq : q < N) (hp : tch (ft p) b = true) (hb : tch (ft q) b = true) : (ft p).clash (ft q) = true := by
  have F := tr.foot hcall
  have fp := F p (by omega)
  have fq := F q hq
  have hl := tr_len F (show p + 1 ≤ q by omega) (Nat.le_of_lt hq)
  have := fp.le
  exact clash_tch hp hb (by rw [fp.hi, fq.lo]; exact hl) (by rw [fp.lo, fp.hi]; exact this) fun b hb => by rw [fp.lo]; exact fp.wr b hb

theorem step_any (hcall : SoundCall P call) (hE : E.Types P) (tr : Trace E call ops N ix op st ft anc) {q : Nat} (hq : q < N) {listed : Array Bool} {T : Sto} {μ : Mu} {a : Act} {w : World}
    (G : Good ops N ix op st ft anc T0 μ0 w0 listed T μ a w) (hun : lis ix listed q = false) (hanc : ∀ j ∈ anc q, listed.getD j false = true) {Q : Exit → Act → World → Prop} {K : Act → World → Prop}
    (hK : ∀ a' w' T' μ', Good ops N ix op st ft anc T0 μ0 w0 (listed.setIfInBounds (ix q) true) T' μ' a' w' → K a' w') : wpOp P ops Q (ix q) K a w := by
  have F := tr.foot hcall
  have hi := tr.get q hq
  have hlt : ix q < ops.size := (Array.getElem?_eq_some_iff.1 hi).1
  -- an operation that is not listed has none behind it that is
  have hbehind : ∀ p i, p < i → i < N → lis ix listed p = false → lis ix listed i = true → ix p ∉ anc i := by
    intro p i hpi hi hp hl hm
    have := G.closed i hi hl _ hm
    unfold lis at hp
    rw [hp] at this; cases this
  have hnoclash : ∀ p i, p < i → i < N → lis ix listed p = false → lis ix listed i = true → (ft p).clash (ft i) = false := by
    intro p i hpi hi hp hl
    cases hc : (ft p).clash (ft i)
    · rfl
    · exact absurd (tr.clash p i hpi hi hc) (hbehind p i hpi hi hp hl)
  have hbefore : ∀ p, p < q → (ft p).clash (ft q) = true → lis ix listed p = true := fun p hp hc => hanc _ (tr.clash p q hp hq hc)
  have hset : ∀ i, i < N → i ≠ q → lis ix (listed.setIfInBounds (ix q) true) i = lis ix listed i := by
    intro i hi hne
    unfold lis
    exact getD_set_ne false fun e => hne (tr.inj q i hq hi e).symm
  have hsetq : lis ix (listed.setIfInBounds (ix q) true) q = true := by
    unfold lis
    simp [G.size, hlt]
  -- the slots
  have hlook : ∀ t ∈ (op q).looksAt ops, (sa st op (lis ix listed) N)[t]? = (st q).sl[t]? := by
    intro t ht
    rw [sa_get_after (q := q) (Nat.le_of_lt hq), sa_get_all F (Nat.le_of_lt hq)]
    · intro p hp hd
      rcases tr.names p q hp hq with h | h
      · exact absurd ht ((Oper.apart_spec h).1 t hd)
      · exact hanc _ h
    · intro i hqi hi hl hd
      by_cases he : i = q
      · subst he; rw [hun] at hl; cases hl
      · rcases tr.names q i (by omega) hi with h | h
        · exact (Oper.apart_spec h).2.2 t hd ht
        · exact hbehind q i (by omega) hi hun hl h
  have hput : sa st op (lis ix (listed.setIfInBounds (ix q) true)) N = putA (sa st op (lis ix listed) N) (op q).dst (resOf (st (q + 1)) (op q).dst) :=
    sa_add hun hsetq hq (fun i hi hne => hset i hi hne) fun i hqi hi hl d hd hd' => by
      rcases tr.names q i hqi hi with h | h
      · exact (Oper.apart_spec h).2.1 d hd' hd
      · exact hbehind q i hqi hi hun hl h
  have hopd : ∀ x ∈ (op q).op.operands, ∀ t, x = .tmp t → (sa st op (lis ix listed) N)[t]? = (st q).sl[t]? := by
    intro x hx t ht
    subst ht
    exact hlook t (List.mem_append_left _ (List.mem_filterMap.2 ⟨.tmp t, by simpa using hx, rfl⟩))
  have hwanted : wantedA ops (sa st op (lis ix listed) N) (op q) = wantedA ops (st q).sl (op q) := by
    unfold wantedA
    cases hg : (op q).guard with
    | none => rfl
    | some g =>
      obtain ⟨j, want⟩ := g
      dsimp only
      cases hj : ops[j]? with
      | none => rfl
      | some o =>
        dsimp only
        cases hd : o.dst with
        | none => rfl
        | some d =>
          dsimp only
          rw [hlook d (List.mem_append_right _ (by simp [hg, hj, hd]))]
  -- the blocks
  have hD : ∀ b, tch (ft q) b = true → bl st ft (lis ix (listed.setIfInBounds (ix q) true)) N b = (st (q + 1)).st[b]? := by
    intro b hb
    rw [bl_after (q := q + 1) hq]
    · simp only [bl, hsetq, hb, Bool.and_self, if_true]
    · intro i hqi hi hl
      rw [hset i hi (by omega)] at hl
      cases ht : tch (ft i) b
      · rfl
      · exact absurd (clash_of_tch hcall tr (show q < i by omega) hi hb ht) (by rw [hnoclash q i (by omega) hi hun hl]; simp)
  have hD' : ∀ b, tch (ft q) b = false → bl st ft (lis ix (listed.setIfInBounds (ix q) true)) N b = bl st ft (lis ix listed) N b := fun b hb => bl_congr fun i hi ht => hset i hi fun e => by
    subst e; rw [hb] at ht; cases ht
  have hmade : ∀ p b, p < N → lis ix listed p = false → (ft p).made b = true → bl st ft (lis ix listed) N b = none := by
    intro p b hp hl hm
    refine bl_none F hp hl (made_iff.1 hm).1 (fun i h1 h2 h3 => ?_) (Nat.le_refl _)
    cases ht : tch (ft i) b
    · rfl
    · exact absurd (clash_of_tch hcall tr h1 h2 (tch_iff.2 (.inr (.inr hm))) ht) (by rw [hnoclash p i h1 h2 hl h3]; simp)
  have hμ : ∀ b, T b = none → μ b = none := by
    intro b hb
    cases hc : μ b with
    | none => rfl
    | some c => obtain ⟨k, hk, _⟩ := G.inv.blk b c hc; rw [hb] at hk; cases hk
  have hTnone : ∀ b, bl st ft (lis ix listed) N b = none → T b = none := by
    intro b hb
    cases hT : T b with
    | none => rfl
    | some k => rw [G.sub b k hT] at hb; cases hb
  have t1 := tr.trs hcall (Nat.zero_le q) (Nat.le_of_lt hq)
  have t2 := tr.trs hcall (show q + 1 ≤ N from hq) (Nat.le_refl _)
  -- what is left to show of each kind of step
  have fin : ∀ a' w' T' μ' r, Inv T' μ' w' → a'.defers = [] → (st (q + 1)).sl = putA (st q).sl (op q).dst r → Rels T' μ' w' (putA (sa st op (lis ix listed) N) (op q).dst r) a'.tmps.toList →
      (∀ b k, T' b = some k → (tch (ft q) b = true ∧ (st (q + 1)).st[b]? = some k) ∨ (tch (ft q) b = false ∧ T b = some k)) →
      Evo T μ w T' μ' w' → (∀ b, b < (st q).st.length → T b = none → T' b = none) → (∀ b, b < (st q).st.length → b < (st (q + 1)).low → T' b = T b ∧ μ' b = μ b) → K a' w' := by
    intro a' w' T' μ' r h1 h2 h3 h4 h5 h6 h7 h8
    refine hK a' w' T' μ' ⟨by simpa using G.size, fun p hp hl j hj => ?_, h1, h2, ?_, fun b k hk => ?_, ?_⟩
    · by_cases he : p = q
      · subst he; exact getD_set_true (hanc j hj)
      · rw [hset p hp he] at hl
        exact getD_set_true (G.closed p hp hl j hj)
    · rw [hput, put_resOf h3 ((sa_len F (Nat.le_refl _)).trans (tr_sl F (Nat.le_of_lt hq)).symm)]
      exact h4
    · rcases h5 b k hk with ⟨ht, hb⟩ | ⟨ht, hb⟩
      · rw [hD b ht]; exact hb
      · rw [hD' b ht]; exact G.sub b k hb
    · refine ⟨G.tr.evo.trans h6, fun b hb hn => h7 b (Nat.lt_of_lt_of_le hb t1.len) (G.tr.hole b hb hn), fun b hb hl => ?_⟩
      obtain ⟨e1, e2⟩ := G.tr.kept b hb hl
      obtain ⟨e3, e4⟩ := h8 b (Nat.lt_of_lt_of_le hb t1.len) (Nat.lt_of_lt_of_le hl t2.low)
      exact ⟨e3.trans e1, e4.trans e2⟩
  have hw := wanted_eq G.sl ops (op q)
  rw [hwanted] at hw
  unfold wpOp
  simp only [hi]
  cases tr.is q hq with
  | skip hwf hs hf =>
    rw [hw, hwf]
    simp only [Bool.false_eq_true, if_false]
    refine fin _ _ T μ .undef G.inv (by rw [put_defers]; exact G.defers) (by rw [hs]) (put_rel G.sl _ undef_rel) (fun b k hk => .inr ⟨?_, hk⟩) (.refl _ _ _) (fun _ _ h => h) fun _ _ _ => ⟨rfl, rfl⟩
    cases ht : tch (ft q) b
    · rfl
    · rw [tch_iff, made_iff, hf] at ht
      rcases ht with ht | ht | ht
      · cases ht
      · cases ht
      · exact absurd (Nat.lt_of_le_of_lt ht.1 ht.2) (Nat.lt_irrefl _)
  | @call fop args tys g cap l r st' low hwt hop hfn hl hc hs hf =>
    rw [hw, hwt]
    simp only [if_true]
    have hall : (ft q).all = true := by rw [hf]
    have hsub : Sub T (st q).st := by
      intro b k hk
      have hb := G.sub b k hk
      by_cases hx : ∃ p, p < q ∧ lis ix listed p = false ∧ (ft p).made b = true
      · obtain ⟨p, h1, h2, h3⟩ := hx
        rw [hmade p b (by omega) h2 h3] at hb; cases hb
      · rw [bl_after (q := q) (Nat.le_of_lt hq), bl_all F (Nat.le_of_lt hq)] at hb
        · exact hb
        · intro p hp ht
          cases hl : lis ix listed p
          · have hm : (ft p).made b = false := by
              cases hm : (ft p).made b
              · rfl
              · exact absurd ⟨p, hp, hl, hm⟩ hx
            have := hbefore p hp (clash_beforeAll ht hm hall)
            rw [hl] at this; cases this
          · rfl
        · intro i hqi hi hli
          by_cases he : i = q
          · subst he; rw [hun] at hli; cases hli
          · cases ht : tch (ft i) b
            · rfl
            · exact absurd (clash_afterAll hall ht) (by rw [hnoclash q i (by omega) hi hun hli]; simp)
    have hopf : opdA (sa st op (lis ix listed) N) fop = some (.fn g cap) := by
      rw [opdA_congr fun t ht => hopd fop (by simp [hop, Op.operands, Call.operands]) t ht]; exact hfn
    have hopl : opdsA (sa st op (lis ix listed) N) args.toList = some l := by
      rw [opdsA_congr fun x hx t ht => hopd x (by simp [hop, Op.operands, Call.operands]; exact .inr (by simpa using hx)) t ht]; exact hl
    refine .inl (call_wp hcall hop hopf hopl hc hsub G.inv G.sl fun x T' μ' w' out => ?_)
    refine fin _ _ T' μ' r out.inv (by rw [put_defers]; exact G.defers) (by rw [hs]) (put_rel (G.sl.mono out.evo) _ out.rel) (fun b k hk => ?_) out.evo out.hole (fun b hb hlow => ?_)
    · have hk' := out.sub b k hk
      cases ht : tch (ft q) b
      · refine .inr ⟨rfl, ?_⟩
        have hno : ¬ (tch (ft q) b = true) := by simp [ht]
        rw [tch_iff, made_iff, hf] at hno
        have hbl : b < st'.length := (List.getElem?_eq_some_iff.1 hk').1
        have hblq : b < (st q).st.length := by
          by_cases h : b < (st q).st.length
          · exact h
          · exact absurd (.inr (.inr ⟨by show (st q).st.length ≤ b; omega, hbl⟩)) hno
        have hlow : ¬ low < (st q).st.length := fun h => hno (.inr (.inl (by simpa using h)))
        rw [← (out.kept b hblq (by omega)).1]; exact hk
      · refine .inl ⟨rfl, ?_⟩
        rw [hs]; exact hk'
    · rw [hs] at hlow
      exact out.kept b hb (Nat.lt_of_lt_of_le hlow (Nat.min_le_right _ _))
  | @eff e hwt he hwr hs hf =>
    rw [hw, hwt]
    simp only [if_true]
    refine .inl ?_
    have hrd : (ft q).rd = needA (st q).sl (op q).op := by rw [hf]
    have hneed : needA (sa st op (lis ix listed) N) (op q).op = needA (st q).sl (op q).op := needA_congr hopd
    have hcont : ∀ b ∈ needA (st q).sl (op q).op, T b = (st q).st[b]? := by
      intro b hb
      obtain ⟨k, hk⟩ := need_some G.inv G.sl (op := (op q).op) (b := b) (by rw [hneed]; exact hb)
      rw [hk, ← G.sub b k hk, bl_after (q := q) (Nat.le_of_lt hq), bl_all F (Nat.le_of_lt hq)]
      · intro p hp ht
        exact hbefore p hp (clash_before ht (by rw [hrd]; exact hb))
      · intro i hqi hi hl
        by_cases he : i = q
        · subst he; rw [hun] at hl; cases hl
        · cases ht : tch (ft i) b
          · rfl
          · exact absurd (clash_after (f := ft q) (by rw [hrd]; exact hb) ht) (by rw [hnoclash q i (by omega) hi hun hl]; simp)
    have hsee : seeA (needA (st q).sl (op q).op) (fun b => (st q).st[b]?) = seeA (needA (st q).sl (op q).op) T := seeA_congr fun b hb => (hcont b hb).symm
    rw [hsee] at he
    have he1 : effA E (sa st op (lis ix listed) N) T (st q).st.length (op q).op = some e := by
      rw [effA_congr hopd]; exact effA_mono (seeA_le _) he
    obtain ⟨id, hid, hTid, he', hnew⟩ : ∃ id, (st q).st.length ≤ id ∧ T id = none ∧ effA E (sa st op (lis ix listed) N) T id (op q).op = some e ∧ (∀ k, e.new = some k → id = (st q).st.length) := by
      cases hn : e.new with
      | none =>
        refine ⟨(st N).st.length, tr_len F (Nat.le_of_lt hq) (Nat.le_refl _), ?_, effA_id he1 hn _, fun k hk => by cases hk⟩
        cases hT : T (st N).st.length with
        | none => rfl
        | some k => exact absurd (bl_lt F (Nat.le_refl _) (G.sub _ k hT)) (Nat.lt_irrefl _)
      | some k =>
        refine ⟨(st q).st.length, Nat.le_refl _, hTnone _ (hmade q _ hq hun (made_iff.2 ?_)), he1, fun _ _ => rfl⟩
        rw [hf]
        refine ⟨Nat.le_refl _, ?_⟩
        show (st q).st.length < (effApply (st q).st e).length
        rw [apply_len, hn]; simp
    obtain ⟨x, w', μ', hrun, out⟩ := eff_sound G.inv hE G.sl hTid (hμ id hTid) he'
    have hwr1 : ∀ b k, e.wr = some (b, k) → b < (st q).st.length := fun b k hk => (hwr b k hk).1
    have done : K ((a.put (op q).dst x)) w' := by
      refine fin _ _ (effT T id e) μ' e.res out.inv (by rw [put_defers]; exact G.defers) (by rw [hs]) (put_rel (G.sl.mono out.evo) _ out.rel) (fun b k hk => ?_) out.evo (fun b hb hn => ?_) (fun b hb hlow => ?_)
      · cases ht : tch (ft q) b
        · have hno : ¬ (tch (ft q) b = true) := by simp [ht]
          rw [tch_iff, made_iff, hf] at hno
          refine .inr ⟨rfl, ?_⟩
          have h1 : ∀ k, e.wr ≠ some (b, k) := fun k hk => hno (.inl (by simp [hk]))
          by_cases hb : b = id
          · subst hb
            cases hn : e.new with
            | none =>
              have : effT T b e b = T b := by
                unfold effT
                rw [hn]
                cases hwr' : e.wr with
                | none => rfl
                | some bk =>
                  obtain ⟨b', k'⟩ := bk
                  exact upd_other _ _ fun e => h1 k' (by rw [hwr', e])
              rw [← this]; exact hk
            | some k' =>
              have := hnew k' hn
              exact absurd (.inr (.inr ⟨by show (st q).st.length ≤ b; omega, by show b < (effApply (st q).st e).length; rw [apply_len, hn]; simp; omega⟩)) hno
          · rw [effT_other h1 hb] at hk; exact hk
        · refine .inl ⟨rfl, ?_⟩
          rw [hs]
          show (effApply (st q).st e)[b]? = some k
          rw [apply_get _ _ _ hwr1, ← hk]
          rw [tch_iff, made_iff, hf] at ht
          have hcase : (∃ k', e.wr = some (b, k')) ∨ (∃ k', e.new = some k' ∧ b = (st q).st.length) := by
            rcases ht with ht | ht | ht
            · cases hw' : e.wr with
              | none => simp [hw'] at ht
              | some bk => obtain ⟨b', k'⟩ := bk; simp [hw'] at ht; subst ht; exact .inl ⟨k', rfl⟩
            · cases ht
            · have h1 : (st q).st.length ≤ b := ht.1
              have h2 : b < (effApply (st q).st e).length := ht.2
              rw [apply_len] at h2
              cases hn : e.new with
              | none => simp [hn] at h2; omega
              | some k' => simp [hn] at h2; exact .inr ⟨k', rfl, by omega⟩
          rcases hcase with ⟨k', hk'⟩ | ⟨k', hk', hb⟩
          · have hbl := hwr1 b k' hk'
            unfold effT
            rw [hk']
            cases e.new with
            | none => simp only [upd_same]
            | some k2 => dsimp only; rw [upd_other _ _ (by omega), upd_same, upd_other _ _ (by omega), upd_same]
          · have h1 := hnew k' hk'
            rw [h1]
            subst hb
            unfold effT
            rw [hk']
            cases e.wr with
            | none => simp only [upd_same]
            | some bk => obtain ⟨b', k2⟩ := bk; simp only [upd_same]
      · rw [effT_other (fun k hk => ?_) (by omega)]
        · exact hn
        · obtain ⟨k', hk'⟩ := need_some G.inv G.sl (op := (op q).op) (b := b) (by rw [hneed]; exact (hwr b k hk).2)
          rw [hn] at hk'; cases hk'
      · have hne : ∀ k, e.wr ≠ some (b, k) := by
          intro k hk
          rw [hs] at hlow
          simp only [hk] at hlow
          omega
        exact ⟨effT_other hne (by omega), out.same b (by omega) hne⟩
    unfold Oper.wp
    rcases hrun with hrun | ⟨hrun, rfl⟩
    · rw [hrun, Oper.upon_value]; exact done
    · rw [hrun, Oper.upon_skip]; exact done

/-- How many are not listed. -/
def left (ls : Nat → Bool) : Nat → Nat
  | 0 => 0
  | p + 1 => left ls p + (if ls p then 0 else 1)

theorem left_le (ls : Nat → Bool) : ∀ p, left ls p ≤ p
  | 0 => Nat.le_refl _
  | p + 1 => by have := left_le ls p; simp only [left]; split <;> omega
theorem left_zero {ls : Nat → Bool} : ∀ {p : Nat}, left ls p = 0 → ∀ i, i < p → ls i = true
  | 0, _, i, hi => by omega
  | p + 1, h, i, hi => by
    simp only [left] at h
    by_cases he : i = p
    · subst he
      cases hl : ls i
      · simp [hl] at h
      · rfl
    · exact left_zero (p := p) (by omega) i (by omega)
theorem left_congr {ls ls' : Nat → Bool} : ∀ {p : Nat}, (∀ i, i < p → ls' i = ls i) → left ls' p = left ls p
  | 0, _ => rfl
  | p + 1, h => by simp only [left]; rw [left_congr (p := p) fun i hi => h i (by omega), h p (by omega)]
theorem left_set {ls ls' : Nat → Bool} {q : Nat} (hq : ls q = false) (hq' : ls' q = true) : ∀ {p : Nat}, q < p → (∀ i, i < p → i ≠ q → ls' i = ls i) → left ls' p + 1 = left ls p
  | 0, h, _ => by omega
  | p + 1, h, he => by
    simp only [left]
    by_cases hpq : p = q
    · subst hpq
      rw [left_congr fun i hi => he i (by omega) (by omega), hq, hq']; simp
    · have := left_set hq hq' (p := p) (by omega) fun i h1 h2 => he i (by omega) h2
      rw [he p (by omega) hpq]; omega

theorem any_sound (hcall : SoundCall P call) (hE : E.Types P) (tr : Trace E call ops N ix op st ft anc) {Q : Exit → Act → World → Prop}
    (hQ : ∀ a' w' T' μ', StR (st N) T' μ' a' w' → Tr (st 0) T0 μ0 w0 (st N) T' μ' w' → Q .normal a' w') :
    ∀ (fuel : Nat) (listed : Array Bool) (T : Sto) (μ : Mu) (a : Act) (w : World), Good ops N ix op st ft anc T0 μ0 w0 listed T μ a w → left (lis ix listed) N ≤ fuel → wpAny P .any ops Q fuel listed a w := by
  have F := tr.foot hcall
  have hend : ∀ (listed : Array Bool) (T : Sto) (μ : Mu) (a : Act) (w : World), Good ops N ix op st ft anc T0 μ0 w0 listed T μ a w → (∀ i, i < N → lis ix listed i = true) → Q .normal a w := by
    intro listed T μ a w G hall
    refine hQ a w T μ ⟨fun b k hk => ?_, G.inv, ?_, G.defers⟩ G.tr
    · rw [← bl_all F (Nat.le_refl N) fun p hp _ => hall p hp]
      exact G.sub b k hk
    · rw [← sa_eq F (Nat.le_refl N) hall]; exact G.sl
  have hready : ∀ listed : Array Bool, listed.size = ops.size → Region.ready .any ops listed = [] → ∀ i, i < N → lis ix listed i = true := by
    intro listed hs hr i
    induction i using Nat.strongRecOn with
    | _ i ih =>
      intro hi
      cases hl : lis ix listed i
      · have : ix i ∈ Region.ready .any ops listed := by
          rw [mem_ready]
          have hlt : ix i < listed.size := by rw [hs]; exact (Array.getElem?_eq_some_iff.1 (tr.get i hi)).1
          refine ⟨?_, op i, tr.get i hi, fun e he hb => ?_⟩
          · unfold lis at hl
            simp [hlt] at hl ⊢; exact hl
          · obtain ⟨p, hp, hix⟩ := tr.early i hi e he hb
            rw [← hix]
            exact ih p hp (by omega)
        rw [hr] at this; cases this
      · rfl
  intro fuel
  induction fuel with
  | zero =>
    intro listed T μ a w G hf
    have hall := left_zero (show left (lis ix listed) N = 0 by omega)
    refine ⟨?_, hend listed T μ a w G hall⟩
    cases hr : Region.ready .any ops listed with
    | nil => rfl
    | cons j l =>
      have hj : j ∈ Region.ready .any ops listed := by rw [hr]; simp
      obtain ⟨h1, o, ho, _⟩ := mem_ready.1 hj
      obtain ⟨p, hp, hix⟩ := tr.onto j (Array.getElem?_eq_some_iff.1 ho).1
      have hlt : j < listed.size := by rw [G.size]; exact (Array.getElem?_eq_some_iff.1 ho).1
      have := hall p hp
      unfold lis at this
      rw [hix] at this
      simp [hlt] at h1 this
      rw [h1] at this; cases this
  | succ fuel ih =>
    intro listed T μ a w G hf
    refine ⟨fun hr => hend listed T μ a w G (hready listed G.size hr), fun j hj => ?_⟩
    obtain ⟨h1, o, ho, hall⟩ := mem_ready.1 hj
    have hjs : j < ops.size := (Array.getElem?_eq_some_iff.1 ho).1
    obtain ⟨q, hq, hix⟩ := tr.onto j hjs
    have hlt : j < listed.size := by rw [G.size]; exact hjs
    have hun : lis ix listed q = false := by
      unfold lis
      rw [hix]
      simp [hlt] at h1 ⊢; exact h1
    have hoq : o = op q := by
      have := tr.get q hq
      rw [hix, ho] at this; cases this; rfl
    subst hoq
    subst hix
    refine step_any hcall hE tr hq G hun (fun i hi => ?_) fun a' w' T' μ' G' => ih _ T' μ' a' w' G' ?_
    · obtain ⟨e, he, hb, hc⟩ := tr.ancs q hq i hi
      have hon := hall e he hb
      rcases hc with rfl | ⟨p, hp, hpx, hm⟩
      · exact hon
      · exact G.closed p (by omega) (by unfold lis; rw [hpx]; exact hon) i hm
    · have := left_set (ls' := lis ix (listed.setIfInBounds (ix q) true)) hun (by unfold lis; simp [hlt]) hq fun i hi hne => by
        unfold lis
        exact getD_set_ne false fun e => hne (tr.inj q i hq hi e).symm
      omega
end
end
end Go.Proofs.YteaifkpmfbgekaaGreatDoor.M
