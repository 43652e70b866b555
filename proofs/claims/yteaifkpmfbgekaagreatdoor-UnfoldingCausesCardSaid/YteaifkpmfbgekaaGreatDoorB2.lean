/- The operations that touch no memory: numbers, addresses, parts. -/
import Derived.Test.YteaifkpmfbgekaaGreatDoorB1
import Derived.Laws.OwnMore
set_option linter.all false
set_option linter.deprecated false
namespace Go.Proofs.YteaifkpmfbgekaaGreatDoor.M
open Go
section
variable {P : Program} {E : Env} {T : Sto} {μ : Mu} {w : World}

theorem int_sound {op : BinOp} {k : IntKind} {a b : Int} {v : AV} (h : intA op k a b = some v) (t : TypeId) :
    ∃ y, (binOp op t (.int k a) (.int k b)).run P w = .ok y w ∧ Rel T μ w v y := by
  cases op <;> simp only [intA] at h <;> first
    | (cases h; exact ⟨_, by simp only [binOp, ne_eq, not_true_eq_false, if_false, Op.intArith, Op.intBits, Op.intCmp, Sem.run_pure]; rfl, by constructor⟩)
    | (split at h
       · cases h
       · rename_i hb; cases h; exact ⟨_, by simp [binOp, Op.intDiv, hb]; rfl, by constructor⟩)
    | cases h

theorem shift_sound {op : BinOp} {k yk : IntKind} {a b : Int} {v : AV} (hop : op = .shl ∨ op = .shr) (h : shiftA op k a b = some v) (t : TypeId) :
    ∃ y, (binOp op t (.int k a) (.int yk b)).run P w = .ok y w ∧ Rel T μ w v y := by
  unfold shiftA at h
  split at h
  · cases h
  · rename_i hb
    rcases hop with rfl | rfl
    · simp only [] at h; cases h; exact ⟨_, by simp [binOp, Op.shift, hb]; rfl, by constructor⟩
    · simp only [] at h; cases h; exact ⟨_, by simp [binOp, Op.shift, hb]; rfl, by constructor⟩

theorem run_eqGuard_other {op : BinOp} (h1 : op ≠ .eql) (h2 : op ≠ .neq) (t : TypeId) (ox oy : Operand) (a b : Value) : (eqGuard op t ox oy a b).run P w = .ok () w := by
  cases op <;> first | exact absurd rfl h1 | exact absurd rfl h2 | rfl
theorem run_eqGuard_int (op : BinOp) (t : TypeId) (ox oy : Operand) (k : IntKind) (n : Int) (b : Value) : (eqGuard op t ox oy (.int k n) b).run P w = .ok () w := by
  cases op <;> first | rfl | (cases b <;> rfl)
theorem run_eqGuard_str (op : BinOp) (t : TypeId) (ox oy : Operand) (s : ByteArray) (b : Value) : (eqGuard op t ox oy (.string s) b).run P w = .ok () w := by
  cases op <;> first | rfl | (cases b <;> rfl)

theorem run_binOp_eql {t : TypeId} {x y : AV} {a b : Value} (hx : Rel T μ w x a) (hy : Rel T μ w y b) (h1 : ∀ k n k' m, ¬ (x = .int k n ∧ y = .int k' m)) (h2 : ∀ s s', ¬ (x = .str s ∧ y = .str s')) {r : Bool}
    (he : (Op.equal t a b).run P w = .ok r w) : (binOp .eql t a b).run P w = .ok (.bool r) w ∧ (binOp .neq t a b).run P w = .ok (.bool !r) w := by
  cases hx <;> cases hy <;> first
    | (exfalso; exact h1 _ _ _ _ ⟨rfl, rfl⟩)
    | (exfalso; exact h2 _ _ ⟨rfl, rfl⟩)
    | exact ⟨by simp only [binOp, Sem.run_bind, he, Result.andThen_ok, Sem.run_pure], by simp only [binOp, Sem.run_bind, he, Result.andThen_ok, Sem.run_pure]⟩

theorem bin_sound (hE : E.Types P) {op : BinOp} {t : TypeId} {x y : AV} {a b : Value} (hx : Rel T μ w x a) (hy : Rel T μ w y b) {v : AV} (h : binA E op t x y = some v) (ox oy : Operand) :
    ∃ r, (do eqGuard op t ox oy a b; binOp op t a b : Sem Value).run P w = .ok r w ∧ Rel T μ w v r := by
  unfold binA at h
  split at h
  · cases hx; cases hy
    rename_i yk _
    obtain ⟨r, hr, hrel⟩ := shift_sound (P := P) (w := w) (T := T) (μ := μ) (yk := yk) (.inl rfl) h t
    exact ⟨r, by simp [run_eqGuard_int, hr], hrel⟩
  · cases hx; cases hy
    rename_i yk _
    obtain ⟨r, hr, hrel⟩ := shift_sound (P := P) (w := w) (T := T) (μ := μ) (yk := yk) (.inr rfl) h t
    exact ⟨r, by simp [run_eqGuard_int, hr], hrel⟩
  · split at h
    · rename_i hk
      subst hk
      cases hx; cases hy
      obtain ⟨r, hr, hrel⟩ := int_sound (P := P) (w := w) (T := T) (μ := μ) h t
      exact ⟨r, by simp [run_eqGuard_int, hr], hrel⟩
    · cases h
  · cases h; cases hx; cases hy
    exact ⟨_, by simp only [Sem.run_bind, run_eqGuard_str, Result.andThen_ok, binOp, Op.stringOp, ByteArray.toList_eq, Sem.run_pure]; rfl, .bool _⟩
  · cases h; cases hx; cases hy
    exact ⟨_, by simp only [Sem.run_bind, run_eqGuard_str, Result.andThen_ok, binOp, Op.stringOp, ByteArray.toList_eq, Sem.run_pure]; rfl, .bool _⟩
  · rename_i hni hns
    split at h
    · rename_i r hr
      cases h
      obtain ⟨he, hg⟩ := eq_sound hE hx hy hr
      obtain ⟨h1, _⟩ := run_binOp_eql hx hy (fun k n k' m e => hni _ _ _ _ e.1 e.2) (fun s s' e => hns _ _ e.1 e.2) he
      exact ⟨.bool r, by simp [hg, h1], .bool r⟩
    · cases h
  · rename_i hni hns
    split at h
    · rename_i r hr
      cases h
      obtain ⟨he, hg⟩ := eq_sound hE hx hy hr
      obtain ⟨_, h1⟩ := run_binOp_eql hx hy (fun k n k' m e => hni _ _ _ _ e.1 e.2) (fun s s' e => hns _ _ e.1 e.2) he
      exact ⟨.bool !r, by simp [hg, h1], .bool _⟩
    · cases h
  · cases h

theorem un_sound {op : UnOp} {x v : AV} {a : Value} (hx : Rel T μ w x a) (h : unA op x = some v) : ∃ r, (Op.unary op a).run P w = .ok r w ∧ Rel T μ w v r := by
  unfold unA at h
  split at h
  · cases h; cases hx; exact ⟨_, by simp only [Op.unary, Op.intArith, Sem.run_pure], .int _ _⟩
  · cases h; cases hx; exact ⟨_, by simp [Op.unary, Op.intBits]; rfl, by constructor⟩
  · cases h; cases hx; exact ⟨_, by simp [Op.unary]; rfl, by constructor⟩
  · cases h

theorem convert_sound (hE : E.Types P) {src dst : TypeId} {x v : AV} {a : Value} (hx : Rel T μ w x a) (h : convertA E src dst x = some v) : ∃ r, (convert src dst a).run P w = .ok r w ∧ Rel T μ w v r := by
  unfold convertA at h
  split at h
  · rename_i i k s b z eqk n hs hd
    cases h; cases hx
    have h1 := (hE.info _ _ hs).und
    have h2 := (hE.info _ _ hd).und
    exact ⟨_, by simp [convert, run_underlying h1, run_underlying h2, Conv.intToInt]; rfl, by constructor⟩
  · rename_i s hs hd
    cases h; cases hx
    have h1 := (hE.info _ _ hs).und
    have h2 := (hE.info _ _ hd).und
    exact ⟨_, by simp [convert, run_underlying h1, run_underlying h2]; rfl, by constructor⟩
  · cases h

/-! ### Slices and addresses -/

inductive OptRel (T : Sto) (μ : Mu) (w : World) : Option AV → Option Value → Prop
  | none : OptRel T μ w none none
  | some {v : AV} {x : Value} (h : Rel T μ w v x) : OptRel T μ w (some v) (some x)

theorem sb_sound {v : AV} {y : Value} (hr : Rel T μ w v y) {d l cap : Nat} (h : bound (some v) d = some l) (hl : l ≤ cap) (code : BoundsCode) : (Instr.sliceBound y cap code).run P w = .ok l w := by
  cases hr with
  | int k n =>
    simp only [bound] at h
    split at h
    · rename_i hn
      cases h
      have : n ≤ (cap : Int) := by omega
      simp [Instr.sliceBound, asIntOf, hn, this]
    · cases h
  | _ => simp [bound] at h

theorem bounds_sound {low high : Option AV} {al ah : Option Value} {dh l hh cap : Nat} (hl : bound low 0 = some l) (hh' : bound high dh = some hh)
    (rl : OptRel T μ w low al) (rh : OptRel T μ w high ah)
    (h1 : l ≤ hh) (h2 : hh ≤ cap) (isSlice : Bool) : (Instr.sliceBounds isSlice dh cap al ah none).run P w = .ok (l, hh, cap) w := by
  unfold Instr.sliceBounds
  cases rh with
  | none =>
    simp only [bound] at hh'; cases hh'
    cases rl with
    | none => simp only [bound] at hl; cases hl; simp
    | some r => simp [sb_sound r hl h1]
  | some r2 =>
    have e2 : ∀ code, _ := sb_sound (P := P) r2 hh' h2
    cases rl with
    | none => simp only [bound] at hl; cases hl; simp [e2]
    | some r => simp [sb_sound r hl h1, e2]

theorem slice_sound (hE : E.Types P) {t : TypeId} {x v : AV} {a : Value} {low high max : Option AV} {al ah am : Option Value} (hx : Rel T μ w x a)
    (hl : OptRel T μ w low al) (hh : OptRel T μ w high ah) (hm : OptRel T μ w max am) (h : sliceA E t x low high max = some v) :
    ∃ r, (Instr.sliceAt t a al ah am).run P w = .ok r w ∧ Rel T μ w v r := by
  unfold sliceA at h
  split at h
  · rename_i s b z eqk hi
    have hu := (hE.info t _ hi).und
    split at h
    · rename_i s
      cases hx
      cases hm with
      | none =>
        split at h
        · rename_i l hh' hb1 hb2
          split at h
          · rename_i hle
            cases h
            have := bounds_sound (P := P) (w := w) hb1 hb2 hl hh hle.1 hle.2 false
            exact ⟨_, by simp [Instr.sliceAt, Instr.slice, run_underlying hu, this], .str _⟩
          · cases h
        · cases h
    · cases h
  · rename_i e s b z eqk hi
    have hu := (hE.info t _ hi).und
    split at h
    · cases h
    · rename_i j hj
      have ok := hE.info e j hj
      split at h
      · cases hm with
        | some hm =>
          cases hm
          rename_i k
          split at h
          · rename_i hs0 hb1 hb2
            obtain ⟨len, cap, ad, rfl⟩ : ∃ len cap ad, a = .slice ad len cap := by
              revert h
              cases hx <;> first | exact fun _ => ⟨_, _, _, rfl⟩ | (intro h; simp at h)
            have hv : v = .emp := by
              revert h
              cases hx <;> (intro h; simp at h) <;> exact h.symm
            subst hv
            have e0 : ∀ (c : Nat) code, (Instr.sliceBound (.int k 0) c code).run P w = .ok 0 w := fun c code => by simp [Instr.sliceBound, asIntOf]
            have hbs : (Instr.sliceBounds true len cap al ah (some (.int k 0))).run P w = .ok (0, 0, 0) w := by
              unfold Instr.sliceBounds
              cases hh with
              | some r2 =>
                have e2 : ∀ code, _ := sb_sound (P := P) r2 hb2 (Nat.le_refl 0)
                cases hl with
                | none => simp [e0, e2]
                | some r1 =>
                  have e1 : ∀ code, _ := sb_sound (P := P) r1 hb1 (Nat.le_refl 0)
                  simp [e0, e1, e2]
            exact ⟨.slice ad 0 0, by simp [Instr.sliceAt, Instr.slice, run_underlying hu, hbs, run_sizeOf ok], .emp⟩
          · cases h
      · cases h
      · cases hm
        split at h
        · rename_i b off len ver sz
          split at h
          · rename_i l hh' hb1 hb2
            split at h
            · rename_i hle
              cases hx with
              | @sl _ _ _ _ _ cap ad k hk hv hlen hq =>
                have hbs := bounds_sound (P := P) (w := w) hb1 hb2 hl hh hle.1 (Nat.le_trans hle.2.1 hlen) true
                have hrun : (Instr.sliceAt t (.slice (some ad) len cap) al ah none).run P w = .ok (.slice (if cap = l then some ad else some (ad.add (l * j.size))) (hh' - l) (cap - l)) w := by
                  simp only [Instr.sliceAt, Instr.slice, Sem.run_bind, run_underlying hu, hbs, Result.andThen_ok, run_sizeOf ok, Sem.run_pure, Option.map_some]
                refine ⟨_, hrun, ?_⟩
                split at h
                · rename_i hcase
                  cases h
                  obtain ⟨a', ha'⟩ : ∃ a', (if cap = l then some ad else some (ad.add (l * j.size))) = some a' := by split <;> exact ⟨_, rfl⟩
                  rw [ha']
                  refine .sl hk hv (by omega) fun e => ?_
                  obtain ⟨c, hc, rfl, q0, q1, q2, q3⟩ := hq e
                  obtain rfl := hle.2.2
                  have m1 : l * j.size + (hh' - l) * j.size ≤ len * j.size := by rw [← Nat.add_mul]; exact Nat.mul_le_mul_right _ (by omega)
                  have m2 : l * j.size + (cap - l) * j.size = cap * j.size := by rw [← Nat.add_mul]; congr 1; omega
                  refine ⟨c, hc, ?_, q0, by omega, by omega, by omega⟩
                  split at ha'
                  · cases ha'
                    have : l = 0 := by omega
                    subst this; simp
                  · cases ha'; rw [Addr.add_lit]
                · cases h
                  obtain rfl : hh' = l := by omega
                  rw [Nat.sub_self]
                  exact .imm0
            · cases h
          · cases h
        · rename_i n cells
          split at h
          · rename_i l hh' hb1 hb2
            split at h
            · rename_i hle
              cases h
              cases hx with
              | @imm0 ad cap =>
                have hbs := bounds_sound (P := P) (w := w) hb1 hb2 hl hh hle.1 (Nat.le_trans hle.2.1 (Nat.zero_le cap)) true
                have hrun : (Instr.sliceAt t (.slice ad 0 cap) al ah none).run P w = .ok (.slice (if cap = l then ad else ad.map (·.add (l * j.size))) (hh' - l) (cap - l)) w := by
                  simp only [Instr.sliceAt, Instr.slice, Sem.run_bind, run_underlying hu, hbs, Result.andThen_ok, run_sizeOf ok, Sem.run_pure]
                refine ⟨_, hrun, ?_⟩
                have h0 : hh' - l = 0 := by omega
                simp only [h0, List.drop_nil, List.take_nil]
                exact .imm0
              | @imm _ cap _ ad f hlen hp hc hr =>
                have hbs := bounds_sound (P := P) (w := w) hb1 hb2 hl hh hle.1 (Nat.le_trans hle.2.1 hlen) true
                have hrun : (Instr.sliceAt t (.slice (some ad) n cap) al ah none).run P w = .ok (.slice (if cap = l then some ad else some (ad.add (l * j.size))) (hh' - l) (cap - l)) w := by
                  simp only [Instr.sliceAt, Instr.slice, Sem.run_bind, run_underlying hu, hbs, Result.andThen_ok, run_sizeOf ok, Sem.run_pure, Option.map_some]
                refine ⟨_, hrun, ?_⟩
                by_cases hcl : cap = l
                · have h0 : hh' - l = 0 := by omega
                  simp only [h0, Nat.zero_mul, List.take_zero]
                  exact .imm0
                · rw [if_neg hcl]
                  have hA : At T μ w ad cells := ⟨f, hc, hr⟩
                  obtain ⟨g, hg1, hg2⟩ := hA.sub (l * j.size) ((hh' - l) * j.size)
                  refine .imm (f := g) (by omega) (fun hne => ?_) hg1 hg2
                  rw [add_block]
                  exact hp (fun e => hne (by simp [e]))
            · cases h
          · cases h
        · split at h
          · rename_i hb1 hb2
            cases h
            cases hx
            have hbs := bounds_sound (P := P) (w := w) hb1 hb2 hl hh (Nat.le_refl _) (Nat.le_refl _) true
            exact ⟨.slice none 0 0, by simp [Instr.sliceAt, Instr.slice, run_underlying hu, hbs, run_sizeOf ok], .nils⟩
          · cases h
        · split at h
          · rename_i hb1 hb2
            cases h
            cases hx with
            | @emp ad =>
              have hbs := bounds_sound (P := P) (w := w) hb1 hb2 hl hh (Nat.le_refl _) (Nat.le_refl _) true
              exact ⟨.slice ad 0 0, by simp [Instr.sliceAt, Instr.slice, run_underlying hu, hbs, run_sizeOf ok], .emp⟩
          · cases h
        · cases h
  · cases h

theorem asIntOf_int (k : IntKind) (n : Int) : (asIntOf (.int k n)).run P w = .ok (k, n) w := rfl

theorem field_ok (hE : E.Types P) {s : TypeId} {f : Nat} {fd : Field} (h : fieldA E s f = some fd) :
    ∃ fs i, P.underlying s = some (.struct fs) ∧ fs[f]? = some fd ∧ E.info fd.type = some i ∧ TI.Ok P fd.type i ∧ 0 < i.size := by
  unfold fieldA at h
  split at h
  · rename_i fs _ _ _ _ hi
    split at h
    · rename_i f' hf
      split at h
      · rename_i i hi'
        split at h
        · rename_i hpos
          cases h
          exact ⟨fs, i, (hE.info _ _ hi).und, hf, hi', hE.info _ _ hi', hpos⟩
        · cases h
      · cases h
    · cases h
  · cases h

theorem fieldAddr_sound (hE : E.Types P) {s : TypeId} {x v : AV} {a : Value} {f : Nat} (hx : Rel T μ w x a) (h : fieldAddrA E s x f = some v) :
    ∃ r, (Instr.fieldAt s a f).run P w = .ok r w ∧ Rel T μ w v r := by
  unfold fieldAddrA at h
  split at h
  · cases h
  · rename_i fd hfd
    obtain ⟨fs, i, hu, hf, _, ok, hpos⟩ := field_ok hE hfd
    have hrun : ∀ ad, (Instr.fieldAt s (.pointer (some ad)) f).run P w = .ok (.pointer (some (ad.add fd.offset))) w := fun ad => by
      simp [Instr.fieldAt, run_underlying hu, hf, Instr.sureAddr, fieldPlace, run_sizeOf ok, Nat.ne_of_gt hpos]
    cases hx with
    | @ptr b off ver ad k hk hv hh =>
      simp only [] at h
      cases h
      refine ⟨_, hrun ad, .ptr hk hv fun e => ?_⟩
      obtain ⟨c, hc, rfl⟩ := hh e
      exact ⟨c, hc, by rw [Addr.add_lit]⟩
    | @iptr cells ad f' hp hc hr =>
      simp only [] at h
      cases h
      refine ⟨_, hrun ad, ?_⟩
      have hA : At T μ w ad cells := ⟨f', hc, hr⟩
      obtain ⟨g, g1, g2⟩ := hA.sub fd.offset cells.length
      have e : (cells.drop fd.offset).take cells.length = cells.drop fd.offset := List.take_of_length_le (by simp)
      rw [e] at g1 g2
      refine .iptr (f := g) (fun hne => ?_) g1 g2
      rw [add_block]
      exact hp (fun e => hne (by simp [e]))
    | _ => simp at h

theorem At.iptr {a : Addr} {cells : List AV} {f : Nat → Value} (hp : cells ≠ [] → Prot μ a.block) (hc : ∀ j, j < cells.length → w.cell? (a.add j) = some (f j))
    (hr : ∀ j (hj : j < cells.length), Rel T μ w cells[j] (f j)) (n : Nat) : Rel T μ w (.iptr (cells.drop n)) (.pointer (some (a.add n))) := by
  have hA : At T μ w a cells := ⟨f, hc, hr⟩
  obtain ⟨g, g1, g2⟩ := hA.sub n cells.length
  have e : (cells.drop n).take cells.length = cells.drop n := List.take_of_length_le (by simp)
  rw [e] at g1 g2
  refine .iptr (f := g) (fun hne => ?_) g1 g2
  rw [add_block]
  exact hp (fun e => hne (by simp [e]))

theorem indexAddr_sound (hE : E.Types P) {t : TypeId} {x ix v : AV} {a b : Value} (hx : Rel T μ w x a) (hix : Rel T μ w ix b) (h : indexAddrA E t x ix = some v) :
    ∃ r, (Instr.indexAt t a b).run P w = .ok r w ∧ Rel T μ w v r := by
  unfold indexAddrA at h
  split at h
  · rename_i k i e _ _ _ _ hi
    have hu := (hE.info t _ hi).und
    cases hix
    split at h
    · rename_i j b off len ver sz hj
      have ok := hE.info e j hj
      split at h
      · rename_i hr
        cases h
        cases hx with
        | @sl _ _ _ _ _ cap ad k' hk hv hlen hq =>
          refine ⟨.pointer (some (ad.add (i.toNat * j.size))), ?_, .ptr hk hv fun e => ?_⟩
          · simp [Instr.indexAt, asIntOf_int, run_underlying hu, hr, run_sizeOf ok]
          · obtain ⟨c, hc, rfl, _⟩ := hq e
            exact ⟨c, hc, by rw [Addr.add_lit]⟩
      · cases h
    · rename_i j n cells hj
      have ok := hE.info e j hj
      split at h
      · rename_i hr
        cases h
        cases hx with
        | imm0 => exact absurd hr.2.1 (by simp; exact hr.1)
        | @imm _ cap _ ad f hlen hp hc hrr =>
          refine ⟨.pointer (some (ad.add (i.toNat * j.size))), ?_, At.iptr hp hc hrr _⟩
          simp [Instr.indexAt, asIntOf_int, run_underlying hu, hr.1, hr.2.1, run_sizeOf ok]
      · cases h
    · cases h
  · rename_i k i n e _ _ _ _ hi
    have hu := (hE.info t _ hi).und
    cases hix
    split at h
    · rename_i j b off ver hj
      have ok := hE.info e j hj
      split at h
      · rename_i hr
        cases h
        cases hx with
        | @ptr _ _ _ ad k' hk hv hq =>
          refine ⟨.pointer (some (ad.add (i.toNat * j.size))), ?_, .ptr hk hv fun e => ?_⟩
          · simp [Instr.indexAt, asIntOf_int, run_underlying hu, hr, run_sizeOf ok, Instr.sureAddr]
          · obtain ⟨c, hc, rfl⟩ := hq e
            exact ⟨c, hc, by rw [Addr.add_lit]⟩
      · cases h
    · rename_i j cells hj
      have ok := hE.info e j hj
      split at h
      · rename_i hr
        cases h
        cases hx with
        | @iptr _ ad f hp hc hrr =>
          refine ⟨.pointer (some (ad.add (i.toNat * j.size))), ?_, At.iptr hp hc hrr _⟩
          simp [Instr.indexAt, asIntOf_int, run_underlying hu, hr, run_sizeOf ok, Instr.sureAddr]
      · cases h
    · cases h
  · cases h

theorem index_sound (hE : E.Types P) {t : TypeId} {x ix v : AV} {a b : Value} (hx : Rel T μ w x a) (hix : Rel T μ w ix b) (h : indexA E t x ix = some v) :
    ∃ r, (Instr.index t a b).run P w = .ok r w ∧ Rel T μ w v r := by
  unfold indexA at h
  split at h
  · rename_i k i _ _ _ _ s hi
    have hu := (hE.info t _ hi).und
    cases hix; cases hx
    split at h
    · rename_i h0
      split at h
      · rename_i c hc
        cases h
        have hc' : s[i.toNat]? = some c := by
          simp at hc
          have : s.data[i.toNat]? = some c := by simpa using hc
          obtain ⟨hl, hv⟩ := Array.getElem?_eq_some_iff.1 this
          have hl' : i.toNat < s.size := hl
          rw [getElem?_pos s i.toNat hl']
          exact congrArg some hv
        exact ⟨_, by simp [Instr.index, asIntOf_int, run_underlying hu, h0, hc'], .int _ _⟩
      · cases h
    · cases h
  · rename_i k i n e _ _ _ _ cs hi
    have hu := (hE.info t _ hi).und
    cases hix
    obtain ⟨xs, rfl, hxs⟩ := Rel.agg_iff.1 hx
    split at h
    · rename_i j hj
      have ok := hE.info e j hj
      split at h
      · rename_i hr
        obtain ⟨y, hy, hrel⟩ := part_sound hE hxs h
        exact ⟨y, by simp [Instr.index, asIntOf_int, run_underlying hu, hr, run_sizeOf ok, hy], hrel⟩
      · cases h
    · cases h
  · cases h

theorem fieldV_sound (hE : E.Types P) {t : TypeId} {f : Nat} {fd : Field} {cs : List AV} {a : Value} (hf : fieldA E t f = some fd) (hx : Rel T μ w (.agg cs) a) {v : AV} (h : partA E fd.type cs fd.offset = some v) :
    ∃ r, (Instr.field t a f).run P w = .ok r w ∧ Rel T μ w v r := by
  obtain ⟨fs, i, hu, hff, _, ok, hpos⟩ := field_ok hE hf
  obtain ⟨xs, rfl, hxs⟩ := Rel.agg_iff.1 hx
  obtain ⟨y, hy, hrel⟩ := part_sound hE hxs h
  exact ⟨y, by simp [Instr.field, run_underlying hu, hff, asAgg, hy], hrel⟩

theorem len_sound (hE : E.Types P) {ts : Array TypeId} {ty : TypeId} {args : List AV} {as : Array Value} (ha : Rels T μ w args as.toList) {v : AV} (h : lenA E ts.toList args = some v) :
    ∃ r, (Builtin.len_ ts ty as).run P w = .ok r w ∧ Rel T μ w v r := by
  unfold lenA at h
  split at h
  · rename_i t tr x ar hts
    have ht : ts[0]? = some t := by have := congrArg (·[0]?) hts; simpa using this
    obtain ⟨a, hav, hr⟩ := ha.get (j := 0) (v := x) rfl
    have ha0 : as[0]? = some a := by simpa using hav
    split at h
    · cases h
    · rename_i i hi
      have hu := (hE.info t i hi).und
      split at h <;> rename_i hd <;> (try rw [hd] at hu)
      · cases h; cases hr
        exact ⟨_, by simp [Builtin.len_, ht, ha0, run_underlying hu]; rfl, .int _ _⟩
      · cases h
        exact ⟨_, by simp [Builtin.len_, ht, ha0, run_underlying hu]; rfl, .int _ _⟩
      · cases h; cases hr
        exact ⟨_, by simp [Builtin.len_, ht, ha0, run_underlying hu]; rfl, .int _ _⟩
      · cases h; cases hr
        exact ⟨_, by simp [Builtin.len_, ht, ha0, run_underlying hu]; rfl, .int _ _⟩
      · cases h; cases hr
        exact ⟨_, by simp [Builtin.len_, ht, ha0, run_underlying hu]; rfl, .int _ _⟩
      · cases h
        cases hr with
        | imm0 => exact ⟨_, by simp [Builtin.len_, ht, ha0, run_underlying hu]; rfl, .int _ _⟩
        | imm => exact ⟨_, by simp [Builtin.len_, ht, ha0, run_underlying hu]; rfl, .int _ _⟩
      · cases h
  · cases h

theorem cap_sound (hE : E.Types P) {ts : Array TypeId} {ty : TypeId} {args : List AV} {as : Array Value} (ha : Rels T μ w args as.toList) {v : AV} (h : capA E ts.toList args = some v) :
    ∃ r, (Builtin.cap_ ts ty as).run P w = .ok r w ∧ Rel T μ w v r := by
  unfold capA at h
  split at h
  · rename_i t tr x ar hts
    have ht : ts[0]? = some t := by have := congrArg (·[0]?) hts; simpa using this
    obtain ⟨a, hav, hr⟩ := ha.get (j := 0) (v := x) rfl
    have ha0 : as[0]? = some a := by simpa using hav
    split at h
    · cases h
    · rename_i i hi
      have hu := (hE.info t i hi).und
      split at h <;> rename_i hd <;> (try rw [hd] at hu)
      · cases h; cases hr
        exact ⟨_, by simp [Builtin.cap_, ht, ha0, run_underlying hu]; rfl, .int _ _⟩
      · cases h; cases hr
        exact ⟨_, by simp [Builtin.cap_, ht, ha0, run_underlying hu]; rfl, .int _ _⟩
      · cases h
  · cases h
end
end Go.Proofs.YteaifkpmfbgekaaGreatDoor.M

namespace Go.Proofs.YteaifkpmfbgekaaGreatDoor.M
open Go

theorem paste_length {α : Type} : ∀ (l : List α) (off : Nat) (xs : List α), (paste l off xs).length = l.length
  | _, _, [] => rfl
  | l, off, x :: xs => by simp [paste, paste_length]

theorem paste_eq {α : Type} : ∀ (l : List α) (off : Nat) (xs : List α), off + xs.length ≤ l.length → paste l off xs = l.take off ++ xs ++ l.drop (off + xs.length)
  | l, off, [], _ => by simp [paste]
  | l, off, x :: xs, h => by
    have h' : off + 1 + xs.length ≤ (l.set off x).length := by simp at h ⊢; omega
    rw [paste, paste_eq (l.set off x) (off + 1) xs h']
    have hlt : off < l.length := by simp at h; omega
    have e1 : (l.set off x).take (off + 1) = l.take off ++ [x] := by
      rw [List.take_succ_eq_append_getElem (by simpa using hlt), List.take_set_of_le (Nat.le_refl _)]
      simp
    have e2 : (l.set off x).drop (off + 1 + xs.length) = l.drop (off + (xs.length + 1)) := by
      rw [List.drop_set_of_lt (by omega)]
      congr 1; omega
    rw [e1, e2]
    simp

theorem paste_take {α : Type} (l : List α) (n off : Nat) (xs : List α) (h : off + xs.length ≤ n) (hn : n ≤ l.length) : (paste l off xs).take n = paste (l.take n) off xs := by
  rw [paste_eq l off xs (by omega), paste_eq (l.take n) off xs (by simp; omega)]
  rw [List.take_append, List.take_append]
  simp only [List.length_take, List.length_append]
  have h1 : min off l.length = off := by omega
  rw [h1]
  rw [List.take_of_length_le (i := n) (l := l.take off) (by simp; omega), List.take_of_length_le (i := n - off) (l := xs) (by omega), List.take_take, Nat.min_eq_left (by omega : off ≤ n), List.drop_take]

section
variable {P : Program} {E : Env} {T : Sto} {μ : Mu} {w : World}

theorem Rels.paste {l l' : List AV} {xs xs' : List Value} (h : Rels T μ w l xs) (h' : Rels T μ w l' xs') (off : Nat) : Rels T μ w (M.paste l off l') (M.paste xs off xs') := by
  induction l' generalizing l xs xs' off with
  | nil =>
    have : xs' = [] := List.eq_nil_of_length_eq_zero h'.1
    subst this
    exact h
  | cons v l' ih =>
    cases xs' with
    | nil => have := h'.1; simp at this
    | cons x xs' => exact ih (h.set h'.head off) h'.tail (off + 1)

theorem foldl_paste (vs : List Value) : ∀ (cells : Array Value) (off j : Nat), ((vs.zipIdx j).foldl (fun cs (p : Value × Nat) => cs.setIfInBounds (off + p.2) p.1) cells).toList = M.paste cells.toList (off + j) vs := by
  induction vs with
  | nil => intro cells off j; rfl
  | cons v vs ih =>
    intro cells off j
    simp only [List.zipIdx_cons, List.foldl_cons, M.paste]
    rw [ih (cells.setIfInBounds (off + j) v) off (j + 1)]
    simp [Nat.add_assoc]

theorem repl_eq {α : Type} [Inhabited α] (z : Array α) : ∀ n, ((Array.range (n * z.size)).map (fun i => z[i % z.size]!)).toList = repl n z.toList
  | 0 => by simp [repl]
  | n + 1 => by
    have ih := repl_eq z n
    have e : (Array.range ((n + 1) * z.size)).toList = (Array.range (n * z.size)).toList ++ (List.range z.size).map (n * z.size + ·) := by
      rw [Nat.succ_mul]
      simp [List.range_add]
    have hrep : repl (n + 1) z.toList = repl n z.toList ++ z.toList := by
      unfold repl
      rw [List.replicate_succ', List.flatten_append]
      simp
    rw [Array.toList_map, e, List.map_append, hrep, ← ih, Array.toList_map]
    congr 1
    apply List.ext_getElem
    · simp
    · intro j h1 h2
      have hj : j < z.size := by simpa using h2
      have : (n * z.size + j) % z.size = j := by rw [Nat.mul_comm, Nat.mul_add_mod, Nat.mod_eq_of_lt hj]
      simp [this, hj]

theorem repl_length {α : Type} (n : Nat) (z : List α) : (repl n z).length = n * z.length := by
  unfold repl
  induction n with
  | zero => simp
  | succ n ih => simp [List.replicate_succ, ih, Nat.succ_mul, Nat.add_comm]

theorem Rels.repl {z : List AV} {xs : List Value} (h : Rels T μ w z xs) : ∀ n, Rels T μ w (M.repl n z) (M.repl n xs)
  | 0 => .nil
  | n + 1 => by
    unfold M.repl
    rw [List.replicate_succ, List.replicate_succ, List.flatten_cons, List.flatten_cons]
    exact h.append (h.repl n)

theorem repl_all {z : List AV} (p : AV → Bool) (h : z.all p = true) : ∀ n, (repl n z).all p = true
  | 0 => rfl
  | n + 1 => by
    have := repl_all p h n
    unfold repl at this ⊢
    rw [List.replicate_succ, List.flatten_cons, List.all_append, h, this]; rfl

/-! ### What comes of an operation -/

def effT (T : Sto) (id : Nat) (e : Eff) : Sto :=
  match e.wr, e.new with
  | none, none => T
  | some (b, k), none => upd T b k
  | none, some k => upd T id k
  | some (b, k), some k' => upd (upd T b k) id k'

structure Out (T : Sto) (μ : Mu) (w : World) (id : Nat) (e : Eff) (μ' : Mu) (w' : World) (x : Value) : Prop where
  inv : Inv (effT T id e) μ' w'
  rel : Rel (effT T id e) μ' w' e.res x
  evo : Evo T μ w (effT T id e) μ' w'
  none : ∀ b, b ≠ id → μ b = none → μ' b = none
  same : ∀ b, b ≠ id → (∀ k, e.wr ≠ some (b, k)) → μ' b = μ b

/-- What an operation of the model comes to, as the evaluator says. -/
def Runs (P : Program) (T : Sto) (μ : Mu) (w : World) (id : Nat) (e : Eff) (s : Sem Value) : Prop :=
  ∃ x w' μ', s.run P w = .ok x w' ∧ Out T μ w id e μ' w' x

theorem Out.pure (hI : Inv T μ w) {id : Nat} {r : AV} {rd : List Nat} {x : Value} (h : Rel T μ w r x) : Out T μ w id ⟨r, rd, Option.none, Option.none⟩ μ w x :=
  ⟨hI, h, .refl _ _ _, fun _ _ h => h, fun _ _ _ => rfl⟩

theorem Runs.pure (hI : Inv T μ w) {id : Nat} {r : AV} {rd : List Nat} {s : Sem Value} (h : ∃ x, s.run P w = .ok x w ∧ Rel T μ w r x) : Runs P T μ w id ⟨r, rd, Option.none, Option.none⟩ s := by
  obtain ⟨x, hx, hr⟩ := h
  exact ⟨x, w, μ, hx, .pure hI hr⟩

/-- A new block. -/
theorem Out.new (hI : Inv T μ w) {id : Nat} (hT : T id = Option.none) (hμ : μ id = Option.none) {k : Blk} {cs : Array Value} {e : TypeId} {r : AV} {rd : List Nat} {x : Value}
    (h1 : k.cells.all AV.one = true) (h2 : Rels T μ w k.cells (cs.toList.take k.cells.length))
    (hr : Rel (upd T id k) (upd μ id (w.heap.size, cs.size)) (w.alloc (.cells cs e)) r x) :
    Out T μ w id ⟨r, rd, Option.none, some k⟩ (upd μ id (w.heap.size, cs.size)) (w.alloc (.cells cs e)) x := by
  obtain ⟨i, ev⟩ := hI.new hT hμ (e := e) h1 h2
  exact ⟨i, hr, ev, fun b hb h => by rw [upd_other _ _ hb]; exact h, fun b hb _ => upd_other _ _ hb⟩

theorem Rels.take_all {l : List AV} {xs : List Value} (h : Rels T μ w l xs) : Rels T μ w l (xs.take l.length) := by
  rw [List.take_of_length_le (Nat.le_of_eq h.1)]; exact h

theorem zero_all {t : TypeId} {i : TI} (ok : TI.Ok P t i) {z : List AV} (hz : i.zero = some z) :
    ∃ zv, (∀ w, (zeroValue t).run P w = .ok zv w) ∧ (∀ (T : Sto) (μ : Mu) (w : World), Rels T μ w z zv.cells.toList) ∧ z.all AV.one = true ∧ zv.cells.size = z.length := by
  obtain ⟨ti, h1, h2, h3, h4⟩ := ok.info
  obtain ⟨zv, h5, h6⟩ := h4 z hz
  have hr : ∀ (T : Sto) (μ : Mu) (w : World), Rels T μ w z zv.cells.toList := fun _ _ _ => ofVs_rel h6
  exact ⟨zv, fun w => by simp [zeroValue, typeInfo, h1, h5], hr, ofVs_one h6, by simpa using (hr (fun _ => none) (fun _ => none) default).1⟩

theorem zero_ok {t : TypeId} {i : TI} (ok : TI.Ok P t i) {z : List AV} (hz : i.zero = some z) :
    ∃ zv, (zeroValue t).run P w = .ok zv w ∧ Rels T μ w z zv.cells.toList ∧ z.all AV.one = true ∧ zv.cells.size = z.length := by
  obtain ⟨ti, h1, h2, h3, h4⟩ := ok.info
  obtain ⟨zv, h5, h6⟩ := h4 z hz
  have hr : Rels T μ w z zv.cells.toList := ofVs_rel h6
  exact ⟨zv, by simp [zeroValue, typeInfo, h1, h5], hr, ofVs_one h6, by simpa using hr.1⟩

theorem alloc_sound (hI : Inv T μ w) (hE : E.Types P) {id : Nat} (hT : T id = none) (hμ : μ id = none) {t : TypeId} {i : TI} (hi : E.info t = some i) {z : List AV} (hz : i.zero = some z) :
    Runs P T μ w id ⟨.ptr id 0 0, [], none, some ⟨i.size, 0, z⟩⟩ (Instr.alloc t true (.tuple #[])) := by
  obtain ⟨zv, hrun, hr, h1, _⟩ := zero_ok (P := P) (T := T) (μ := μ) (w := w) (hE.info t i hi) hz
  refine ⟨.pointer (some ⟨w.heap.size, 0, none⟩), w.alloc (.cells zv.cells t), upd μ id (w.heap.size, zv.cells.size), ?_, ?_⟩
  · simp [Instr.alloc, hrun, newVar, newRow]
  · exact .new hI hT hμ h1 hr.take_all (.ptr (upd_same _ _ _) (Nat.le_refl _) fun _ => ⟨_, upd_same _ _ _, rfl⟩)

theorem box_sound (hI : Inv T μ w) {id : Nat} (hT : T id = none) (hμ : μ id = none) (t : TypeId) {v : AV} {x : Value} (hx : Rel T μ w v x) (h1 : v.cells.all AV.one = true) :
    Runs P T μ w id ⟨.ptr id 0 0, [], none, some ⟨v.cells.length, 0, v.cells⟩⟩ (Instr.box t x) := by
  refine ⟨.pointer (some ⟨w.heap.size, 0, none⟩), w.alloc (.cells x.cells t), upd μ id (w.heap.size, x.cells.size), ?_, ?_⟩
  · simp [Instr.box, newVar, newRow]
  · exact .new hI hT hμ h1 (hx.cells h1).take_all (.ptr (upd_same _ _ _) (Nat.le_refl _) fun _ => ⟨_, upd_same _ _ _, rfl⟩)

/-! ### Parts put together -/

inductive PartsRel (T : Sto) (μ : Mu) (w : World) : List (Nat × AV) → List (Nat × Value) → Prop
  | nil : PartsRel T μ w [] []
  | cons {i : Nat} {v : AV} {x : Value} {l : List (Nat × AV)} {xs : List (Nat × Value)} (h : Rel T μ w v x) (hs : PartsRel T μ w l xs) : PartsRel T μ w ((i, v) :: l) ((i, x) :: xs)

theorem parts_sound (hI : Inv T μ w) {sl : List AV} {a : Act} (hs : Rels T μ w sl a.tmps.toList) : ∀ {l : List (Nat × Operand)} {ps : List (Nat × AV)}, partsA sl l = some ps → PartsRel T μ w ps (l.map fun p => (p.1, a.eval p.2))
  | [], ps, h => by simp only [partsA] at h; cases h; exact .nil
  | (i, x) :: l, ps, h => by
    simp only [partsA] at h
    split at h
    · rename_i v hv
      split at h
      · rename_i vs hvs
        cases h
        exact .cons (opd_sound hI hs hv) (parts_sound hI hs hvs)
      · cases h
    · cases h

theorem fill_sound (place : Nat → Option (Nat × Nat)) {ps : List (Nat × AV)} {qs : List (Nat × Value)} (h : PartsRel T μ w ps qs) : ∀ {l l' : List AV} {cs : Array Value}, Rels T μ w l cs.toList → l.all AV.one = true → fillA place l ps = some l' →
    ∃ cs', Instr.fill place cs qs = some cs' ∧ Rels T μ w l' cs'.toList ∧ l'.all AV.one = true ∧ l'.length = l.length := by
  induction h with
  | nil => intro l l' cs hr h1 h; simp only [fillA] at h; cases h; exact ⟨cs, rfl, hr, h1, rfl⟩
  | @cons i v x l0 xs hv _ ih =>
    intro l l' cs hr h1 h
    simp only [fillA] at h
    split at h
    · cases h
    · rename_i off size hp
      split at h
      · rename_i hc
        obtain ⟨c1, c2, c3⟩ := hc
        have hcells := hv.cells c3
        have hsz : x.cells.size = v.cells.length := by simpa using hcells.1
        have hcs : cs.size = l.length := by simpa using hr.1
        have hl := hr.paste hcells off
        have hlist := foldl_paste x.cells.toList cs off 0
        rw [Nat.add_zero] at hlist
        have hfold : (x.cells.zipIdx.foldl (fun cs (p : Value × Nat) => cs.setIfInBounds (off + p.2) p.1) cs).toList = M.paste cs.toList off x.cells.toList := by
          rw [← hlist]
          congr 1
          rw [← Array.foldl_toList, Array.toList_zipIdx]
        have h1' : (M.paste l off v.cells).all AV.one = true := by
          rw [paste_eq l off v.cells c2]
          simp only [List.all_append, Bool.and_eq_true]
          refine ⟨⟨?_, c3⟩, ?_⟩
          · exact List.all_eq_true.2 fun a ha => List.all_eq_true.1 h1 a (List.mem_of_mem_take ha)
          · exact List.all_eq_true.2 fun a ha => List.all_eq_true.1 h1 a (List.mem_of_mem_drop ha)
        rw [← hfold] at hl
        obtain ⟨cs', e1, e2, e3, e4⟩ := ih hl h1' h
        refine ⟨cs', ?_, e2, e3, e4.trans (paste_length _ _ _)⟩
        simp only [Instr.fill, hp]
        rw [if_neg (by simp; omega)]
        exact e1
      · cases h

theorem places_sound (hE : E.Types P) : ∀ {fs : List Field} {ps : List (Nat × Nat)}, placesA E fs = some ps → (fs.mapM fun f => Prod.mk f.offset <$> sizeOf f.type).run P w = .ok ps w
  | [], ps, h => by simp only [placesA] at h; cases h; simp
  | f :: fs, ps, h => by
    simp only [placesA] at h
    split at h
    · rename_i i l hi hl
      cases h
      have hs := run_sizeOf (P := P) (w := w) (hE.info _ _ hi)
      have ih := places_sound hE hl
      simp [List.mapM_cons, hs, ih]
    · cases h

theorem build_sound (hE : E.Types P) {t : TypeId} {ps : List (Nat × AV)} {qs : Array (Nat × Value)} (hp : PartsRel T μ w ps qs.toList) {v : AV} (h : buildA E t ps = some v) :
    ∃ x, (Instr.build t qs).run P w = .ok x w ∧ Rel T μ w v x := by
  unfold buildA at h
  split at h
  · cases h
  · rename_i i hi
    have ok := hE.info t i hi
    have hu := ok.und
    split at h
    · cases h
    · rename_i z hz
      obtain ⟨zv, hrun, hr, h1, _⟩ := zero_ok (P := P) (T := T) (μ := μ) (w := w) ok hz
      split at h
      · rename_i fs hd
        rw [hd] at hu
        split at h
        · cases h
        · rename_i pl hpl
          split at h
          · rename_i l hl
            cases h
            obtain ⟨cs', e1, e2, _⟩ := fill_sound _ hp hr h1 hl
            have hplaces := places_sound (P := P) (w := w) hE hpl
            refine ⟨.agg cs', ?_, Rel.agg_iff.2 ⟨_, rfl, e2⟩⟩
            have hm : (fs.mapM fun f => (do pure (f.offset, ← sizeOf f.type) : Sem (Nat × Nat))).run P w = .ok pl.toArray w := by
              rw [Array.mapM_eq_mapM_toList]
              simp only [Sem.run_map]
              have : (fun f : Field => (do pure (f.offset, ← sizeOf f.type) : Sem (Nat × Nat))) = fun f => Prod.mk f.offset <$> sizeOf f.type := by funext f; simp
              rw [this, hplaces]; rfl
            have e1' : Instr.fill (fun i : Nat => pl.toArray[i]?) zv.cells qs.toList = some cs' := by
              have : (fun i : Nat => pl.toArray[i]?) = fun i : Nat => pl[i]? := by funext i; simp
              rw [this]; exact e1
            simp only [Instr.build, Sem.run_bind, hrun, Result.andThen_ok, run_underlying hu, hm, e1']
            rfl
          · cases h
      · rename_i n e hd
        rw [hd] at hu
        split at h
        · cases h
        · rename_i j hj
          have okj := hE.info e j hj
          split at h
          · rename_i l hl
            cases h
            obtain ⟨cs', e1, e2, _⟩ := fill_sound _ hp hr h1 hl
            refine ⟨.agg cs', ?_, Rel.agg_iff.2 ⟨_, rfl, e2⟩⟩
            simp only [Instr.build, Sem.run_bind, hrun, Result.andThen_ok, run_underlying hu, run_sizeOf okj, e1]
            rfl
          · cases h
      · cases h

theorem Rel.sl_new {T' : Sto} {μ' : Mu} {w' : World} {id len cap : Nat} {k : Blk} {c : Nat × Nat} (hT : T' id = some k) (hμ : μ' id = some c) (h1 : len ≤ cap) (h2 : len * k.sz ≤ k.cells.length) (h3 : k.cells.length ≤ cap * k.sz) (h4 : cap * k.sz ≤ c.2) :
    Rel T' μ' w' (.sl id 0 len 0 k.sz) (.slice (some ⟨c.1, 0, none⟩) len cap) :=
  .sl hT (Nat.zero_le _) h1 fun _ => ⟨c, hμ, rfl, rfl, by omega, by omega, by omega⟩

theorem buildSlice_sound (hI : Inv T μ w) (hE : E.Types P) {id : Nat} (hT : T id = none) (hμ : μ id = none) {t : TypeId} {len : Nat} {ps : List (Nat × AV)} {qs : Array (Nat × Value)} (hp : PartsRel T μ w ps qs.toList) {e : Eff} (h : buildSliceA E id t len ps = some e) :
    Runs P T μ w id e (Instr.buildSlice t len qs) := by
  unfold buildSliceA at h
  split at h
  · rename_i el _ _ _ _ hi
    have hu := (hE.info t _ hi).und
    split at h
    · rename_i j hj
      have ok := hE.info el j hj
      split at h
      · rename_i z hz
        split at h
        · rename_i hc
          obtain ⟨c1, c2, c3⟩ := hc
          split at h
          · rename_i l hl
            cases h
            obtain ⟨zv, hrun, hr, h1, hzs⟩ := zero_ok (P := P) (T := T) (μ := μ) (w := w) ok hz
            have hrep : Rels T μ w (M.repl len z) (((Array.range (len * j.size)).map (fun i => zv.cells[i % zv.cells.size]!))).toList := by
              have : j.size = zv.cells.size := by rw [hzs, c2]
              rw [this, repl_eq]
              exact hr.repl len
            obtain ⟨cs', e1, e2, e3, e4⟩ := fill_sound _ hp hrep (repl_all _ h1 len) hl
            have hlen : l.length = len * j.size := by rw [e4, repl_length, c2]
            have hcs : cs'.size = len * j.size := by rw [← hlen]; simpa using e2.1
            refine ⟨.slice (some ⟨w.heap.size, 0, none⟩) len len, w.alloc (.cells cs' el), upd μ id (w.heap.size, cs'.size), ?_, ?_⟩
            · have hbig : ¬ len * j.size > 2 ^ 24 := by unfold mostCells at c3; omega
              simp only [Instr.buildSlice, Sem.run_bind, run_underlying hu, Result.andThen_ok, run_sizeOf ok, hbig, if_false]
              by_cases h0 : len * j.size = 0
              · have em : (Array.range (len * j.size)).map (fun x => (#[] : Array Value)[x % (#[] : Array Value).size]!) = (Array.range (len * j.size)).map (fun i => zv.cells[i % zv.cells.size]!) := by simp [h0]
                rw [if_pos h0]
                simp only [Sem.run_bind, Sem.run_pure, Result.andThen_ok, em, e1, newRow, run_newObj]
                rfl
              · rw [if_neg h0]
                simp only [Sem.run_bind, Sem.run_pure, Result.andThen_ok, hrun, e1, newRow, run_newObj]
                rfl
            · refine .new hI hT hμ (k := ⟨j.size, 0, l⟩) e3 (by have := e2.take_all; exact this) ?_
              exact Rel.sl_new (k := ⟨j.size, 0, l⟩) (upd_same _ _ _) (upd_same _ _ _) (Nat.le_refl _) (Nat.le_of_eq hlen.symm) (Nat.le_of_eq hlen) (Nat.le_of_eq hcs.symm)
          · cases h
        · cases h
      · cases h
    · cases h
  · cases h

theorem makeSlice_sound (hI : Inv T μ w) (hE : E.Types P) {id : Nat} (hT : T id = none) (hμ : μ id = none) {t : TypeId} {l c : AV} {x y : Value} (hl : Rel T μ w l x) (hc : Rel T μ w c y) {e : Eff} (h : makeSliceA E id t l c = some e) :
    Runs P T μ w id e (Instr.makeSlice t x y) := by
  unfold makeSliceA at h
  split at h
  · rename_i el _ _ _ _ l c hi
    have hu := (hE.info t _ hi).und
    cases hl; cases hc
    split at h
    · rename_i j hj
      have ok := hE.info el j hj
      split at h
      · rename_i z hz
        split at h
        · rename_i hc
          obtain ⟨c1, c2, c3, c4, c5, c6, c7⟩ := hc
          cases h
          obtain ⟨zv, hrun, hr, h1, hzs⟩ := zero_ok (P := P) (T := T) (μ := μ) (w := w) ok hz
          obtain ⟨ti, hti, hts, htb, _⟩ := ok.info
          have hrep : Rels T μ w (M.repl c.toNat z) (((Array.range (c.toNat * j.size)).map (fun i => zv.cells[i % zv.cells.size]!))).toList := by
            have : j.size = zv.cells.size := by rw [hzs, c2]
            rw [this, repl_eq]
            exact hr.repl _
          have wl : IntKind.i64.wrap l = l := by unfold mostCells at c6; unfold IntKind.wrap IntKind.bits IntKind.signed; simp; omega
          have wc : IntKind.i64.wrap c = c := by unfold mostCells at c6; unfold IntKind.wrap IntKind.bits IntKind.signed; simp; omega
          have hsmall : ∀ n : Int, 0 ≤ n → n ≤ c → (n < 0 || decide ((ti.bytes : Int) * n > 2 ^ 48)) = false := by
            intro n h0 hn
            have hb : (ti.bytes : Int) ≤ 1048576 := by rw [htb]; unfold mostCells at c7; omega
            have hn' : n ≤ 1048576 := by unfold mostCells at c6; omega
            have : (ti.bytes : Int) * n ≤ 1048576 * 1048576 := Int.mul_le_mul hb hn' h0 (by omega)
            simp; omega
          have hsize : ((Array.range (c.toNat * j.size)).map (fun i => zv.cells[i % zv.cells.size]!)).size = c.toNat * j.size := by simp
          refine ⟨.slice (some ⟨w.heap.size, 0, none⟩) l.toNat c.toNat, w.alloc (.cells ((Array.range (c.toNat * j.size)).map (fun i => zv.cells[i % zv.cells.size]!)) el), upd μ id (w.heap.size, _), ?_, .new hI hT hμ (k := ⟨j.size, 0, M.repl c.toNat z⟩) (repl_all _ h1 _) hrep.take_all ?_⟩
          · have hti' : (typeInfo el).run P w = .ok ti w := by simp [typeInfo, hti]
            have hcond : ((c < 0 || decide ((ti.bytes : Int) * c > 2 ^ 48)) || decide (l < 0) || decide (l > c)) = false := by
              rw [hsmall c (by omega) (by omega)]; simp; omega
            simp only [Instr.makeSlice, Sem.run_bind, run_underlying hu, Result.andThen_ok, asInt, asIntOf_int, Sem.run_pure, hti', wl, wc, hcond, Bool.false_eq_true, if_false, run_askRoom, run_sizeOf ok]
            by_cases h0 : c.toNat * j.size = 0
            · have em : (Array.range (c.toNat * j.size)).map (fun x => (#[] : Array Value)[x % (#[] : Array Value).size]!) = (Array.range (c.toNat * j.size)).map (fun i => zv.cells[i % zv.cells.size]!) := by simp [h0]
              rw [if_pos h0]
              simp only [Sem.run_bind, Sem.run_pure, Result.andThen_ok, em, newRow, run_newObj]
              rfl
            · rw [if_neg h0]
              simp only [Sem.run_bind, Sem.run_pure, Result.andThen_ok, hrun, newRow, run_newObj]
              rfl
          · have hrl : (M.repl c.toNat z).length = c.toNat * j.size := by rw [repl_length, c2]
            exact Rel.sl_new (k := ⟨j.size, 0, M.repl c.toNat z⟩) (upd_same _ _ _) (upd_same _ _ _) (by omega) (by rw [hrl]; exact Nat.mul_le_mul_right _ (by omega)) (Nat.le_of_eq hrl) (Nat.le_of_eq hsize.symm)
        · cases h
      · cases h
    · cases h
  · cases h
end
end Go.Proofs.YteaifkpmfbgekaaGreatDoor.M

namespace Go.Proofs.YteaifkpmfbgekaaGreatDoor.M
open Go
section
variable {P : Program} {E : Env} {T : Sto} {μ : Mu} {w : World}

theorem paste_all {l xs : List AV} {off : Nat} (h : l.all AV.one = true) (hx : xs.all AV.one = true) (hl : off + xs.length ≤ l.length) : (paste l off xs).all AV.one = true := by
  rw [paste_eq l off xs hl]
  simp only [List.all_append, Bool.and_eq_true]
  exact ⟨⟨List.all_eq_true.2 fun a ha => List.all_eq_true.1 h a (List.mem_of_mem_take ha), hx⟩, List.all_eq_true.2 fun a ha => List.all_eq_true.1 h a (List.mem_of_mem_drop ha)⟩

/-- Cells stored into a block, where it lies. -/
theorem storeCells_sound (hI : Inv T μ w) {b off : Nat} {c : Nat × Nat} {k : Blk} (hc : μ b = some c) (hk : T b = some k) {vs : List AV} {xs : List Value} (hv : Rels T μ w vs xs) (h1 : vs.all AV.one = true) (hl : off + vs.length ≤ k.cells.length) :
    ∃ w', (storeCells ⟨c.1, off, none⟩ xs).run P w = .ok () w' ∧ Inv (upd T b { k with cells := paste k.cells off vs }) μ w' ∧ Evo T μ w (upd T b { k with cells := paste k.cells off vs }) μ w' := by
  obtain ⟨k', hk', cs, e, hh, hcs, hall, hr⟩ := hI.blk b c hc
  rw [hk] at hk'; cases hk'
  have hxl : xs.length = vs.length := hv.1
  have hcl : k.cells.length ≤ cs.size := by have := hr.1; simp at this; omega
  have hrun := run_storeCells_at P c.1 off e xs 0 cs w hh (by omega) (hv.one h1)
  simp only [Nat.add_zero] at hrun
  rw [← paste_eq cs.toList off xs (by simp; omega)] at hrun
  refine ⟨_, hrun, hI.write hc hk hh (by simp [paste_length]) hcs (.inl ⟨rfl, paste_length _ _ _, rfl⟩) (paste_all hall h1 hl) ?_⟩
  have := hr.paste hv off
  simp only [paste_length]
  rw [paste_take _ _ _ _ (by omega) (by simpa using hcl)]
  exact this

theorem store_sound (hI : Inv T μ w) (hE : E.Types P) (id : Nat) {t : TypeId} {p v : AV} {x y : Value} (hp : Rel T μ w p x) (hv : Rel T μ w v y) {e : Eff} (h : storeA E T t p v = some e) :
    ∃ w', (Instr.storeAt t x y).run P w = .ok () w' ∧ Out T μ w id e μ w' undef := by
  unfold storeA at h
  split at h
  · rename_i i b off ver hi
    have ok := hE.info t i hi
    cases hp with
    | @ptr _ _ _ a k hk hver hh =>
      simp only [hk] at h
      split at h
      · rename_i hc
        obtain ⟨c1, c2, c3, c4⟩ := hc
        cases h
        obtain ⟨c, hcμ, rfl⟩ := hh c1.symm
        have hcells := hv.cells c3
        obtain ⟨w', hrun, hinv, hevo⟩ := storeCells_sound (P := P) hI hcμ hk hcells c3 c4
        refine ⟨w', ?_, hinv, .tup rfl (fun j hj => by simp at hj), hevo, fun _ _ h => h, fun _ _ _ => rfl⟩
        have hsz : y.cells.size = i.size := by rw [← c2]; simpa using hcells.1
        simp [Instr.storeAt, Instr.sureAddr, storeVar, run_sizeOf ok, hsz, hrun]
      · cases h
    | _ => rename_i hh; cases hh
  · cases h

/-! ### append, copy -/

/-- The cells of what is appended, and where they may be found. -/
theorem src_sound (hI : Inv T μ w) {sz : Nat} {s : AV} {x : Value} (hs : Rel T μ w s x) {n : Nat} {cells : List AV} {rd : List Nat} (h : srcA T sz s = some (n, cells, rd)) (m : Nat) (hm : m ≤ n) :
    cells.length = n * sz ∧ (∀ w, (Builtin.lenOf x).run P w = .ok n w) ∧ ∃ xs : Array Value, (∀ w' : World, w'.heap = w.heap → (Builtin.firstCells sz m x).run P w' = .ok xs w') ∧ Rels T μ w (cells.take (m * sz)) xs.toList := by
  unfold srcA at h
  have hmn : m * sz ≤ n * sz := Nat.mul_le_mul_right _ hm
  have fin : ∀ (ad : Addr) (len cap : Nat), At T μ w ad cells → cells.length = n * sz → ∃ xs : Array Value, (∀ w' : World, w'.heap = w.heap → (Builtin.firstCells sz m (.slice (some ad) len cap)).run P w' = .ok xs w') ∧ Rels T μ w (cells.take (m * sz)) xs.toList := by
    intro ad len cap hA hl
    have hA' := hA.sub 0 (m * sz)
    rw [Addr.add_zero', List.drop_zero] at hA'
    obtain ⟨xs, hr, hx⟩ := hA'.list
    have hlen : xs.length = m * sz := by rw [hr.1]; simp; omega
    refine ⟨xs.toArray, fun w' hh => ?_, by simpa using hr⟩
    have hload := run_loadCells_list (P := P) w' ad xs fun j x hjx => (cell_of_heap (by rw [hh])).trans (hx j x hjx)
    rw [hlen] at hload
    simp [Builtin.firstCells, hload]
  split at h
  · cases h; cases hs
    obtain rfl : m = 0 := by omega
    exact ⟨by simp, fun _ => rfl, #[], fun _ _ => by simp [Builtin.firstCells], by simp; exact .nil⟩
  · cases h
    obtain rfl : m = 0 := by omega
    cases hs with
    | @emp a =>
      refine ⟨by simp, fun _ => rfl, #[], fun w' _ => ?_, by simp; exact .nil⟩
      cases a with
      | none => simp [Builtin.firstCells]
      | some a => simp [Builtin.firstCells, loadCells, loadCellsFrom]
  · split at h
    · rename_i hl
      cases h
      cases hs with
      | @imm0 a cap =>
        obtain rfl : m = 0 := by omega
        refine ⟨by simp, fun _ => rfl, #[], fun w' _ => ?_, by simp; exact .nil⟩
        cases a with
        | none => simp [Builtin.firstCells]
        | some a => simp [Builtin.firstCells, loadCells, loadCellsFrom]
      | @imm _ cap _ a f hlen hp hc hr => exact ⟨hl, fun _ => rfl, fin a _ _ ⟨f, hc, hr⟩ hl⟩
    · cases h
  · rename_i b off len ver sz'
    split at h
    · rename_i k hk
      split at h
      · rename_i hc
        split at h
        · rename_i l hl
          cases h
          cases hs with
          | @sl _ _ _ _ _ cap a k' hk' hver hlen hq =>
            rw [hk] at hk'; cases hk'
            obtain ⟨c, hcμ, rfl, _, _, _, _⟩ := hq hc.1.symm
            have hA := (At.of_block hI hcμ hk).cut hl
            rw [Addr.add_lit, Nat.zero_add] at hA
            exact ⟨(cut_eq hl).2, fun _ => rfl, fin _ _ _ hA (cut_eq hl).2⟩
        · cases h
      · cases h
    · cases h
  · split at h
    · rename_i s hsz
      cases h
      cases hs
      subst hsz
      refine ⟨by simp, fun _ => rfl, (s.extract 0 m).data.map (fun b => .int .u8 b.toNat), fun _ _ => by simp [Builtin.firstCells], ?_⟩
      refine Rels.of_get (by simp) fun j v x hv hx => ?_
      simp only [Nat.mul_one, List.getElem?_take, List.getElem?_map] at hv
      split at hv
      · rename_i hjm
        simp only [Array.toList_map, List.getElem?_map] at hx
        have hex : (s.extract 0 m).data.toList[j]? = s.data.toList[j]? := by
          have : (s.extract 0 m).data = s.data.extract 0 m := by simp [ByteArray.data_extract]
          rw [this]
          simp [List.extract_eq_take_drop, hjm]
        rw [hex] at hx
        cases hb : s.data.toList[j]? with
        | none => rw [hb] at hv; cases hv
        | some b =>
          rw [hb] at hv hx
          simp at hv hx
          subst hv; subst hx
          exact .int _ _
      · cases hv
    · cases h
  · cases h


theorem src_rels (hI : Inv T μ w) {sz : Nat} {s : AV} {x : Value} (hs : Rel T μ w s x) {n : Nat} {cells : List AV} {rd : List Nat} (h : srcA T sz s = some (n, cells, rd)) :
    cells.length = n * sz ∧ (∀ w, (Builtin.lenOf x).run P w = .ok n w) ∧ ∃ xs : Array Value, (∀ w' : World, w'.heap = w.heap → (Builtin.firstCells sz n x).run P w' = .ok xs w') ∧ Rels T μ w cells xs.toList := by
  obtain ⟨h1, h2, xs, h3, h4⟩ := src_sound (P := P) hI hs h n (Nat.le_refl _)
  rw [List.take_of_length_le (Nat.le_of_eq h1)] at h4
  exact ⟨h1, h2, xs, h3, h4⟩

theorem drew_inv (hI : Inv T μ w) : Inv T μ w.drew ∧ Evo T μ w T μ w.drew := hI.of_heap rfl rfl rfl rfl

/-- The first cells of what is appended to. -/
theorem old_cells (hI : Inv T μ w) {b off len ver sz : Nat} {k : Blk} {x : Value} (hs : Rel T μ w (.sl b off len ver sz) x) (hk : T b = some k) (hv : ver = k.ver) :
    ∃ a cap c, x = .slice (some a) len cap ∧ μ b = some c ∧ a = ⟨c.1, off, none⟩ ∧ sz = k.sz ∧ len ≤ cap ∧ off + len * sz ≤ k.cells.length ∧ k.cells.length ≤ off + cap * sz ∧ off + cap * sz ≤ c.2 ∧
      ∃ xs : Array Value, (Builtin.firstCells sz len x).run P w = .ok xs w ∧ Rels T μ w ((k.cells.drop off).take (len * sz)) xs.toList := by
  cases hs with
  | @sl _ _ _ _ _ cap a k' hk' hver hlen hq =>
    rw [hk] at hk'; cases hk'
    obtain ⟨c, hc, rfl, h0, h1, h2, h3⟩ := hq hv
    refine ⟨_, cap, c, rfl, hc, rfl, h0, hlen, h1, h2, h3, ?_⟩
    have hA := (At.of_block hI hc hk).sub off (len * sz)
    rw [Addr.add_lit, Nat.zero_add] at hA
    obtain ⟨xs, hr, hx⟩ := hA.list
    have hload := run_loadCells_list (P := P) w _ xs hx
    have : xs.length = len * sz := by rw [hr.1]; simp; omega
    rw [this] at hload
    exact ⟨xs.toArray, by simp [Builtin.firstCells, hload], by simpa using hr⟩

theorem zeroCells_size (z : Array Value) (n : Nat) : (Builtin.zeroCells z n).size = n * z.size := by simp [Builtin.zeroCells]

/-- A slice in its own new block. -/
theorem grown_new (hI : Inv T μ w) {id : Nat} (hT : T id = none) (hμ : μ id = none) {sz n newCap : Nat} {cells : List AV} {rd : List Nat} {xs rest : Array Value} {e : TypeId} (hx : Rels T μ w cells xs.toList) (h1 : cells.all AV.one = true) (hl : cells.length = n * sz)
    (hrest : rest.size = (newCap - n) * sz) (hcap : n ≤ newCap) :
    ∃ μ', Out T μ w id ⟨.sl id 0 n 0 sz, rd, none, some ⟨sz, 0, cells⟩⟩ μ' (w.drew.alloc (.cells (#[] ++ xs ++ rest) e)) (.slice (some ⟨w.drew.heap.size, 0, none⟩) n newCap) := by
  obtain ⟨hI1, ev1⟩ := drew_inv hI
  have hxs : xs.size = n * sz := by rw [← hl]; simpa using hx.1
  have hsize : (#[] ++ xs ++ rest).size = newCap * sz := by
    simp [hxs, hrest]
    rw [← Nat.add_mul]; congr 1; omega
  have out := Out.new (rd := rd) hI1 hT hμ (k := ⟨sz, 0, cells⟩) (cs := #[] ++ xs ++ rest) (e := e) (r := .sl id 0 n 0 sz) (x := .slice (some ⟨w.drew.heap.size, 0, none⟩) n newCap) h1
    (by
      have : (#[] ++ xs ++ rest).toList.take cells.length = xs.toList := by
        rw [hl, ← hxs]; simp
      rw [this]; exact hx.mono ev1)
    (Rel.sl_new (k := ⟨sz, 0, cells⟩) (upd_same _ _ _) (upd_same _ _ _) hcap (Nat.le_of_eq hl.symm) (by rw [hl]; exact Nat.mul_le_mul_right _ hcap) (Nat.le_of_eq hsize.symm))
  exact ⟨_, out.inv, out.rel, ev1.trans out.evo, out.none, out.same⟩

/-- A slice that outgrows its block moves to another. -/
theorem grown_move (hI : Inv T μ w) (id : Nat) {b len ver sz n newCap : Nat} {k : Blk} {c : Nat × Nat} {cells : List AV} {rd : List Nat} {old xs rest : Array Value} {e : TypeId} (hc : μ b = some c) (hk : T b = some k) (hb : b ≠ id) (hv : ver = k.ver)
    (hold : Rels T μ w (k.cells.take (len * sz)) old.toList) (hlen : len * sz ≤ k.cells.length) (hall : k.cells.all AV.one = true)
    (hx : Rels T μ w cells xs.toList) (h1 : cells.all AV.one = true) (hl : cells.length = n * sz) (hrest : rest.size = (newCap - (len + n)) * sz) (hcap : len + n ≤ newCap) :
    ∃ μ', Out T μ w id ⟨.sl b 0 (len + n) (ver + 1) sz, rd, some (b, ⟨sz, ver + 1, k.cells.take (len * sz) ++ cells⟩), none⟩ μ' (w.drew.alloc (.cells (old ++ xs ++ rest) e)) (.slice (some ⟨w.drew.heap.size, 0, none⟩) (len + n) newCap) := by
  obtain ⟨hI1, ev1⟩ := drew_inv hI
  have hxs : xs.size = n * sz := by rw [← hl]; simpa using hx.1
  have hos : old.size = len * sz := by have := hold.1; simp at this; omega
  have hsize : (old ++ xs ++ rest).size = newCap * sz := by
    simp [hos, hxs, hrest]
    rw [← Nat.add_mul, ← Nat.add_mul]; congr 1; omega
  have hkl : (k.cells.take (len * sz) ++ cells).length = (len + n) * sz := by simp [hl, Nat.add_mul]; omega
  have hall' : (k.cells.take (len * sz) ++ cells).all AV.one = true := by
    simp only [List.all_append, Bool.and_eq_true]
    exact ⟨List.all_eq_true.2 fun a ha => List.all_eq_true.1 hall a (List.mem_of_mem_take ha), h1⟩
  have hrel : Rels T μ w.drew (k.cells.take (len * sz) ++ cells) ((old ++ xs ++ rest).toList.take (k.cells.take (len * sz) ++ cells).length) := by
    have : (old ++ xs ++ rest).toList.take (k.cells.take (len * sz) ++ cells).length = old.toList ++ xs.toList := by
      rw [hkl]
      have : (old.toList ++ xs.toList).length = (len + n) * sz := by simp [hos, hxs, Nat.add_mul]
      rw [← this]; simp only [Array.toList_append]; exact List.take_left
    rw [this]
    exact (hold.mono ev1).append (hx.mono ev1)
  obtain ⟨inv, ev2⟩ := hI1.move (k' := ⟨sz, ver + 1, k.cells.take (len * sz) ++ cells⟩) (cs := old ++ xs ++ rest) (e := e) hc hk (by simp; omega) hall' hrel
  refine ⟨_, inv, ?_, ev1.trans ev2, fun i hi h => ?_, fun i hi h => ?_⟩
  · exact .sl (upd_same _ _ _) (Nat.le_refl _) hcap fun _ => ⟨_, upd_same _ _ _, rfl, rfl, by simp only [Nat.zero_add]; exact Nat.le_of_eq hkl.symm, by simp only [Nat.zero_add]; rw [hkl]; exact Nat.mul_le_mul_right _ hcap, by simp only [Nat.zero_add]; exact Nat.le_of_eq hsize.symm⟩
  · rw [upd_other]; exact h
    intro e; subst e; rw [hc] at h; cases h
  · rw [upd_other]
    intro e; subst e; exact h _ rfl

/-- A slice grows where it lies, beyond what is known of its block. -/
theorem grown_here (hI : Inv T μ w) (id : Nat) {b len ver sz n cap : Nat} {k : Blk} {c : Nat × Nat} {cells : List AV} {rd : List Nat} {xs : Array Value} (hc : μ b = some c) (hk : T b = some k) (hv : ver = k.ver)
    (hlen : len * sz ≤ k.cells.length) (hx : Rels T μ w cells xs.toList) (h1 : cells.all AV.one = true) (hl : cells.length = n * sz) (hroom : len + n ≤ cap) (hcap : cap * sz ≤ c.2) :
    ∃ w', (storeCells ⟨c.1, len * sz, none⟩ xs.toList).run P w = .ok () w' ∧ Out T μ w id ⟨.sl b 0 (len + n) (ver + 1) sz, rd, some (b, ⟨sz, ver + 1, k.cells.take (len * sz) ++ cells⟩), none⟩ μ w' (.slice (some ⟨c.1, 0, none⟩) (len + n) cap) := by
  obtain ⟨k', hk', cs, e, hh, hcs, hall, hr⟩ := hI.blk b c hc
  rw [hk] at hk'; cases hk'
  have hxs : xs.toList.length = n * sz := by rw [← hl]; simpa using hx.1
  have hm : len * sz + n * sz ≤ cap * sz := by rw [← Nat.add_mul]; exact Nat.mul_le_mul_right _ hroom
  have hcl : k.cells.length ≤ cs.size := by have := hr.1; simp at this; omega
  have hrun := run_storeCells_at P c.1 (len * sz) e xs.toList 0 cs w hh (by omega) (hx.one h1)
  simp only [Nat.add_zero] at hrun
  have hkl : (k.cells.take (len * sz) ++ cells).length = (len + n) * sz := by simp [hl, Nat.add_mul]; omega
  have hall' : (k.cells.take (len * sz) ++ cells).all AV.one = true := by
    simp only [List.all_append, Bool.and_eq_true]
    exact ⟨List.all_eq_true.2 fun a ha => List.all_eq_true.1 hall a (List.mem_of_mem_take ha), h1⟩
  have hrel : Rels T μ w (k.cells.take (len * sz) ++ cells) ((cs.toList.take (len * sz) ++ xs.toList ++ cs.toList.drop (len * sz + xs.toList.length)).toArray.toList.take (k.cells.take (len * sz) ++ cells).length) := by
    have : (cs.toList.take (len * sz) ++ xs.toList ++ cs.toList.drop (len * sz + xs.toList.length)).toArray.toList.take (k.cells.take (len * sz) ++ cells).length = cs.toList.take (len * sz) ++ xs.toList := by
      rw [hkl]
      have : (cs.toList.take (len * sz) ++ xs.toList).length = (len + n) * sz := by
        rw [List.length_append, hxs, List.length_take, Nat.add_mul]; simp; omega
      rw [← this]; exact List.take_left
    rw [this]
    refine Rels.append ?_ hx
    have := hr.take (len * sz)
    rw [List.take_take, Nat.min_eq_left hlen] at this
    exact this
  have hsz : (cs.toList.take (len * sz) ++ xs.toList ++ cs.toList.drop (len * sz + xs.toList.length)).toArray.size = cs.size := by
    simp only [List.size_toArray, List.length_append, List.length_take, List.length_drop, Array.length_toList, hxs]; omega
  obtain ⟨inv, ev⟩ := hI.write (k' := ⟨sz, ver + 1, k.cells.take (len * sz) ++ cells⟩) hc hk hh hsz hcs (.inr (by simp; omega)) hall' hrel
  refine ⟨_, hrun, inv, ?_, ev, fun _ _ h => h, fun _ _ _ => rfl⟩
  exact .sl (upd_same _ _ _) (Nat.le_refl _) hroom fun _ => ⟨c, hc, rfl, rfl, by simp only [Nat.zero_add]; exact Nat.le_of_eq hkl.symm, by simp only [Nat.zero_add]; rw [hkl]; exact Nat.mul_le_mul_right _ hroom, by simp only [Nat.zero_add]; exact hcap⟩

/-- What is appended: the cells that are found at the source, or zeros. -/
def Source (P : Program) (el : TypeId) (sz bytes : Nat) (und : TypeDesc) (x : Value) (n : Nat) (new : Array Value) (w : World) : Prop :=
  (((∃ e', und = .slice e') ∨ und = .string) ∧ (∀ w', w'.heap = w.heap → (Builtin.lenOf x).run P w' = .ok n w' ∧ (Builtin.firstCells sz n x).run P w' = .ok new w')) ∨
  (∃ k l zv, und = .int k ∧ x = .int .i64 l ∧ 0 ≤ l ∧ n = l.toNat ∧ l ≤ 1048576 ∧ bytes ≤ 1048576 ∧ (∀ w, (zeroValue el).run P w = .ok zv w) ∧ zv.cells.size = sz ∧ 0 < sz ∧ new = Builtin.zeroCells zv.cells n)

section
variable {ts : Array TypeId} {ty : TypeId} {as : Array Value} {t u el : TypeId} {j iu : TI} {ti : TypeInfo} {base : Option Addr} {sLen sCap n : Nat} {x : Value} {new : Array Value}

theorem zeros_new {zv : Value} (hz : ∀ w, (zeroValue el).run P w = .ok zv w) {sz : Nat} (h1 : zv.cells.size = sz) (h0 : 0 < sz) :
    (if n * sz = 0 then (Pure.pure #[] : Sem (Array Value)) else do Pure.pure (Builtin.zeroCells (← zeroValue el).cells n)).run P w = .ok (Builtin.zeroCells zv.cells n) w := by
  split
  · rename_i hn
    have : n = 0 := by rcases Nat.mul_eq_zero.1 hn with h | h <;> omega
    subst this
    simp [Builtin.zeroCells]
  · simp [hz]

theorem append_room (h0 : ts[0]? = some t) (h1 : ts[1]? = some u) (a0 : as[0]? = some (.slice base sLen sCap)) (a1 : as[1]? = some x) (ht : P.underlying t = some (.slice el)) (oku : P.underlying u = some iu.und)
    (ok : TI.Ok P el j) (hti : P.info? el = some ti) (htb : ti.bytes = j.bytes) (hsrc : Source P el j.size j.bytes iu.und x n new w) (hroom : sLen + n ≤ sCap) {w' : World}
    (hst : match base with | some a => (storeCells (a.add (sLen * j.size)) new.toList).run P w = .ok () w' | none => w' = w) :
    (Builtin.append_ ts ty as).run P w = .ok (.slice base (sLen + n) sCap) w' := by
  rcases hsrc with ⟨hd, hs⟩ | ⟨k, l, zv, hd, rfl, hl0, rfl, hl1, hb1, hz, hzs, hpos, rfl⟩
  · obtain ⟨hs1, hs2⟩ := hs w rfl
    rcases hd with ⟨e', hd⟩ | hd
    · rw [hd] at oku
      simp only [Builtin.append_, h0, h1, a0, a1, Sem.run_bind, run_underlying ht, run_underlying oku, Result.andThen_ok, run_sizeOf ok, Sem.run_pure, hs1, Bool.false_eq_true, if_false, hroom, if_true, Bool.not_false, hs2]
      cases base with
      | none => subst hst; rfl
      | some a => simp only [Sem.run_bind, hst, Result.andThen_ok, Sem.run_pure]
    · rw [hd] at oku
      simp only [Builtin.append_, h0, h1, a0, a1, Sem.run_bind, run_underlying ht, run_underlying oku, Result.andThen_ok, run_sizeOf ok, Sem.run_pure, hs1, Bool.false_eq_true, if_false, hroom, if_true, Bool.not_false, hs2]
      cases base with
      | none => subst hst; rfl
      | some a => simp only [Sem.run_bind, hst, Result.andThen_ok, Sem.run_pure]
  · rw [hd] at oku
    have htyp : ∀ w : World, (typeInfo el).run P w = .ok ti w := fun w => by simp [typeInfo, hti]
    have wl : IntKind.i64.wrap l = l := by unfold IntKind.wrap IntKind.bits IntKind.signed; simp; omega
    have hneg : ¬ l < 0 := by omega
    have hbig : ¬ l * (ti.bytes : Int) > 2 ^ 48 := by
      have hb : (ti.bytes : Int) ≤ 1048576 := by rw [htb]; omega
      have : l * (ti.bytes : Int) ≤ 1048576 * 1048576 := Int.mul_le_mul hl1 hb (by omega) (by omega)
      omega
    have hznew := zeros_new (P := P) (w := w) (n := l.toNat) hz hzs hpos
    simp only [Builtin.append_, h0, h1, a0, a1, Sem.run_bind, run_underlying ht, run_underlying oku, Result.andThen_ok, run_sizeOf ok, Sem.run_pure, if_true, asInt, asIntOf_int, wl, hneg, if_false, htyp, hbig, hroom, Bool.not_true, Bool.false_eq_true, hznew]
    cases base with
    | none => subst hst; rfl
    | some a => simp only [Sem.run_bind, hst, Result.andThen_ok, Sem.run_pure]

theorem append_grow (h0 : ts[0]? = some t) (h1 : ts[1]? = some u) (a0 : as[0]? = some (.slice base sLen sCap)) (a1 : as[1]? = some x) (ht : P.underlying t = some (.slice el)) (oku : P.underlying u = some iu.und)
    (ok : TI.Ok P el j) (hti : P.info? el = some ti) (htb : ti.bytes = j.bytes) (hpos : 0 < j.bytes) (hsrc : Source P el j.size j.bytes iu.und x n new w) (hroom : ¬ sLen + n ≤ sCap)
    (hsmall : sLen + n ≤ 1048576) (hbytes : j.bytes ≤ 1048576) {old : Array Value} (hold : (Builtin.firstCells j.size sLen (.slice base sLen sCap)).run P w.drew = .ok old w.drew) {zv : Value} (hz : ∀ w, (zeroValue el).run P w = .ok zv w) :
    ∃ newCap, sLen + n ≤ newCap ∧ (Builtin.append_ ts ty as).run P w = .ok (.slice (some ⟨w.drew.heap.size, 0, none⟩) (sLen + n) newCap) (w.drew.alloc (.cells (old ++ new ++ Builtin.zeroCells zv.cells (newCap - (sLen + n))) el)) := by
  have htyp : ∀ w : World, (typeInfo el).run P w = .ok ti w := fun w => by simp [typeInfo, hti]
  have hq : (choose (.appendCap (sLen + n) sCap el)).run P w = .ok (Question.cut (.appendCap (sLen + n) sCap el) (w.tape w.drawn (.appendCap (sLen + n) sCap el))) w.drew := by simp [Question.forced]
  have hge : sLen + n ≤ Question.cut (.appendCap (sLen + n) sCap el) (w.tape w.drawn (.appendCap (sLen + n) sCap el)) := by simp [Question.cut]
  generalize Question.cut (.appendCap (sLen + n) sCap el) (w.tape w.drawn (.appendCap (sLen + n) sCap el)) = newCap at hq hge
  refine ⟨newCap, hge, ?_⟩
  have hcap := growslice_fits (need := sLen + n) (old := sCap) (bytes := ti.bytes) (by omega) (by
    have : (sLen + n) * ti.bytes ≤ 1048576 * 1048576 := Nat.mul_le_mul hsmall (by omega)
    omega)
  have hnot : ¬ Builtin.nextslicecap (sLen + n) sCap * ti.bytes > 2 ^ 48 := by omega
  have hmax : ¬ ((sLen + n : Nat) : Int) > IntKind.i64.max := by unfold IntKind.max IntKind.bits IntKind.signed; simp; omega
  rcases hsrc with ⟨hd, hs⟩ | ⟨k, l, zv', hd, rfl, hl0, rfl, hl1, hb1, hz', hzs, hpos', rfl⟩
  · obtain ⟨hs1, _⟩ := hs w rfl
    obtain ⟨_, hs2⟩ := hs w.drew rfl
    rcases hd with ⟨e', hd⟩ | hd
    · rw [hd] at oku
      simp only [Builtin.append_, h0, h1, a0, a1, Sem.run_bind, run_underlying ht, run_underlying oku, Result.andThen_ok, run_sizeOf ok, Sem.run_pure, hs1, Bool.false_eq_true, if_false, hroom, htyp, hmax, false_and, hnot, hq, run_askRoom, hold, Bool.not_false, if_true, hs2, hz, newRow, run_newObj]
      rfl
    · rw [hd] at oku
      simp only [Builtin.append_, h0, h1, a0, a1, Sem.run_bind, run_underlying ht, run_underlying oku, Result.andThen_ok, run_sizeOf ok, Sem.run_pure, hs1, Bool.false_eq_true, if_false, hroom, htyp, hmax, false_and, hnot, hq, run_askRoom, hold, Bool.not_false, if_true, hs2, hz, newRow, run_newObj]
      rfl
  · rw [hd] at oku
    have wl : IntKind.i64.wrap l = l := by unfold IntKind.wrap IntKind.bits IntKind.signed; simp; omega
    have hneg : ¬ l < 0 := by omega
    have hbig : ¬ l * (ti.bytes : Int) > 2 ^ 48 := by
      have hb : (ti.bytes : Int) ≤ 1048576 := by rw [htb]; omega
      have : l * (ti.bytes : Int) ≤ 1048576 * 1048576 := Int.mul_le_mul hl1 hb (by omega) (by omega)
      omega
    have hznew := zeros_new (P := P) (w := w.drew) (n := l.toNat) hz' hzs hpos'
    have hzz : zv' = zv := by have h1 := hz' w; rw [hz w] at h1; cases h1; rfl
    subst hzz
    simp only [Builtin.append_, h0, h1, a0, a1, Sem.run_bind, run_underlying ht, run_underlying oku, Result.andThen_ok, run_sizeOf ok, Sem.run_pure, if_true, asInt, asIntOf_int, wl, hneg, if_false, htyp, hbig, hroom, hmax, false_and, hnot, hq, run_askRoom, hold, Bool.not_true, Bool.false_eq_true, hznew, hz, newRow, run_newObj]
    rfl
end
end
end Go.Proofs.YteaifkpmfbgekaaGreatDoor.M

namespace Go.Proofs.YteaifkpmfbgekaaGreatDoor.M
open Go
section
variable {P : Program} {E : Env} {T : Sto} {μ : Mu} {w : World}

theorem onto_sound (hI : Inv T μ w) {id : Nat} (hT : T id = none) (hμ : μ id = none) {ts : Array TypeId} {ty : TypeId} {as : Array Value} {t u el : TypeId} {j iu : TI} {ti : TypeInfo} {n : Nat} {s : AV} {av x : Value} {new : Array Value} {cells : List AV} {rd : List Nat}
    (h0 : ts[0]? = some t) (h1 : ts[1]? = some u) (a0 : as[0]? = some av) (a1 : as[1]? = some x) (ht : P.underlying t = some (.slice el)) (oku : P.underlying u = some iu.und)
    (ok : TI.Ok P el j) (hti : P.info? el = some ti) (htb : ti.bytes = j.bytes) (hpos : 0 < j.bytes) (hsz : 0 < j.size) (hbytes : j.bytes ≤ 1048576) {zv : Value} (hz : ∀ w, (zeroValue el).run P w = .ok zv w) (hzs : zv.cells.size = j.size)
    (hsrc : Source P el j.size j.bytes iu.und x n new w) (hs : Rel T μ w s av) (hnew : Rels T μ w cells new.toList) (hone : cells.all AV.one = true) (hl : cells.length = n * j.size) (hn : n * j.size ≤ mostCells)
    {e : Eff} (h : ontoA T id j.size s n cells rd = some e) : Runs P T μ w id e (Builtin.append_ ts ty as) := by
  have hnn : n ≤ n * j.size := Nat.le_mul_of_pos_right _ hsz
  unfold ontoA at h
  split at h
  · rename_i hn0
    subst hn0
    have hnil : cells = [] := List.eq_nil_of_length_eq_zero (by simpa using hl)
    subst hnil
    have hne : new = #[] := by
      have := hnew.1
      simp at this
      exact this
    subst hne
    have fin : ∀ base sLen sCap, av = .slice base sLen sCap → sLen ≤ sCap → ∀ rd, Runs P T μ w id ⟨s, rd, none, none⟩ (Builtin.append_ ts ty as) := by
      intro base sLen sCap hav hle rd
      subst hav
      refine ⟨_, w, μ, append_room h0 h1 a0 a1 ht oku ok hti htb hsrc (by omega) ?_, .pure hI (by simpa using hs)⟩
      cases base <;> simp [storeCells]
    split at h
    · cases h; cases hs; exact fin _ _ _ rfl (Nat.le_refl _) rd
    · cases h; cases hs; exact fin _ _ _ rfl (Nat.le_refl _) rd
    · cases h
      cases hs with
      | sl hk hv hlen hq => exact fin _ _ _ rfl hlen rd
    · cases h
  · rename_i hn0
    have newblock : ∀ base, av = .slice base 0 0 → Runs P T μ w id ⟨.sl id 0 n 0 j.size, rd, none, some ⟨j.size, 0, cells⟩⟩ (Builtin.append_ ts ty as) := by
      intro base hav
      subst hav
      have hold : (Builtin.firstCells j.size 0 (.slice base 0 0)).run P w.drew = .ok #[] w.drew := by
        cases base <;> simp [Builtin.firstCells, loadCells, loadCellsFrom]
      obtain ⟨newCap, hge, hrun⟩ := append_grow (ty := ty) h0 h1 a0 a1 ht oku ok hti htb hpos hsrc (by omega) (by unfold mostCells at hn; omega) hbytes hold hz
      obtain ⟨μ', out⟩ := grown_new (rd := rd) hI hT hμ (rest := Builtin.zeroCells zv.cells (newCap - (0 + n))) (e := el) hnew hone hl (by rw [zeroCells_size, hzs, Nat.zero_add]) (newCap := newCap) (by omega)
      rw [Nat.zero_add] at hrun out
      exact ⟨_, _, μ', hrun, out⟩
    split at h
    · cases h; cases hs; exact newblock _ rfl
    · cases h; cases hs; exact newblock _ rfl
    · rename_i b off len ver sz'
      split at h
      · cases h
      · rename_i k hk
        split at h
        · rename_i hc
          obtain ⟨c1, c2⟩ := hc
          have hbid : b ≠ id := fun e => by subst e; rw [hT] at hk; cases hk
          obtain ⟨a, cap, c, rfl, hcμ, rfl, hsz', hlen, q1, q2, q3, xs0, hx0, hr0⟩ := old_cells (P := P) hI hs hk c1.symm
          obtain rfl : sz' = j.size := by rw [hsz', c2]
          split at h
          · rename_i hfit
            cases h
            have hroom : len + n ≤ cap := Nat.le_of_mul_le_mul_right (by omega : (len + n) * j.size ≤ cap * j.size) hsz
            have hfit' : off + len * j.size + cells.length ≤ k.cells.length := by rw [hl]; have := Nat.add_mul len n j.size; omega
            obtain ⟨w', hst, inv, ev⟩ := storeCells_sound (P := P) hI hcμ hk hnew hone hfit'
            refine ⟨_, w', μ, append_room h0 h1 a0 a1 ht oku ok hti htb hsrc hroom (by simpa [Addr.add_lit] using hst), inv, ?_, ev, fun _ _ h => h, fun _ _ _ => rfl⟩
            exact .sl (upd_same _ _ _) (Nat.le_of_eq c1.symm) hroom fun _ => ⟨c, hcμ, rfl, hsz', by rw [paste_length]; exact hfit, by rw [paste_length]; exact q2, q3⟩
          · split at h
            · rename_i hc2
              obtain ⟨d1, d2, d3⟩ := hc2
              subst d1
              cases h
              by_cases hroom : len + n ≤ cap
              · obtain ⟨w', hst, out⟩ := grown_here (P := P) (rd := b :: rd) hI id hcμ hk c1.symm d3 hnew hone hl hroom (by omega)
                exact ⟨_, w', μ, append_room h0 h1 a0 a1 ht oku ok hti htb hsrc hroom (by simpa [Addr.add_lit] using hst), out⟩
              · obtain ⟨hI1, ev1⟩ := drew_inv hI
                obtain ⟨a', cap', c', e1, _, _, _, _, _, _, _, old, hold, hrold⟩ := old_cells (P := P) hI1 (hs.mono ev1) hk c1.symm
                cases e1
                obtain ⟨k2, hk2, cs2, e2, _, _, hall, _⟩ := hI.blk b c hcμ
                rw [hk] at hk2; cases hk2
                have hrold' : Rels T μ w (k.cells.take (len * j.size)) old.toList := by
                  obtain ⟨hI2, ev2⟩ := hI1.of_heap (w' := w) rfl rfl rfl rfl
                  have := hrold.mono ev2
                  simpa using this
                have hsm : len + n ≤ 1048576 := by
                  have : len + n ≤ (len + n) * j.size := Nat.le_mul_of_pos_right _ hsz
                  unfold mostCells at d2; omega
                obtain ⟨newCap, hge, hrun⟩ := append_grow (ty := ty) h0 h1 a0 a1 ht oku ok hti htb hpos hsrc hroom hsm hbytes hold hz
                obtain ⟨μ', out⟩ := grown_move (rd := b :: rd) hI id (rest := Builtin.zeroCells zv.cells (newCap - (len + n))) (e := el) hcμ hk hbid c1.symm hrold' d3 hall hnew hone hl (by rw [zeroCells_size, hzs]) hge
                exact ⟨_, _, μ', hrun, out⟩
            · cases h
        · cases h
    · cases h

theorem append_sound (hI : Inv T μ w) (hE : E.Types P) {id : Nat} (hT : T id = none) (hμ : μ id = none) {ts : Array TypeId} {ty : TypeId} {args : List AV} {as : Array Value} (ha : Rels T μ w args as.toList) {e : Eff}
    (h : appendA E T id ts.toList args = some e) : Runs P T μ w id e (Builtin.append_ ts ty as) := by
  unfold appendA at h
  split at h
  · rename_i t u s x hts
    obtain ⟨av, hav, hs⟩ := ha.get (j := 0) (v := s) rfl
    obtain ⟨bv, hbv, hx⟩ := ha.get (j := 1) (v := x) rfl
    have h0 : ts[0]? = some t := by have := congrArg (·[0]?) hts; simpa using this
    have h1 : ts[1]? = some u := by have := congrArg (·[1]?) hts; simpa using this
    have a0 : as[0]? = some av := by simpa using hav
    have a1 : as[1]? = some bv := by simpa using hbv
    clear hav hbv
    split at h
    · rename_i el _ _ _ _ iu hi hu
      have hut := (hE.info t _ hi).und
      have oku := (hE.info u _ hu).und
      split at h
      · cases h
      · rename_i j hj
        have ok := hE.info el j hj
        split at h
        · cases h
        · rename_i z hz
          obtain ⟨zv, hzrun, hzr, hz1, hzs⟩ := zero_all (P := P) ok hz
          obtain ⟨ti, hti, hts', htb, _⟩ := ok.info
          split at h
          · rename_i hc
            obtain ⟨c1, c2, c3, c4⟩ := hc
            have hzs' : zv.cells.size = j.size := by rw [hzs, c2]
            have bylist : ∀ n cells rd, (∃ e', iu.und = .slice e') ∨ iu.und = .string → srcA T j.size x = some (n, cells, rd) → n * j.size ≤ mostCells → cells.all AV.one = true → ontoA T id j.size s n cells rd = some e → Runs P T μ w id e (Builtin.append_ ts ty as) := by
              intro n cells rd hd hsrc hn hone honto
              obtain ⟨hl, hlen, xs, hrun, hrel⟩ := src_rels (P := P) hI hx hsrc
              have hS : Source P el j.size j.bytes iu.und bv n xs w := .inl ⟨hd, fun w' hh => ⟨hlen w', hrun w' hh⟩⟩
              exact onto_sound hI hT hμ h0 h1 a0 a1 hut oku ok hti htb c3 c1 c4 hzrun hzs' hS hs hrel hone hl hn honto
            split at h
            · rename_i k l hd
              split at h
              · rename_i hc2
                cases hx
                have hl1 : l ≤ 1048576 := by
                  have : l.toNat ≤ l.toNat * j.size := Nat.le_mul_of_pos_right _ c1
                  have := hc2.2
                  unfold mostCells at this; omega
                have hzc : (Builtin.zeroCells zv.cells l.toNat).toList = M.repl l.toNat zv.cells.toList := repl_eq zv.cells l.toNat
                exact onto_sound hI hT hμ h0 h1 a0 a1 hut oku ok hti htb c3 c1 c4 hzrun hzs' (.inr ⟨_, l, zv, hd, rfl, hc2.1, rfl, hl1, c4, hzrun, hzs', c1, rfl⟩) hs
                  (by rw [hzc]; exact (hzr T μ w).repl _) (repl_all _ hz1 _) (by rw [repl_length, c2]) hc2.2 h
              · cases h
            · rename_i e' hd
              split at h
              · split at h
                · rename_i hc2; exact bylist _ _ _ (.inl ⟨_, hd⟩) (by assumption) hc2.1 hc2.2 h
                · cases h
              · cases h
            · rename_i hd
              split at h
              · split at h
                · rename_i hc2; exact bylist _ _ _ (.inr hd) (by assumption) hc2.1 hc2.2 h
                · cases h
              · cases h
            · cases h
          · cases h
    · cases h
  · cases h

theorem copy_sound (hI : Inv T μ w) (hE : E.Types P) (id : Nat) {ts : Array TypeId} {ty : TypeId} {args : List AV} {as : Array Value} (ha : Rels T μ w args as.toList) {e : Eff}
    (h : copyA E T ts.toList args = some e) : Runs P T μ w id e (Builtin.copy_ ts ty as) := by
  unfold copyA at h
  split at h
  · rename_i t tr d x hts
    obtain ⟨av, hav, hd⟩ := ha.get (j := 0) (v := d) rfl
    obtain ⟨bv, hbv, hx⟩ := ha.get (j := 1) (v := x) rfl
    have h0 : ts[0]? = some t := by have := congrArg (·[0]?) hts; simpa using this
    have a0 : as[0]? = some av := by simpa using hav
    have a1 : as[1]? = some bv := by simpa using hbv
    clear hav hbv
    split at h
    · rename_i el _ _ _ _ hi
      have hut := (hE.info t _ hi).und
      split at h
      · cases h
      · rename_i j hj
        have ok := hE.info el j hj
        split at h
        · rename_i n cells rd hsrc
          cases h
          cases hd
          obtain ⟨hl, hlen, xs, hrun, hrel⟩ := src_sound (P := P) hI hx hsrc 0 (Nat.zero_le _)
          refine .pure hI ⟨_, ?_, .int .i64 0⟩
          simp [Builtin.copy_, h0, a0, a1, run_underlying hut, hlen, run_sizeOf ok, hrun w rfl, goInt]
        · rename_i n cells rd hsrc
          cases h
          cases hd with
          | @emp a =>
            obtain ⟨hl, hlen, xs, hrun, hrel⟩ := src_sound (P := P) hI hx hsrc 0 (Nat.zero_le _)
            have hxs : xs = #[] := by have := hrel.1; simp at this; exact this
            subst hxs
            refine .pure hI ⟨_, ?_, .int .i64 0⟩
            cases a <;> simp [Builtin.copy_, h0, a0, a1, run_underlying hut, hlen, run_sizeOf ok, hrun w rfl, goInt, storeCells]
        · rename_i b off len ver sz' n cells rd hsrc
          split at h
          · cases h
          · rename_i k hk
            dsimp only at h
            split at h
            · rename_i hc
              obtain ⟨c1, c2, c3, c4⟩ := hc
              cases h
              obtain ⟨hl, hlen, xs, hrun, hrel⟩ := src_sound (P := P) hI hx hsrc (Nat.min n len) (Nat.min_le_left _ _)
              obtain ⟨a, cap, c, rfl, hcμ, rfl, hsz', hlen', q1, q2, q3, _⟩ := old_cells (P := P) hI hd hk c1.symm
              have hone : (cells.take (Nat.min n len * j.size)).all AV.one = true := List.all_eq_true.2 fun a ha => List.all_eq_true.1 c4 a (List.mem_of_mem_take ha)
              have hfit : off + (cells.take (Nat.min n len * j.size)).length ≤ k.cells.length := by rw [List.length_take]; omega
              obtain ⟨w', hst, inv, ev⟩ := storeCells_sound (P := P) hI hcμ hk hrel hone hfit
              refine ⟨_, w', μ, ?_, inv, .int .i64 _, ev, fun _ _ h => h, fun _ _ _ => rfl⟩
              simp [Builtin.copy_, h0, a0, a1, run_underlying hut, hlen, run_sizeOf ok, hrun w rfl, hst, goInt]
            · cases h
        · cases h
    · cases h
  · cases h

theorem clear_sound (hI : Inv T μ w) (hE : E.Types P) (id : Nat) {ts : Array TypeId} {ty : TypeId} {args : List AV} {as : Array Value} (ha : Rels T μ w args as.toList) {e : Eff}
    (h : clearA E T ts.toList args = some e) : Runs P T μ w id e (Builtin.clear_ ts ty as) := by
  unfold clearA at h
  split at h
  · rename_i t b off len ver sz' hts
    obtain ⟨av, hav, hd⟩ := ha.get (j := 0) (v := .sl b off len ver sz') rfl
    have h0 : ts[0]? = some t := by have := congrArg (·[0]?) hts; simpa using this
    have a0 : as[0]? = some av := by simpa using hav
    clear hav
    split at h
    · rename_i el _ _ _ _ hi
      have hut := (hE.info t _ hi).und
      split at h
      · cases h
      · rename_i j hj
        have ok := hE.info el j hj
        split at h
        · cases h
        · rename_i z hz
          obtain ⟨zv, hzrun, hzr, hz1, hzs⟩ := zero_all (P := P) ok hz
          split at h
          · cases h
          · rename_i k hk
            split at h
            · rename_i hc
              obtain ⟨c0, c1, c2, c3, c4⟩ := hc
              cases h
              obtain ⟨a, cap, c, rfl, hcμ, rfl, hsz', hlen', q1, q2, q3, _⟩ := old_cells (P := P) hI hd hk c1.symm
              have hrel : Rels T μ w (M.repl len z) (Builtin.zeroCells zv.cells len).toList := by
                have hzc : (Builtin.zeroCells zv.cells len).toList = M.repl len zv.cells.toList := repl_eq zv.cells len
                rw [hzc]; exact (hzr T μ w).repl _
              obtain ⟨w', hst, inv, ev⟩ := storeCells_sound (P := P) hI hcμ hk hrel (repl_all _ hz1 _) (by rw [repl_length, c3]; exact c4)
              refine ⟨.tuple #[], w', μ, ?_, inv, .tup rfl (fun j hj => by simp at hj), ev, fun _ _ h => h, fun _ _ _ => rfl⟩
              obtain ⟨m, rfl⟩ : ∃ m, len = m + 1 := ⟨len - 1, by omega⟩
              simp [Builtin.clear_, h0, a0, run_underlying hut, hzrun, hst]
            · cases h
    · cases h
  · cases h

theorem builtin_sound (hI : Inv T μ w) (hE : E.Types P) {id : Nat} (hT : T id = none) (hμ : μ id = none) {b : Builtin} {ts : Array TypeId} {ty : TypeId} {cs : Array Bool} {args : List AV} {as : Array Value} (ha : Rels T μ w args as.toList) {e : Eff}
    (h : builtinA E T id b ts.toList args = some e) : ∃ x w' μ', (builtin b ts ty cs as).run P w = .ok (.value x) w' ∧ Out T μ w id e μ' w' x := by
  have lift : ∀ s : Sem Value, Runs P T μ w id e s → ∃ x w' μ', (do pure (.value (← s)) : Sem Next).run P w = .ok (.value x) w' ∧ Out T μ w id e μ' w' x := by
    rintro s ⟨x, w', μ', h1, h2⟩
    exact ⟨x, w', μ', by simp [h1], h2⟩
  unfold builtinA at h
  split at h
  · split at h
    · rename_i v hv
      cases h
      exact lift _ (.pure hI (len_sound hE ha hv))
    · cases h
  · split at h
    · rename_i v hv
      cases h
      exact lift _ (.pure hI (cap_sound hE ha hv))
    · cases h
  · exact lift _ (append_sound hI hE hT hμ ha h)
  · exact lift _ (copy_sound hI hE id ha h)
  · exact lift _ (clear_sound hI hE id ha h)
  · split at h
    · rename_i k x k' y
      split at h
      · rename_i hk
        subst hk
        cases h
        obtain ⟨a, ha0, hra⟩ := ha.get (j := 0) (v := .int k x) rfl
        obtain ⟨b, hb0, hrb⟩ := ha.get (j := 1) (v := .int k y) rfl
        cases hra; cases hrb
        have : as = #[.int k x, .int k y] := by
          apply Array.ext'
          have h1 := ha.1
          match as.toList, h1, ha0, hb0 with
          | [p, q], _, h2, h3 => simp at h2 h3; subst h2; subst h3; rfl
        subst this
        exact lift _ (.pure hI ⟨_, by simp only [Builtin.min_]; rfl, .int _ _⟩)
      · cases h
    · cases h
  · split at h
    · rename_i k x k' y
      split at h
      · rename_i hk
        subst hk
        cases h
        obtain ⟨a, ha0, hra⟩ := ha.get (j := 0) (v := .int k x) rfl
        obtain ⟨b, hb0, hrb⟩ := ha.get (j := 1) (v := .int k y) rfl
        cases hra; cases hrb
        have : as = #[.int k x, .int k y] := by
          apply Array.ext'
          have h1 := ha.1
          match as.toList, h1, ha0, hb0 with
          | [p, q], _, h2, h3 => simp at h2 h3; subst h2; subst h3; rfl
        subst this
        exact lift _ (.pure hI ⟨_, by simp only [Builtin.max_]; rfl, .int _ _⟩)
      · cases h
    · cases h
  · cases h

theorem opt_sound (hI : Inv T μ w) {sl : List AV} {a : Act} (hs : Rels T μ w sl a.tmps.toList) {x : Option Operand} {v : Option AV} (h : optA sl x = some v) : OptRel T μ w v (x.map a.eval) := by
  unfold optA at h
  split at h
  · cases h; exact .none
  · split at h
    · rename_i y hy; cases h; exact .some (opd_sound hI hs hy)
    · cases h

/-- Every operation that calls no function. -/
theorem eff_sound (hI : Inv T μ w) (hE : E.Types P) {sl : List AV} {a : Act} (hs : Rels T μ w sl a.tmps.toList) {id : Nat} (hT : T id = none) (hμ : μ id = none) {o : Oper} {e : Eff} (h : effA E sl T id o.op = some e) :
    ∃ x w' μ', ((execOp a.eval o).run P w = .ok (.value x) w' ∨ ((execOp a.eval o).run P w = .ok .skip w' ∧ x = undef)) ∧ Out T μ w id e μ' w' x := by
  have lift : ∀ s : Sem Value, execOp a.eval o = (do pure (.value (← s)) : Sem Next) → Runs P T μ w id e s →
      ∃ x w' μ', ((execOp a.eval o).run P w = .ok (.value x) w' ∨ ((execOp a.eval o).run P w = .ok .skip w' ∧ x = undef)) ∧ Out T μ w id e μ' w' x := by
    rintro s hs ⟨x, w', μ', h1, h2⟩
    exact ⟨x, w', μ', .inl (by rw [hs]; simp [h1]), h2⟩
  have liftP : ∀ (s : Sem Value) (v : Option AV), execOp a.eval o = (do pure (.value (← s)) : Sem Next) → liftE v = some e → (∀ r, v = some r → ∃ x, s.run P w = .ok x w ∧ Rel T μ w r x) →
      ∃ x w' μ', ((execOp a.eval o).run P w = .ok (.value x) w' ∨ ((execOp a.eval o).run P w = .ok .skip w' ∧ x = undef)) ∧ Out T μ w id e μ' w' x := by
    intro s v he hv hr
    cases v with
    | none => cases hv
    | some r => cases hv; exact lift s he (.pure hI (hr r rfl))
  obtain ⟨dst, op, type, pos, after, guard⟩ := o
  cases op
  case move x =>
    simp only [effA] at h
    exact liftP (pure (a.eval x)) _ rfl h fun r hr => ⟨_, rfl, opd_sound hI hs hr⟩
  case assign x =>
    simp only [effA] at h
    exact liftP (pure (a.eval x)) _ rfl h fun r hr => ⟨_, rfl, opd_sound hI hs hr⟩
  case pick c x y =>
    simp only [effA] at h
    split at h
    · rename_i t u v hc hx hy
      cases h
      have h1 := opd_sound hI hs hc
      generalize hce : a.eval c = cv at h1
      cases h1
      refine ⟨if t then a.eval x else a.eval y, w, μ, .inl ?_, .pure hI ?_⟩
      · simp [execOp, hce, asBool]
      · cases t
        · exact opd_sound hI hs hy
        · exact opd_sound hI hs hx
    · cases h
  case alloc t =>
    simp only [effA] at h
    split at h
    · rename_i i hi
      split at h
      · rename_i z hz
        split at h
        · cases h; exact lift _ rfl (alloc_sound hI hE hT hμ hi hz)
        · cases h
      · cases h
    · cases h
  case box t x =>
    simp only [effA] at h
    split at h
    · rename_i v hv
      split at h
      · rename_i h1
        cases h
        exact lift _ rfl (box_sound hI hT hμ t (opd_sound hI hs hv) h1)
      · cases h
    · cases h
  case build t parts =>
    simp only [effA] at h
    split at h
    · rename_i ps hps
      refine liftP _ _ rfl h fun r hr => build_sound hE (ps := ps) ?_ hr
      have := parts_sound hI hs hps
      simpa using this
    · cases h
  case buildSlice t len parts =>
    simp only [effA] at h
    split at h
    · rename_i ps hps
      refine lift _ rfl (buildSlice_sound hI hE hT hμ (ps := ps) ?_ h)
      have := parts_sound hI hs hps
      simpa using this
    · cases h
  case load t x =>
    simp only [effA] at h
    split at h
    · rename_i p hp
      obtain ⟨h1, h2, y, hy, hr⟩ := read_sound hI hE (opd_sound hI hs hp) h
      refine lift _ rfl ⟨y, w, μ, hy, ?_⟩
      obtain ⟨r, rd, wr, nw⟩ := e
      cases h1; cases h2
      exact .pure hI hr
    · cases h
  case store t p x =>
    simp only [effA] at h
    split at h
    · rename_i pv xv hp hx
      obtain ⟨w', hrun, out⟩ := store_sound hI hE id (opd_sound hI hs hp) (opd_sound hI hs hx) h
      exact ⟨undef, w', μ, .inr ⟨by simp [execOp, hrun], rfl⟩, out⟩
    · cases h
  case nilCheck x =>
    simp only [effA] at h
    split at h
    · rename_i b o v hx
      cases h
      have h1 := opd_sound hI hs hx
      generalize hxe : a.eval x = xv at h1
      cases h1 with
      | ptr hk hv hh => exact ⟨_, w, μ, .inl (by simp [execOp, hxe]), .pure hI (.ptr hk hv hh)⟩
    · rename_i l hx
      cases h
      have h1 := opd_sound hI hs hx
      generalize hxe : a.eval x = xv at h1
      cases h1 with
      | iptr hp hc hr => exact ⟨_, w, μ, .inl (by simp [execOp, hxe]), .pure hI (.iptr hp hc hr)⟩
    · rename_i f c hx
      cases h
      have h1 := opd_sound hI hs hx
      generalize hxe : a.eval x = xv at h1
      cases h1 with
      | fn hl hr => exact ⟨_, w, μ, .inl (by simp [execOp, hxe]), .pure hI (.fn hl hr)⟩
    · cases h
  case binOp op t x y yt =>
    simp only [effA] at h
    split at h
    · rename_i xv yv hx hy
      exact liftP _ _ rfl h fun r hr => bin_sound hE (opd_sound hI hs hx) (opd_sound hI hs hy) hr x y
    · cases h
  case unOp op t x =>
    simp only [effA] at h
    split at h
    · rename_i xv hx
      exact liftP _ _ rfl h fun r hr => un_sound (opd_sound hI hs hx) hr
    · cases h
  case convert s d x =>
    simp only [effA] at h
    split at h
    · rename_i xv hx
      exact liftP _ _ rfl h fun r hr => convert_sound hE (opd_sound hI hs hx) hr
    · cases h
  case makeFunc fn first cap =>
    cases fn with
    | func f =>
      simp only [effA] at h
      split at h
      · rename_i hf
        split at h
        · rename_i l hl
          cases h
          have hr := opds_sound hI hs hl
          have hf' : first = #[] := by simpa using hf
          subst hf'
          refine ⟨.func (.func f) #[] (cap.map a.eval), w, μ, .inl (by simp [execOp, Instr.makeFunc]), .pure hI ?_⟩
          refine .fn (by have := hr.1; simpa using this) fun j hj hx => ?_
          have := hr.2 j hj (by simpa using hx)
          simpa using this
        · cases h
      · cases h
    | _ => simp [effA] at h
  case makeSlice t l c =>
    simp only [effA] at h
    split at h
    · rename_i lv cv hl hc
      exact lift _ rfl (makeSlice_sound hI hE hT hμ (opd_sound hI hs hl) (opd_sound hI hs hc) h)
    · cases h
  case slice t x lo hi mx =>
    simp only [effA] at h
    split at h
    · rename_i v lv hv mv hx hlo hhi hmx
      exact liftP _ _ rfl h fun r hr => slice_sound hE (opd_sound hI hs hx) (opt_sound hI hs hlo) (opt_sound hI hs hhi) (opt_sound hI hs hmx) hr
    · cases h
  case fieldAddr s x f =>
    simp only [effA] at h
    split at h
    · rename_i v hx
      exact liftP _ _ rfl h fun r hr => fieldAddr_sound hE (opd_sound hI hs hx) hr
    · cases h
  case field t x f =>
    simp only [effA] at h
    split at h
    · rename_i fd cs hf hx
      exact liftP _ _ rfl h fun r hr => fieldV_sound hE hf (opd_sound hI hs hx) hr
    · cases h
  case indexAddr t x ix =>
    simp only [effA] at h
    split at h
    · rename_i v i hx hix
      exact liftP _ _ rfl h fun r hr => indexAddr_sound hE (opd_sound hI hs hx) (opd_sound hI hs hix) hr
    · cases h
  case index t x ix =>
    simp only [effA] at h
    split at h
    · rename_i v i hx hix
      exact liftP _ _ rfl h fun r hr => index_sound hE (opd_sound hI hs hx) (opd_sound hI hs hix) hr
    · cases h
  case extract x i =>
    simp only [effA] at h
    split at h
    · rename_i vs hx
      have h1 := opd_sound hI hs hx
      refine liftP _ _ rfl h fun r hr => ?_
      generalize hxe : a.eval x = xv at h1
      cases h1 with
      | @tup _ xs hl hh =>
        obtain ⟨hj, rfl⟩ := List.getElem?_eq_some_iff.1 hr
        have hx' : i < xs.size := by rw [hl]; exact hj
        refine ⟨xs[i], ?_, hh i hj hx'⟩
        simp [Instr.extract, hx']
    · cases h
  case call c =>
    obtain ⟨callee, args, argTypes⟩ := c
    cases callee <;> simp only [effA] at h <;> try (cases h; done)
    rename_i b
    split at h
    · rename_i l hl
      have hr := opds_sound hI hs hl
      obtain ⟨x, w', μ', hrun, out⟩ := builtin_sound (P := P) (ty := type) (cs := args.map fun | .const _ => true | _ => false) (as := args.map a.eval) hI hE hT hμ (by simpa using hr) h
      exact ⟨x, w', μ', .inl (by simp only [execOp, resolve, invoke, Sem.run_bind, Sem.run_pure, Result.andThen_ok]; exact hrun), out⟩
    · cases h
  all_goals (simp [effA] at h)
end
end Go.Proofs.YteaifkpmfbgekaaGreatDoor.M
