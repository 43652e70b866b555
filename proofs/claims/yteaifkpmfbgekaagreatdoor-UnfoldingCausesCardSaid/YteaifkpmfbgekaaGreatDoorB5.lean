/- What a reading of plain data is: data of Lean, as abstract values. -/
import Derived.Test.YteaifkpmfbgekaaGreatDoorB4
import Derived.ChangeArms
import Derived.Carry
import Derived.ChangeSame
import Derived.OpenShut
import Derived.Deep.DeepHandedRow
import Derived.Lib.LaidTab
import Derived.ProofKit
set_option linter.all false
set_option linter.deprecated false
namespace Go.Proofs.YteaifkpmfbgekaaGreatDoor.M
open Go

/-- The shapes of plain data; a struct is a row of fields. -/
inductive Ty where
  | bool | str
  | int (k : IntKind)
  | slice (e : Ty)
  | fin
  | fld (t r : Ty)

@[reducible] def Ty.den : Ty → Type
  | .bool => Bool
  | .str => ByteArray
  | .int _ => Int
  | .slice e => Option (List e.den)
  | .fin => Unit
  | .fld t r => t.den × r.den

def Ty.size : Ty → Nat
  | .fin => 0
  | .fld t r => t.size + r.size
  | _ => 1

/-- The cells of a datum. -/
def Ty.enc : (t : Ty) → t.den → List AV
  | .bool, b => [.bool b]
  | .str, s => [.str s]
  | .int k, n => [.int k n]
  | .slice e, x => (match x with | none => [.nils] | some l => [.imm l.length (l.flatMap e.enc)])
  | .fin, _ => []
  | .fld t r, x => t.enc x.1 ++ r.enc x.2

/-- What is known of a datum. -/
def Ty.ok : (t : Ty) → t.den → Prop
  | .bool, _ => True
  | .str, s => s.size ≤ maxLen
  | .int k, n => (Lit.int k n).wf = true
  | .slice e, x => (match x with | none => True | some l => l.length ≤ maxLen ∧ ∀ y ∈ l, e.ok y)
  | .fin, _ => True
  | .fld t r, x => t.ok x.1 ∧ r.ok x.2

/-- No slice and no string of a datum is longer than N. -/
def Ty.wi (N : Nat) : (t : Ty) → t.den → Prop
  | .bool, _ => True
  | .str, s => s.size ≤ N
  | .int _, _ => True
  | .slice e, x => (match x with | none => True | some l => l.length ≤ N ∧ ∀ y ∈ l, e.wi N y)
  | .fin, _ => True
  | .fld t r, x => t.wi N x.1 ∧ r.wi N x.2

def Ty.isRow : Ty → Bool
  | .fin | .fld .. => true
  | _ => false

/-- The value of an argument. -/
def Ty.arg (t : Ty) (x : t.den) : AV := if t.isRow then .agg (t.enc x) else (t.enc x).headD .undef

/-- Does a type of the program have a shape? And a row of fields? -/
def Ty.chk (P : Program) : Ty → (TypeId → Bool) × (List Field → Nat → Bool)
  | .bool => (fun t => match P.underlying t with | some .bool => true | _ => false, fun _ _ => false)
  | .str => (fun t => match P.underlying t with | some .string => true | _ => false, fun _ _ => false)
  | .int k => (fun t => match P.underlying t with | some (.int k') => decide (k' = k) | _ => false, fun _ _ => false)
  | .slice e => (fun t => match P.underlying t with | some (.slice u) => (Ty.chk P e).1 u && P.cellsOf u == e.size && Nat.blt 0 (P.bytesOf u) | _ => false, fun _ _ => false)
  | .fin => (fun t => match P.underlying t with | some (.struct fs) => fs.isEmpty && P.cellsOf t == 0 | _ => false, fun fs _ => fs.isEmpty)
  | .fld a r =>
    let row (fs : List Field) (off : Nat) : Bool := match fs with
      | [] => false
      | f :: fs => f.offset == off && (Ty.chk P a).1 f.type && P.cellsOf f.type == a.size && (Ty.chk P r).2 fs (off + a.size)
    (fun t => match P.underlying t with | some (.struct fs) => row fs.toList 0 && P.cellsOf t == a.size + r.size | _ => false, row)

theorem Ty.enc_len : ∀ (t : Ty) (x : t.den), (t.enc x).length = t.size
  | .bool, _ | .str, _ | .int _, _ | .fin, _ => rfl
  | .slice e, none => rfl
  | .slice e, some l => rfl
  | .fld t r, x => by simp only [Ty.enc, Ty.size, List.length_append, Ty.enc_len t, Ty.enc_len r]

theorem Ty.enc_one : ∀ (t : Ty) (x : t.den), (t.enc x).all AV.one = true
  | .bool, _ | .str, _ | .int _, _ | .fin, _ => rfl
  | .slice e, none => rfl
  | .slice e, some l => rfl
  | .fld t r, x => by simp only [Ty.enc, List.all_append, Ty.enc_one t, Ty.enc_one r]; rfl

theorem Ty.encs_len {t : Ty} (l : List t.den) : (l.flatMap t.enc).length = l.length * t.size := by
  induction l with
  | nil => simp
  | cons x l ih => rw [List.flatMap_cons, List.length_append, ih, Ty.enc_len, List.length_cons, Nat.succ_mul, Nat.add_comm]

abbrev noT : Sto := fun _ => none
abbrev noM : Mu := fun _ => none
theorem prot_none (i : Nat) : Prot noM i := fun _ _ h => by cases h

section
variable {H : Type} {en : TypeId × Value → H} {P : Program} {w : World}

/-- No weight of a reading is greater than N. -/
def Wt (P : Program) (N : Nat) (t : TypeId) (d : DataW H) : Prop := ∀ z ∈ d.weights P t, z ≤ N
theorem Wt.slice {N : Nat} {t u : TypeId} (hu : P.underlying t = some (.slice u)) (hb : 0 < P.bytesOf u) {l r : List (DataW H)} (h : Wt P N t (.slice l r)) : l.length ≤ N ∧ ∀ x ∈ l, Wt P N u x := by
  unfold Wt DataW.weights at h
  rw [hu] at h
  refine ⟨?_, fun x hx z hz => h z (List.mem_cons_of_mem _ (List.mem_append_left _ ?_))⟩
  · have := h _ (List.mem_cons_self ..)
    have h2 : l.length * 1 ≤ (l.length + r.length) * P.bytesOf u := Nat.mul_le_mul (by omega) hb
    omega
  · clear h
    induction l with
    | nil => cases hx
    | cons y l ih =>
      simp only [DataW.weightsAll, List.mem_append]
      rcases List.mem_cons.1 hx with rfl | hx
      · exact .inl hz
      · exact .inr (ih hx)
theorem weights_each {z : Nat} : ∀ {ts : List TypeId} {ds : List (DataW H)} {i : Nat} {t : TypeId} {d : DataW H}, ts[i]? = some t → ds[i]? = some d → z ∈ d.weights P t → z ∈ DataW.weightsEach P ts ds
  | [], _, i, t, d, h, _, _ => by simp at h
  | _ :: _, [], i, t, d, _, h, _ => by simp at h
  | t0 :: ts, d0 :: ds, 0, t, d, h, h', hz => by
    simp at h h'; subst h h'
    simp only [DataW.weightsEach, List.mem_append]; exact .inl hz
  | t0 :: ts, d0 :: ds, i + 1, t, d, h, h', hz => by
    simp only [DataW.weightsEach, List.mem_append]
    exact .inr (weights_each (by simpa using h) (by simpa using h') hz)
theorem Wt.struct {N : Nat} {t : TypeId} {fs : Array Field} (hu : P.underlying t = some (.struct fs)) {l : List (DataW H)} (h : Wt P N t (.agg l)) {i : Nat} {f : Field} {x : DataW H} (hf : fs.toList[i]? = some f) (hx : l[i]? = some x) : Wt P N f.type x := fun z hz => by
  unfold Wt DataW.weights at h
  rw [hu] at h
  exact h z (weights_each (by rw [List.getElem?_map, hf]; rfl) hx hz)
theorem Rel.slice_of {e : Ty} {Q : e.den → Prop} {a : Addr} {len cap : Nat} (hlc : len ≤ cap)
    (hget : ∀ i, i < len → ∃ cs, w.cells? 0 (a.add (i * e.size)) e.size = some cs ∧ ∃ x : e.den, Q x ∧ Rels noT noM w (e.enc x) cs) :
    ∃ l : List e.den, l.length = len ∧ (∀ y ∈ l, Q y) ∧ Rel noT noM w (.imm len (l.flatMap e.enc)) (.slice (some a) len cap) := by
  have key : ∀ k, k ≤ len → ∃ (l : List e.den) (vs : List Value), l.length = k ∧ (∀ y ∈ l, Q y) ∧ Rels noT noM w (l.flatMap e.enc) vs ∧ ∀ j, j < k * e.size → w.cell? (a.add j) = vs[j]? := by
    intro k
    induction k with
    | zero => intro _; exact ⟨[], [], rfl, fun y hy => (by simp at hy), .nil, fun j hj => by simp at hj⟩
    | succ k ih =>
      intro hk
      obtain ⟨l, vs, h1, h2, h3, h4⟩ := ih (by omega)
      obtain ⟨cs, hcs, x, hx, hr⟩ := hget k (by omega)
      have hvl : vs.length = k * e.size := by rw [h3.1, Ty.encs_len, h1]
      have hcl : cs.length = e.size := by rw [hr.1, Ty.enc_len]
      refine ⟨l ++ [x], vs ++ cs, by simp [h1], fun y hy => ?_, ?_, fun j hj => ?_⟩
      · rcases List.mem_append.1 hy with hy | hy
        · exact h2 y hy
        · simp at hy; subst hy; exact hx
      · rw [List.flatMap_append]
        refine h3.append ?_
        simpa using hr
      · rw [List.getElem?_append]
        by_cases hlt : j < k * e.size
        · rw [if_pos (by omega)]; exact h4 j hlt
        · rw [if_neg (by omega), hvl]
          have hj' : j - k * e.size < e.size := by rw [Nat.succ_mul] at hj; omega
          have := (World.cells?_some hcs).2.2 (j - k * e.size) hj'
          rw [add_add] at this
          have e1 : k * e.size + (j - k * e.size) = j := by omega
          rw [e1] at this
          exact this
  obtain ⟨l, vs, h1, h2, h3, h4⟩ := key len (Nat.le_refl _)
  refine ⟨l, h1, h2, .imm (f := fun j => vs.getD j undef) hlc (fun _ => prot_none _) (fun j hj => ?_) (fun j hj => ?_)⟩
  · rw [Ty.encs_len, h1] at hj
    have hlt : j < vs.length := by rw [h3.1, Ty.encs_len, h1]; exact hj
    rw [h4 j hj, List.getElem?_eq_getElem hlt]
    simp [hlt]
  · have hlt : j < vs.length := by rw [h3.1]; exact hj
    have := h3.2 j hj hlt
    simpa [hlt] using this

theorem read (N : Nat) : ∀ (ty : Ty), (∀ t, (ty.chk P).1 t = true → ∀ (fuel : Nat) (cs : List Value) (x : DataW H × List MemPlace), DataW.trod en P w 0 (fun _ => true) true fuel t cs = some x → ∃ y : ty.den, (ty.ok y ∧ (Wt P N t x.1 → ty.wi N y)) ∧ Rels noT noM w (ty.enc y) cs) ∧
    (∀ (fs : List Field) (off : Nat), (ty.chk P).2 fs off = true → ∀ (n : Nat) (cs : List Value) (xs : List (DataW H × List MemPlace)), (∀ (i : Nat) (f : Field), fs[i]? = some f → DataW.trod en P w 0 (fun _ => true) true n f.type ((cs.drop f.offset).take (P.cellsOf f.type)) = xs[i]?) → xs.length = fs.length →
      cs.length = off + ty.size → ∃ y : ty.den, (ty.ok y ∧ ((∀ (i : Nat) (f : Field) x, fs[i]? = some f → xs[i]? = some x → Wt P N f.type x.1) → ty.wi N y)) ∧ Rels noT noM w (ty.enc y) (cs.drop off)) := by
  intro ty
  induction ty with
  | bool =>
    refine ⟨fun t ht fuel cs x h => ?_, fun fs off h => by simp [Ty.chk] at h⟩
    unfold Ty.chk at ht
    dsimp only at ht
    split at ht
    · rename_i hu
      obtain ⟨b, rfl, _⟩ := DataW.trod_bool hu h
      exact ⟨b, ⟨trivial, fun _ => trivial⟩, .cons (.bool b) .nil⟩
    · cases ht
  | str =>
    refine ⟨fun t ht fuel cs x h => ?_, fun fs off h => by simp [Ty.chk] at h⟩
    unfold Ty.chk at ht
    dsimp only at ht
    split at ht
    · rename_i hu
      obtain ⟨s, rfl, rfl, hs⟩ := DataW.trod_string hu h
      exact ⟨s, ⟨hs, fun hw => by have := hw s.data.toList.length (by simp [DataW.weights]); show s.size ≤ _; simpa using this⟩, .cons (.str s) .nil⟩
    · cases ht
  | int k =>
    refine ⟨fun t ht fuel cs x h => ?_, fun fs off h => by simp [Ty.chk] at h⟩
    unfold Ty.chk at ht
    dsimp only at ht
    split at ht
    · rename_i k' hu
      have hk : k' = k := by simpa using ht
      subst hk
      obtain ⟨n, rfl, _, hn⟩ := DataW.trod_int hu h
      exact ⟨n, ⟨hn, fun _ => trivial⟩, .cons (.int k' n) .nil⟩
    · cases ht
  | slice e ih =>
    refine ⟨fun t ht fuel cs x h => ?_, fun fs off h => by simp [Ty.chk] at h⟩
    unfold Ty.chk at ht
    dsimp only at ht
    split at ht
    · rename_i u hu
      simp only [Bool.and_eq_true, beq_iff_eq] at ht
      obtain ⟨⟨h1, h2⟩, h3⟩ := ht
      have h3 : 0 < P.bytesOf u := by simpa [Nat.blt_eq] using h3
      rcases DataW.trod_slice hu h with ⟨rfl, _⟩ | ⟨a, len, cap, elems, rest, n, _, rfl, rfl, _, hlc, hcm, hlen, hel, _, _⟩
      · exact ⟨none, ⟨trivial, fun _ => trivial⟩, .cons .nils .nil⟩
      · rw [h2] at hel
        obtain ⟨l, e1, e2, e3⟩ := Rel.slice_of (w := w) (e := e) (a := a) (Q := fun y => e.ok y ∧ (Wt P N t (.slice (elems.map (·.1)) (rest.map (·.1))) → e.wi N y)) hlc fun i hi => by
          have := hel i hi
          have hlt : i < elems.length := by omega
          rw [List.getElem?_eq_getElem hlt, Option.bind_eq_some_iff] at this
          obtain ⟨cs, hcs, hd⟩ := this
          obtain ⟨y, ⟨hy1, hy2⟩, hy3⟩ := ih.1 u h1 n cs _ hd
          exact ⟨cs, hcs, y, ⟨hy1, fun hw => hy2 ((hw.slice hu h3).2 _ (List.mem_map_of_mem (List.getElem_mem hlt)))⟩, hy3⟩
        refine ⟨some l, ⟨⟨by omega, fun y hy => (e2 y hy).1⟩, fun hw => ⟨by have := (hw.slice hu h3).1; rw [List.length_map] at this; show l.length ≤ N; omega, fun y hy => (e2 y hy).2 hw⟩⟩, .cons ?_ .nil⟩
        rw [e1]; exact e3
    · cases ht
  | fin =>
    refine ⟨fun t ht fuel cs x h => ?_, fun fs off h n cs xs hf hl hc => ⟨(), ⟨trivial, fun _ => trivial⟩, ?_⟩⟩
    · unfold Ty.chk at ht
      dsimp only at ht
      split at ht
      · rename_i fs hu
        simp only [Bool.and_eq_true, beq_iff_eq] at ht
        obtain ⟨xs, n, _, _, hl, _⟩ := DataW.trod_struct hu h
        rw [ht.2] at hl
        rw [List.length_eq_zero_iff.1 hl]
        exact ⟨(), ⟨trivial, fun _ => trivial⟩, .nil⟩
      · cases ht
    · simp only [Ty.size] at hc
      rw [List.drop_of_length_le (by omega)]
      exact .nil
  | fld a r iha ihr =>
    have row : ∀ (fs : List Field) (off : Nat), ((Ty.fld a r).chk P).2 fs off = true → ∀ (n : Nat) (cs : List Value) (xs : List (DataW H × List MemPlace)), (∀ (i : Nat) (f : Field), fs[i]? = some f → DataW.trod en P w 0 (fun _ => true) true n f.type ((cs.drop f.offset).take (P.cellsOf f.type)) = xs[i]?) → xs.length = fs.length →
      cs.length = off + (Ty.fld a r).size → ∃ y : (Ty.fld a r).den, ((Ty.fld a r).ok y ∧ ((∀ (i : Nat) (f : Field) x, fs[i]? = some f → xs[i]? = some x → Wt P N f.type x.1) → (Ty.fld a r).wi N y)) ∧ Rels noT noM w ((Ty.fld a r).enc y) (cs.drop off) := by
      intro fs off h n cs xs hf hl hc
      unfold Ty.chk at h
      dsimp only at h
      cases fs with
      | nil => cases h
      | cons f fs =>
        simp only [Bool.and_eq_true, beq_iff_eq] at h
        obtain ⟨⟨⟨g1, g2⟩, g3⟩, g4⟩ := h
        cases xs with
        | nil => simp at hl
        | cons x0 xs =>
          have h0 := hf 0 f rfl
          rw [g1, g3] at h0
          obtain ⟨y, ⟨hy, hyw⟩, hyr⟩ := iha.1 _ g2 _ _ _ h0
          simp only [Ty.size] at hc
          obtain ⟨z, ⟨hz, hzw⟩, hzr⟩ := ihr.2 fs (off + a.size) g4 n cs xs (fun i f' hi => by
            have := hf (i + 1) f' (by rw [List.getElem?_cons_succ]; exact hi)
            rw [List.getElem?_cons_succ] at this; exact this) (by simpa using hl) (by omega)
          refine ⟨(y, z), ⟨⟨hy, hz⟩, fun hw => ⟨hyw (hw 0 f x0 rfl rfl), hzw fun i f x hi hx => hw (i + 1) f x (by simpa using hi) (by simpa using hx)⟩⟩, ?_⟩
          have := hyr.append hzr
          rw [← List.drop_drop, List.take_append_drop] at this
          exact this
    refine ⟨fun t ht fuel cs x h => ?_, row⟩
    have ht' := ht
    unfold Ty.chk at ht
    dsimp only at ht
    split at ht
    · rename_i fs hu
      simp only [Bool.and_eq_true, beq_iff_eq] at ht
      obtain ⟨xs, n, _, rfl, hl, hxl, hf⟩ := DataW.trod_struct hu h
      have hrow : ((Ty.fld a r).chk P).2 fs.toList 0 = true := by
        unfold Ty.chk
        exact ht.1
      obtain ⟨y, ⟨hy, hyw⟩, hr⟩ := row fs.toList 0 hrow n cs xs (fun i f hi => hf i f (by simpa using hi)) (by simpa using hxl) (by rw [hl, ht.2]; simp [Ty.size])
      exact ⟨y, ⟨hy, fun hw => hyw fun i f x hi hx => hw.struct hu hi (by rw [List.getElem?_map, hx]; rfl)⟩, by simpa using hr⟩
    · cases ht

/-- An argument. -/
theorem read_arg (N : Nat) {ty : Ty} {t : TypeId} (hc : (ty.chk P).1 t = true) {v : Value} {d : DataW H} {ps : List MemPlace} {r : Reach} {base : Nat} (hok : Value.okWide P w r base t v) (h : DataW.Trod en P w 0 (fun _ => true) true t v d ps) :
    ∃ y : ty.den, (ty.ok y ∧ (Wt P N t d → ty.wi N y)) ∧ Rel noT noM w (ty.arg y) v := by
  obtain ⟨fuel, hf⟩ := h
  obtain ⟨y, hy, hr⟩ := (read N ty).1 t hc fuel _ _ hf
  refine ⟨y, hy, ?_⟩
  have one : ∀ u, ty.isRow = false → v.cells = #[v] → ty.enc y = [u] → Rel noT noM w (ty.arg y) v := by
    intro u h1 h2 h3
    unfold Ty.arg
    rw [h1, h3]
    rw [h2, h3] at hr
    exact hr.head
  have agg : ty.isRow = true → (∃ fs, P.underlying t = some (.struct fs)) → Rel noT noM w (ty.arg y) v := by
    rintro h1 ⟨fs, hu⟩
    unfold Value.okWide at hok
    rw [hu] at hok
    obtain ⟨cs, rfl, _⟩ := hok
    unfold Ty.arg
    rw [h1]
    exact Rel.agg_iff.2 ⟨cs, rfl, hr⟩
  cases ty with
  | bool =>
    simp only [Ty.enc] at hr
    unfold Ty.chk at hc
    dsimp only at hc
    split at hc
    · rename_i hu
      unfold Value.okWide Cell.okWide Cell.ok at hok
      rw [hu] at hok
      cases v <;> simp at hok
      exact one _ rfl rfl rfl
    · cases hc
  | str =>
    unfold Ty.chk at hc
    dsimp only at hc
    split at hc
    · rename_i hu
      unfold Value.okWide Cell.okWide Cell.ok at hok
      rw [hu] at hok
      cases v <;> simp at hok
      exact one _ rfl rfl rfl
    · cases hc
  | int k =>
    unfold Ty.chk at hc
    dsimp only at hc
    split at hc
    · rename_i hu
      unfold Value.okWide Cell.okWide Cell.ok at hok
      rw [hu] at hok
      cases v <;> simp at hok
      exact one _ rfl rfl rfl
    · cases hc
  | slice e =>
    unfold Ty.chk at hc
    dsimp only at hc
    split at hc
    · rename_i hu
      unfold Value.okWide Cell.okWide Cell.ok at hok
      rw [hu] at hok
      have hv : v.cells = #[v] := by
        cases v <;> simp at hok <;> rfl
      cases y with
      | none => exact one _ rfl hv rfl
      | some l => exact one _ rfl hv rfl
    · cases hc
  | fin =>
    unfold Ty.chk at hc
    dsimp only at hc
    split at hc
    · rename_i fs hu; exact agg rfl ⟨fs, hu⟩
    · cases hc
  | fld a r =>
    unfold Ty.chk at hc
    dsimp only at hc
    split at hc
    · rename_i fs hu; exact agg rfl ⟨fs, hu⟩
    · cases hc
end
end Go.Proofs.YteaifkpmfbgekaaGreatDoor.M

namespace Go.Proofs.YteaifkpmfbgekaaGreatDoor.M
open Go Go.ChangeShapes Go.WideShapes Go.ChangeAt Go.RowKit

def Ty.args : (t : Ty) → t.den → List AV
  | .fld t r, x => t.arg x.1 :: r.args x.2
  | .bool, _ | .str, _ | .int _, _ | .slice _, _ | .fin, _ => []

def Ty.chks (P : Program) : Ty → List TypeId → Bool
  | .fin, ts => ts.isEmpty
  | .fld a r, ts => match ts with
    | [] => false
    | t :: ts => (a.chk P).1 t && P.readableRec t && decide (t < P.types.size) && r.chks P ts
  | .bool, _ | .str, _ | .int _, _ | .slice _, _ => false

section
variable {H : Type} {en : TypeId × Value → H} {P : Program} {w : World}

theorem read_args (N : Nat) : ∀ (ty : Ty) (ts : List TypeId), ty.chks P ts = true → ∀ (vs : List Value) (ds : List (DataW H)) (ps : List MemPlace) (r : Reach) (base : Nat), DataW.TrodAll en P w 0 (fun _ => true) true ts vs ds ps →
    (∀ (j : Nat) t v, ts[j]? = some t → vs[j]? = some v → Value.okWide P w r base t v) → ∃ y : ty.den, (ty.ok y ∧ ((∀ z ∈ DataW.weightsEach P ts ds, z ≤ N) → ty.wi N y)) ∧ Rels noT noM w (ty.args y) vs ∧ ds.length = ts.length
  | .fin, ts, h, vs, ds, ps, r, base, hd, hv => by
    simp only [Ty.chks, List.isEmpty_iff] at h
    subst h
    obtain ⟨rfl, rfl, _⟩ := trodAll_nil hd
    exact ⟨(), ⟨trivial, fun _ => trivial⟩, .nil, rfl⟩
  | .fld a b, ts, h, vs, ds, ps, r, base, hd, hv => by
    cases ts with
    | nil => simp [Ty.chks] at h
    | cons t ts =>
      simp only [Ty.chks, Bool.and_eq_true] at h
      obtain ⟨⟨⟨h1, _⟩, _⟩, h2⟩ := h
      obtain ⟨v, vs', d, ds', p, q, rfl, rfl, rfl, hd1, hd2⟩ := trodAll_cons hd
      obtain ⟨x, ⟨hx, hxw⟩, hxr⟩ := read_arg N h1 (hv 0 t v rfl rfl) hd1
      obtain ⟨y, ⟨hy, hyw⟩, hyr, hl⟩ := read_args N b ts h2 vs' ds' q r base hd2 fun j t v ht hv' => hv (j + 1) t v (by rw [List.getElem?_cons_succ]; exact ht) (by rw [List.getElem?_cons_succ]; exact hv')
      exact ⟨(x, y), ⟨⟨hx, hy⟩, fun hw => ⟨hxw fun z hz => hw z (by simp only [DataW.weightsEach, List.mem_append]; exact .inl hz), hyw fun z hz => hw z (by simp only [DataW.weightsEach, List.mem_append]; exact .inr hz)⟩⟩, .cons hxr hyr, by simp [hl]⟩
  | .bool, _, h, _, _, _, _, _, _, _ => by simp [Ty.chks] at h
  | .str, _, h, _, _, _, _, _, _, _ => by simp [Ty.chks] at h
  | .int _, _, h, _, _, _, _, _, _, _ => by simp [Ty.chks] at h
  | .slice _, _, h, _, _, _, _, _, _, _ => by simp [Ty.chks] at h

theorem stay_args (hl : laidOutB P = true) {w' : World} (hb : Below w.heap.size w w') {sp : Nat → Bool} : ∀ (ty : Ty) (ts : List TypeId), ty.chks P ts = true → ∀ (vs : List Value) (ds : List (DataW H)) (ps : List MemPlace),
    DataW.TrodAll en P w 0 (fun _ => true) true ts vs ds ps → (∀ p ∈ ps, p.block < w.heap.size) → (∀ p ∈ ps, sp p.block = true) → DataW.TrodAll en P w' 0 sp true ts vs ds ps
  | .fin, ts, h, vs, ds, ps, hd, _, _ => by
    simp only [Ty.chks, List.isEmpty_iff] at h
    subst h
    obtain ⟨rfl, rfl, rfl⟩ := trodAll_nil hd
    exact trodAll_mk0
  | .fld a b, ts, h, vs, ds, ps, hd, hp, hs => by
    cases ts with
    | nil => simp [Ty.chks] at h
    | cons t ts =>
      simp only [Ty.chks, Bool.and_eq_true, decide_eq_true_eq] at h
      obtain ⟨⟨⟨_, h3⟩, h4⟩, h2⟩ := h
      obtain ⟨v, vs', d, ds', p, q, rfl, rfl, rfl, hd1, hd2⟩ := trodAll_cons hd
      exact trodAll_cons_mk (WideElems.Trod_stays hl h3 h4 hd1 (fun x hx => hb.same (hp x (List.mem_append_left _ hx))) fun x hx => hs x (List.mem_append_left _ hx))
        (stay_args hl hb b ts h2 vs' ds' q hd2 (fun x hx => hp x (List.mem_append_right _ hx)) fun x hx => hs x (List.mem_append_right _ hx))
  | .bool, _, h, _, _, _, _, _, _ => by simp [Ty.chks] at h
  | .str, _, h, _, _, _, _, _, _ => by simp [Ty.chks] at h
  | .int _, _, h, _, _, _, _, _, _ => by simp [Ty.chks] at h
  | .slice _, _, h, _, _, _, _, _, _ => by simp [Ty.chks] at h

theorem Evo.below {T' : Sto} {μ' : Mu} {w' : World} (h : Evo noT noM w T' μ' w') : Below w.heap.size w w' :=
  ⟨h.os, h.tape, h.output, h.size, fun k hk => (h.frame k hk (prot_none k)).1⟩

theorem Inv.none (hg : ∀ g l, globs g = some l → Rel noT noM w (.iptr l) (.pointer (some ⟨g, 0, Option.none⟩))) : Inv noT noM w :=
  ⟨fun _ _ _ _ h => (nomatch h), fun _ _ h => (nomatch h), hg⟩

/-- What a closed table gives. -/
theorem glob_of_tab {name : String} {k : IntKind} {zs : List Int} {g : Nat} (h : Lib.TabIs P w name k zs) (hg : P.globalNamed name = some g) : Rel noT noM w (.iptr (zs.map fun n => .int k n)) (.pointer (some ⟨g, 0, Option.none⟩)) := by
  refine .iptr (f := fun j => .int k (zs.getD j 0)) (fun _ => prot_none _) (fun j hj => ?_) fun j hj => ?_
  · have := h.cell hg j (by simpa using hj)
    unfold Addr.add
    split
    · rename_i h0; subst h0; exact this
    · simpa using this
  · have hj' : j < zs.length := by simpa using hj
    have : zs.getD j 0 = zs[j] := by simp [hj']
    rw [this]
    simp only [List.getElem_map]
    exact .int k _

end
end Go.Proofs.YteaifkpmfbgekaaGreatDoor.M

namespace Go.Proofs.YteaifkpmfbgekaaGreatDoor.M
open Go Go.ChangeShapes Go.WideShapes Go.ChangeAt Go.RowKit

section
variable {H : Type} {en : TypeId × Value → H} {P : Program} {w : World}

/-- A law's contract, from the evaluator; each reading has a run of its own. -/
theorem law_contractE {fn : Func} {s : ChangeSpec} {f : FuncId} (hl : laidOutB P = true) (ty : Ty) (hc : ty.chks P fn.params.toList = true) {tb : TypeId} (hrt : fn.resultTypes = #[tb]) (htb : P.underlying tb = some .bool)
    (hsv : s.vars = []) (hspec : ∀ (H : Type) (ds : List (DataW H)), ds.length = fn.params.toList.length → s.fn H ds = { results := [.lit (.bool true)], args := ds })
    {N : Nat} (heval : ∀ y, ty.ok y → ty.wi N y → ∃ call, SoundCall P call ∧ ∃ st low, call f (ty.args y) [] = some (.bool true, st, low))
    {apart fresh handsOn again : Bool} {base : Nat} {args : Array Value} {ds gs : List (DataW H)} {before : List MemPlace}
    (hval : ∀ (j : Nat) t v, fn.params[j]? = some t → args[j]? = some v → Value.okWide P w .any base t v)
    (hW : DataW.Whole en P fn.params.toList s.vars apart w args.toList ds gs before)
    (hN : ∀ z ∈ DataW.weightsEach P fn.params.toList ds, z ≤ N)
    (hg : ∀ g l, globs g = some l → Rel noT noM w (.iptr l) (.pointer (some ⟨g, 0, Option.none⟩))) :
    Calls P f args w fun e W' => ∃ v, e = .returned v ∧ s.post en P fn apart fresh handsOn again w args v W' := by
  have hW' := hW
  obtain ⟨p, q, hA, hV, rfl, hfz, hnd⟩ := hW
  rw [hsv] at hV
  obtain ⟨rfl, rfl⟩ := trodVars_none hV
  obtain ⟨y, ⟨hy, hyw⟩, hr, hdl⟩ := read_args N ty _ hc _ _ _ .any base hA fun j t v ht hv => hval j t v (by simpa using ht) (by simpa using hv)
  obtain ⟨call, hS, st, low, he⟩ := heval y hy (hyw hN)
  have hC := hS.calls _ _ _ _ _ _ he noT noM w _ (fun _ _ h => by cases h) (Inv.none hg) hr
  rw [Array.toArray_toList] at hC
  refine hC.mono fun e W' hx => ?_
  obtain ⟨x, T', μ', rfl, out⟩ := hx
  have hxv : x = .bool true := by have := out.rel; cases this; rfl
  subst hxv
  have hb := out.evo.below
  have hlt := hW'.lt
  have hf := hspec H ds hdl
  have hstay : ∀ sp : Nat → Bool, (∀ p' ∈ p ++ [], sp p'.block = true) → DataW.TrodAll en P W' 0 sp true fn.params.toList args.toList ds p := fun sp hsp =>
    stay_args hl hb ty _ hc _ _ _ hA (fun p' hp' => hlt p' (by simpa using hp')) fun p' hp' => hsp p' (by simpa using hp')
  have hres : ∀ (b : Nat) (sp : Nat → Bool) (hd : Bool), DataW.TrodAll en P W' b sp hd fn.resultTypes.toList ((Value.bool true).resultList fn.resultTypes.size) [.lit (.bool true)] [] := by
    intro b sp hd
    rw [hrt]
    exact trodAll_mk1 ⟨1, by simp [DataW.trod, Value.cells, htb]⟩
  have hold : ∀ p' ∈ p ++ [], (fun b => decide (b < w.heap.size)) p'.block = true := fun p' hp' => by simpa using hlt p' hp'
  refine ⟨.bool true, rfl, ds, [], p ++ [], [], p, [], hW', ?_, ?_, ?_, World.keptBut_mono (fun p' hp' => ⟨hp', ?_⟩) (hb.frame (· ∈ p ++ [])), fun _ => ?_⟩
  · rw [List.append_nil, hf]; exact hres _ _ _
  · rw [List.append_nil, hf]; exact hstay _ hold
  · rw [hsv, List.append_nil, hf]; rfl
  · simp at hp'; exact .inr (.inl hp')
  · refine ⟨ok_one hrt rfl (by simp [Value.okWide, htb, Cell.okWide, Cell.ok]), [.lit (.bool true)] ++ ds, [], ([] ++ p) ++ [], ⟨[] ++ p, [], trodAll_append (hstay _ fun _ _ => rfl) (hres _ _ _), by rw [hsv]; rfl, rfl, ?_, ?_⟩, ?_⟩
    · intro b off hp
      rw [hb.frozen (hlt (.cell b off) (by simpa using hp))]
      exact hfz b off (by simpa using hp)
    · intro ha
      have := hnd ha
      simpa using this
    · intro p' hp' _
      simpa using hp'
end
end Go.Proofs.YteaifkpmfbgekaaGreatDoor.M
