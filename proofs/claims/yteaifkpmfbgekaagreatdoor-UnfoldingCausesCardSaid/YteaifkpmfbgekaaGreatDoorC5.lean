/- The rows of causes. -/
import Derived.Test.YteaifkpmfbgekaaGreatDoorC3
import Derived.Test.YteaifkpmfbgekaaGreatDoorC2
import Derived.Test.YteaifkpmfbgekaaGreatDoorC4
set_option linter.all false
set_option linter.deprecated false
namespace Go.Proofs.YteaifkpmfbgekaaGreatDoor
open Go M
abbrev usedE (o : Evt) : List Int := o.ns ++ o.es
def evK (E : List El) (k : Int) : Int := (E[k.toNat]?.map El.ev).getD 0
def okK (E : List El) (i : Nat) (k : Int) : Bool := decide (0 ≤ k) && decide (k < E.length) && decide (evK E k < i)
def okE (E : List El) (i : Nat) (o : Evt) : Bool := (usedE o).all (okK E i)
def raw1 (E : List El) (R : List (List Int)) (k : Int) : List Int := if evK E k ≥ 0 then evK E k :: R.getD (evK E k).toNat [] else []
def raw (E : List El) (R : List (List Int)) (l : List Int) : List Int := l.flatMap (raw1 E R)
def rowAt (E : List El) (R : List (List Int)) (i : Nat) (l : List Int) : List Int := mk (mks (raw E R l) i) i
def uAt (V : List Evt) (i : Nat) : List Int := (V[i]?.map usedE).getD []
def rowsN (E : List El) (V : List Evt) : Nat → List (List Int)
  | 0 => []
  | n + 1 => rowsN E V n ++ [rowAt E (rowsN E V n) n (uAt V n)]
theorem rowsN_len (E : List El) (V : List Evt) : ∀ n, (rowsN E V n).length = n
  | 0 => rfl
  | n + 1 => by simp [rowsN, rowsN_len E V n]
theorem rowsN_mem (E : List El) (V : List Evt) : ∀ n i, ∀ x ∈ (rowsN E V n).getD i [], 0 ≤ x ∧ x < i
  | 0, i, x, h => by simp [rowsN] at h
  | n + 1, i, x, h => by
    simp only [rowsN, List.getD_eq_getElem?_getD, List.getElem?_append, rowsN_len] at h
    split at h
    · exact rowsN_mem E V n i x (by simpa [List.getD_eq_getElem?_getD] using h)
    · rename_i hi
      rcases Nat.eq_or_lt_of_le (Nat.le_of_not_lt hi) with e | e
      · subst e
        simp at h
        have := mk_mem.1 h
        exact ⟨this.1, this.2.1⟩
      · rw [List.getElem?_eq_none (by simp; omega)] at h
        simp at h
theorem raw_mem {E : List El} {V : List Evt} {i : Nat} {l : List Int} (h : ∀ k ∈ l, evK E k < i) : ∀ x ∈ raw E (rowsN E V i) l, 0 ≤ x ∧ x < i := by
  intro x hx
  obtain ⟨k, hk, hx⟩ := List.mem_flatMap.1 hx
  unfold raw1 at hx
  split at hx
  · rename_i h0
    have h1 := h k hk
    rcases List.mem_cons.1 hx with rfl | hx
    · exact ⟨h0, h1⟩
    · have := rowsN_mem E V i _ x hx
      omega
  · simp at hx
theorem row_len (E : List El) (V : List Evt) (n i : Nat) : ((rowsN E V n).getD i []).length ≤ n := by
  induction n generalizing i with
  | zero => simp [rowsN]
  | succ n ih =>
    simp only [rowsN, List.getD_eq_getElem?_getD, List.getElem?_append, rowsN_len]
    split
    · have := ih i
      simp only [List.getD_eq_getElem?_getD] at this
      omega
    · rename_i hi
      rcases Nat.eq_or_lt_of_le (Nat.le_of_not_lt hi) with e | e
      · subst e
        simp only [Nat.sub_self, List.getElem?_cons_zero, Option.getD_some]
        exact Nat.le_succ_of_le (mk_len _ _)
      · rw [List.getElem?_eq_none (by simp; omega)]
        simp
theorem raw_len {E : List El} {V : List Evt} {i : Nat} : ∀ (l : List Int), (raw E (rowsN E V i) l).length ≤ l.length * (i + 1)
  | [] => by simp [raw]
  | k :: l => by
    have := raw_len (E := E) (V := V) (i := i) l
    simp only [raw, List.flatMap_cons, List.length_append, List.length_cons] at this ⊢
    have h1 : (raw1 E (rowsN E V i) k).length ≤ i + 1 := by
      unfold raw1
      split
      · have := row_len E V i (evK E k).toNat
        simp only [List.length_cons]; omega
      · simp
    rw [Nat.succ_mul]
    omega
/-- What both functions come to. -/
def evsOk (E : List El) : Bool := E.all fun x => decide (-1 ≤ x.ev)
def allOk (E : List El) (V : List Evt) : Bool := (List.range V.length).all fun i => (uAt V i).all (okK E i)
def resL (L : List AV) : AV := if L = [] then .nils else .imm L.length L
def causesR (E : List El) (V : List Evt) : AV × Int :=
  if evsOk E = true ∧ allOk E V = true then (resL ((rowsN E V V.length).map resI), 0) else (.nils, 1)
theorem causes_bad1 {E : List El} {V : List Evt} {i : Nat} (hi : i < E.length) (h : E[i].ev < -1) : causesR E V = (.nils, 1) := by
  have : evsOk E = false := by
    unfold evsOk
    rw [List.all_eq_false]
    exact ⟨E[i], List.getElem_mem hi, by simpa using h⟩
  simp only [causesR, this, Bool.false_eq_true, false_and, if_false]
theorem causes_bad2 {E : List El} {V : List Evt} {i : Nat} (hi : i < V.length) {z : Int} (hz : z ∈ uAt V i) (h : okK E i z = false) : causesR E V = (.nils, 1) := by
  have : allOk E V = false := by
    unfold allOk
    rw [List.all_eq_false]
    refine ⟨i, List.mem_range.2 hi, ?_⟩
    rw [Bool.not_eq_true, List.all_eq_false]
    exact ⟨z, hz, by rw [h]; simp⟩
  simp only [causesR, this, Bool.false_eq_true, and_false, if_false]
theorem causes_good {E : List El} {V : List Evt} (h1 : ∀ j (h : j < E.length), -1 ≤ E[j].ev) (h2 : ∀ i, i < V.length → (uAt V i).all (okK E i) = true) : causesR E V = (resL ((rowsN E V V.length).map resI), 0) := by
  have e1 : evsOk E = true := by
    unfold evsOk
    rw [List.all_eq_true]
    intro x hx
    obtain ⟨j, hj, rfl⟩ := List.getElem_of_mem hx
    exact decide_eq_true (h1 j hj)
  have e2 : allOk E V = true := by
    unfold allOk
    rw [List.all_eq_true]
    intro i hi
    exact h2 i (List.mem_range.1 hi)
  simp only [causesR, e1, e2, and_self, if_true]
theorem okK_iff {E : List El} {i : Nat} {z : Int} : okK E i z = true ↔ 0 ≤ z ∧ z < E.length ∧ evK E z < i := by
  simp only [okK, Bool.and_eq_true, decide_eq_true_eq, and_assoc]
theorem okK_no {E : List El} {i : Nat} {z : Int} (h : ¬ (0 ≤ z ∧ z < E.length ∧ evK E z < i)) : okK E i z = false := by
  rw [← Bool.not_eq_true, okK_iff]; exact h
theorem getD_mem {l : List Int} {k : Nat} (h : k < l.length) : l.getD k 0 ∈ l := by
  simp [List.getD_eq_getElem?_getD, h]
theorem all_getD {l : List Int} {p : Int → Bool} (h : ∀ k, k < l.length → p (l.getD k 0) = true) : l.all p = true := by
  rw [List.all_eq_true]
  intro x hx
  obtain ⟨k, hk, rfl⟩ := List.getElem_of_mem hx
  have := h k hk
  simpa [List.getD_eq_getElem?_getD, hk] using this
theorem raw_succ {E : List El} {R : List (List Int)} {U : List Int} {k : Nat} (h : k < U.length) : raw E R (U.take (k + 1)) = raw E R (U.take k) ++ raw1 E R (U.getD k 0) := by
  unfold raw
  rw [List.take_add_one, List.flatMap_append]
  simp [h, List.getD_eq_getElem?_getD]
theorem raw1_pos {E : List El} {R : List (List Int)} {z : Int} (h : 0 ≤ evK E z) : raw1 E R z = evK E z :: R.getD (evK E z).toNat [] := by
  unfold raw1; rw [if_pos h]
theorem raw1_neg {E : List El} {R : List (List Int)} {z : Int} (h : ¬ 0 ≤ evK E z) : raw1 E R z = [] := by
  unfold raw1; rw [if_neg h]
theorem rowsN_eq {E : List El} {V : List Evt} {i : Nat} : rowsN E V (i + 1) = rowsN E V i ++ [mk (mks (raw E (rowsN E V i) (uAt V i)) i) i] := rfl
end Go.Proofs.YteaifkpmfbgekaaGreatDoor

namespace Go.Proofs.YteaifkpmfbgekaaGreatDoor
open Go M
set_option maxRecDepth 100000
set_option maxHeartbeats 4000000
set_option synthInstance.maxHeartbeats 400000
set_option synthInstance.maxSize 4096
def spec7 (f : FuncId) (cs : List AV) : Option AV :=
  if f = 20 then (match cs with
    | [.agg [.int .i64 _, a, b]] => (match dI a, dI b with
      | some x, some y => if x.length + y.length < 1000000 then some (.imm (x ++ y).length ((x ++ y).map I)) else none
      | _, _ => none)
    | _ => none)
  else none
theorem spec7_ok (f : FuncId) (cs : List AV) (r : AV) (h : spec7 f cs = some r) : GoodK Tryz.prog ⟨f, cs, r⟩ := by
  unfold spec7 at h
  split at h
  · rename_i hf
    subst hf
    split at h
    · split at h
      · rename_i hx hy
        split at h
        · rename_i hl
          cases h
          exact good20 (dI_row hx) (dI_row hy) hl
        · cases h
      · cases h
    · cases h
  · cases h
theorem spec7_20 {r : Int} {a b : AV} {x y : List Int} (ha : IRow a x) (hb : IRow b y) (hl : x.length + y.length < 1000000) : spec7 20 [.agg [I r, a, b]] = some (.imm (x ++ y).length ((x ++ y).map I)) := by
  simp only [spec7, if_true, row_dI ha, row_dI hb, hl]
theorem frz1 {st : List Blk} {v w : AV} (h : frzA st 0 12 v = some w) : mapO (frzA st 0 12) ([v] ++ []) = some [w] := by simp only [List.append_nil, mapO, h]
theorem frz_evt {st : List Blk} {n d : Nat} {r : Int} {a b : AV} {x y : List Int} (ha : IRow a x) (hb : IRow b y) : frzA st n (d + 2) (.agg [I r, a, b]) = some (.agg [I r, a, b]) :=
  frz_agg (mapO_id fun z hz => by
    simp only [List.mem_cons, List.not_mem_nil, or_false] at hz
    rcases hz with rfl | rfl | rfl
    · exact frz_bare rfl
    · exact frz_irow ha
    · exact frz_irow hb)
theorem irow_imm (l : List Int) : IRow (.imm l.length (l.map I)) l := .inr ⟨rfl, by simp⟩
theorem irow_res (l : List Int) : IRow (resI l) l := by
  unfold resI
  split
  · rename_i h; subst h; exact .inl ⟨rfl, rfl, rfl⟩
  · exact irow_imm l
theorem evK_get {E : List El} {k : Int} (h1 : k.toNat < E.length) : evK E k = E[k.toNat].ev := by simp [evK, h1]
theorem ia22k {v : AV} {E : List El} (h : ERow v E) {k : Int} (h0 : 0 ≤ k) (h1 : k < E.length) :
    ∃ a b c d rest, IA env1 22 v (I k) (.iptr (a :: b :: c :: d :: I (evK E k) :: rest)) := by
  have h2 : k.toNat < E.length := by omega
  have := ia22 h h2
  rw [Int.toNat_of_nonneg h0] at this
  rw [evK_get h2]
  exact ⟨_, _, _, _, _, this⟩
theorem ia33k {v : AV} {l : List Int} (h : IRow v l) {k : Nat} (hk : k < l.length) : ∃ rest, IA env1 33 v (I k) (.iptr (I (l.getD k 0) :: rest)) := by
  have := ia33 h hk
  rw [show l.getD k 0 = l[k] from by simp [List.getD_eq_getElem?_getD, hk]]
  exact ⟨_, this⟩
theorem uAt_eq {V : List Evt} {i : Nat} (h : i < V.length) : uAt V i = usedE V[i] := by simp [uAt, h]
/-- A cell: no numbers, or a slice of some. -/
def CellG (st : List Blk) (v : AV) (l : List Int) : Prop := (v = .nils ∧ l = []) ∨ (l ≠ [] ∧ ∃ b ver rest, v = .sl b 0 l.length ver 1 ∧ st[b]? = some ⟨1, ver, l.map I ++ rest⟩)
theorem CellG.frame {st st' : List Blk} {v : AV} {l : List Int} (h : CellG st v l) (hf : ∀ b ∈ leadA (some v), st'[b]? = st[b]?) : CellG st' v l := by
  rcases h with h | ⟨h0, b, ver, rest, rfl, hb⟩
  · exact .inl h
  · exact .inr ⟨h0, b, ver, rest, rfl, by rw [hf b (by simp [leadA])]; exact hb⟩
theorem CellG.lt {st : List Blk} {v : AV} {l : List Int} (h : CellG st v l) : ∀ b ∈ leadA (some v), b < st.length := by
  rcases h with ⟨rfl, _⟩ | ⟨_, b, ver, rest, rfl, hb⟩
  · intro b hb; cases hb
  · intro c hc
    simp only [leadA, List.mem_singleton] at hc
    subst hc
    exact (List.getElem?_eq_some_iff.1 hb).1
theorem CellG.la {st : List Blk} {v : AV} {l : List Int} (h : CellG st v l) : LA env1 33 v (I l.length) := by
  rcases h with ⟨rfl, rfl⟩ | ⟨_, b, ver, rest, rfl, hb⟩
  · exact ⟨by simp only [lenA, i33]; rfl⟩
  · exact ⟨by simp only [lenA, i33]⟩
theorem CellG.src {st : List Blk} {v : AV} {l : List Int} (h : CellG st v l) : SrcG st v (l.map I) := by
  rcases h with ⟨rfl, rfl⟩ | ⟨_, b, ver, rest, rfl, hb⟩
  · exact .inl (.inl ⟨rfl, rfl, rfl⟩)
  · exact .inr ⟨b, ver, rest, by rw [List.length_map], hb⟩
theorem CellG.fresh {st : List Blk} {v : AV} {l : List Int} {d : Nat} (h : CellG st v l) : freshA st (d + 2) v = some (resI l) := by
  rcases h with ⟨rfl, rfl⟩ | ⟨h0, b, ver, rest, rfl, hb⟩
  · rfl
  · have hm : mapO (freshA st (d + 1)) (l.map I) = some (l.map I) := mapO_id fun x hx => by
      obtain ⟨z, _, rfl⟩ := List.mem_map.1 hx
      rfl
    rw [fresh_sl hb (by simp) hm, resI, if_neg h0]
/-- Cells, one for each row; their blocks are not the one of the slice that they stand in. -/
structure CellsG (st : List Blk) (out : AV) (cs : List AV) (R : List (List Int)) : Prop where
  len : cs.length = R.length
  cell : ∀ (j : Nat) v l, cs[j]? = some v → R[j]? = some l → CellG st v l
  sep : ∀ v ∈ cs, ∀ b ∈ leadA (some v), b ∉ leadA (some out)
  out : OutG st out cs
theorem CellsG.nil {st : List Blk} : CellsG st .nils [] [] := ⟨rfl, (fun j v l h => by simp at h), (fun v h => by simp at h), .inl ⟨rfl, rfl⟩⟩
theorem OutG.lt {st : List Blk} {v : AV} {cells : List AV} (h : OutG st v cells) : ∀ b ∈ leadA (some v), b < st.length := by
  rcases h with ⟨rfl, _⟩ | ⟨b, ver, rfl, hb⟩
  · intro b hb; cases hb
  · intro c hc
    simp only [leadA, List.mem_singleton] at hc
    subst hc
    exact (List.getElem?_eq_some_iff.1 hb).1
/-- One cell more. -/
theorem CellsG.push {st0 st st' : List Blk} {out out' x y : AV} {cs : List AV} {R : List (List Int)} {l : List Int} {f : Foot} (h : CellsG st0 out cs R) (hx : CellG st x l) (hfr : ∀ b, b < st0.length → st[b]? = st0[b]?) (hle : st0.length ≤ st.length)
    (hnew : ∀ b ∈ leadA (some x), st0.length ≤ b) (ha : AppG (st ++ [⟨1, 0, [x]⟩]) st' out out' y cs [x] f) : CellsG st' out' (cs ++ [x]) (R ++ [l]) := by
  have hol := h.out.lt
  have hold : ∀ b, b < st0.length → b ∉ leadA (some out) → st'[b]? = st0[b]? := fun b hb hn => by
    rw [ha.frame b (by simp; omega) (by rintro o n v s rfl; simp [leadA] at hn), List.getElem?_append_left (by omega), hfr b hb]
  have hxl := hx.lt
  have hxf : ∀ b ∈ leadA (some x), st'[b]? = st[b]? := fun b hb => by
    have h1 := hxl b hb
    have h2 := hnew b hb
    rw [ha.frame b (by simp; omega) (by rintro o n v s rfl; have := hol b (by simp [leadA]); omega), List.getElem?_append_left (by omega)]
  have hcl : ∀ v ∈ cs, ∀ b ∈ leadA (some v), b < st0.length := fun v hv b hb => by
    obtain ⟨j, hj, rfl⟩ := List.getElem_of_mem hv
    have hj2 : j < R.length := by rw [← h.len]; exact hj
    exact (h.cell j _ _ (List.getElem?_eq_getElem hj) (List.getElem?_eq_getElem hj2)).lt b hb
  refine ⟨by simp [h.len], fun j v l' hv hl => ?_, fun v hv b hb hn => ?_, ha.out⟩
  · rw [List.getElem?_append] at hv hl
    rw [← h.len] at hl
    split at hv
    · rename_i hj
      rw [if_pos hj] at hl
      refine (h.cell j v l' hv hl).frame fun b hb => ?_
      have hm := List.mem_of_getElem? hv
      exact hold b (hcl v hm b hb) (h.sep v hm b hb)
    · rename_i hj
      rw [if_neg hj] at hl
      cases hk : j - cs.length with
      | zero =>
        rw [hk] at hv hl
        simp at hv hl
        subst hv hl
        exact hx.frame hxf
      | succ k => rw [hk] at hv; simp at hv
  · have ho : b = (st ++ [(⟨1, 0, [x]⟩ : Blk)]).length ∨ b ∈ leadA (some out) := by
      cases out' with
      | sl b' o n ve s =>
        simp only [leadA, List.mem_singleton] at hn
        subst hn
        rcases ha.new b o n ve s rfl with h1 | ⟨o, n, v, s, rfl⟩
        · exact .inl h1
        · exact .inr (by simp [leadA])
      | ptr b' o ve =>
        exfalso
        rcases ha.out with ⟨h1, _⟩ | ⟨_, _, h1, _⟩ <;> cases h1
      | _ => simp [leadA] at hn
    simp only [List.length_append, List.length_singleton] at ho
    rcases List.mem_append.1 hv with hv | hv
    · have h1 := hcl v hv b hb
      rcases ho with ho | ho
      · omega
      · exact h.sep v hv b hb ho
    · rw [List.mem_singleton.1 hv] at hb
      have h1 := hxl b hb
      have h2 := hnew b hb
      rcases ho with ho | ho
      · omega
      · have := hol b ho
        omega
theorem CellsG.fresh {st : List Blk} {out : AV} {cs : List AV} {R : List (List Int)} (h : CellsG st out cs R) (hn : out = .nils ∨ R ≠ []) : freshA st 11 out = some (resL (R.map resI)) := by
  rcases h.out with ⟨rfl, rfl⟩ | ⟨b, ver, rfl, hb⟩
  · have : R = [] := List.length_eq_zero_iff.1 h.len.symm
    subst this
    rfl
  · have h0 : R ≠ [] := hn.resolve_left (by simp)
    have hm : mapO (freshA st 10) cs = some (R.map resI) := by
      have hl := h.len
      have hc := h.cell
      clear h hb h0 hn
      induction cs generalizing R with
      | nil => have : R = [] := List.length_eq_zero_iff.1 hl.symm
               subst this; rfl
      | cons c cs ih =>
        cases R with
        | nil => simp at hl
        | cons r R =>
          have h1 := (hc 0 c r rfl rfl).fresh (d := 8)
          have h2 := ih (R := R) (by simpa using hl) fun j v l hv hr => hc (j + 1) v l hv hr
          simp only [mapO, h1, h2, List.map_cons]
    rw [fresh_sl (rest := []) (by rw [List.append_nil]; exact hb) rfl hm]
    simp only [resL, List.map_eq_nil_iff, if_neg h0, List.length_map, h.len]
theorem OutG.frame {st st' : List Blk} {v : AV} {cells : List AV} (h : OutG st v cells) (hf : ∀ b ∈ leadA (some v), st'[b]? = st[b]?) : OutG st' v cells := by
  rcases h with h | ⟨b, ver, rfl, hb⟩
  · exact .inl h
  · exact .inr ⟨b, ver, rfl, by rw [hf b (by simp [leadA])]; exact hb⟩
theorem OutG.one {st : List Blk} {v : AV} {cells : List AV} (h : OutG st v cells) : One v := by
  rcases h with ⟨rfl, _⟩ | ⟨b, ver, rfl, _⟩ <;> exact ⟨rfl⟩
theorem CellG.one {st : List Blk} {v : AV} {l : List Int} (h : CellG st v l) : One v := by
  rcases h with ⟨rfl, _⟩ | ⟨_, b, ver, rest, rfl, _⟩ <;> exact ⟨rfl⟩
theorem OutG.len {st : List Blk} {v : AV} {cells : List AV} (h : OutG st v cells) : LA env1 28 v (I cells.length) := by
  rcases h with ⟨rfl, rfl⟩ | ⟨b, ver, rfl, _⟩
  · exact ⟨by simp only [lenA, i28]; rfl⟩
  · exact ⟨by simp only [lenA, i28]⟩
theorem OutG.sl {st : List Blk} {v : AV} {cells : List AV} (h : OutG st v cells) (hn : 0 < cells.length) : ∃ b ver, v = .sl b 0 cells.length ver 1 ∧ st[b]? = some ⟨1, ver, cells⟩ := by
  rcases h with ⟨rfl, rfl⟩ | h
  · simp at hn
  · exact h
theorem ia28s {b n ver : Nat} {k : Int} (h0 : 0 ≤ k) (h1 : k < n) : IA env1 28 (.sl b 0 n ver 1) (I k) (.ptr b k.toNat ver) := by
  refine ⟨?_⟩
  simp only [indexAddrA, i28, i33]
  rw [if_pos ⟨by omega, by omega⟩]
  simp
theorem ia58s {b n ver : Nat} {k : Int} (h0 : 0 ≤ k) (h1 : k < n) : IA env1 58 (.sl b 0 n ver 1) (I k) (.ptr b k.toNat ver) := by
  refine ⟨?_⟩
  simp only [indexAddrA, i58, i4]
  rw [if_pos ⟨by omega, by omega⟩]
  simp
theorem st4 {k : Blk} {off : Nat} {z : Bool} (hf : off < k.cells.length) : SB env1 4 k off k.ver (.bool z) ⟨k.sz, k.ver, k.cells.set off (.bool z)⟩ := ⟨fun b => by
  simp only [storeA, i4]
  rw [if_pos (by refine ⟨?_, ?_, ?_, ?_⟩ <;> first | rfl | trivial | (simp only [AV.cells, List.length_cons, List.length_nil]; omega))]
  rfl⟩
theorem rb28 {k : Blk} {off : Nat} {v : AV} (h : k.cells[off]? = some v) : RB env1 33 k off k.ver v := rb_one i33 rfl rfl h
theorem ms58 {id n : Nat} (h : n ≤ 1048576) : makeSliceA env1 id 58 (I n) (I n) = some ⟨.sl id 0 n 0 1, [], none, some ⟨1, 0, (mks [] n).map AV.bool⟩⟩ := by
  simp only [makeSliceA, i58, i4]
  rw [if_pos (by refine ⟨?_, ?_, ?_, ?_, ?_, ?_, ?_⟩ <;> first | decide | rfl | omega | (simp [mostCells]; try omega))]
  simp [mks_nil, repl]
theorem mks_setv {l : List Int} {n : Nat} {e : Int} (h0 : 0 ≤ e) (h1 : e < n) : ((mks l n).map AV.bool).set e.toNat (.bool true) = (mks (l ++ [e]) n).map AV.bool := by
  rw [← mks_set h0 h1, List.map_set]
end Go.Proofs.YteaifkpmfbgekaaGreatDoor

namespace Go.Proofs.YteaifkpmfbgekaaGreatDoor
open Go M
set_option maxRecDepth 100000
set_option maxHeartbeats 4000000
set_option synthInstance.maxHeartbeats 400000
set_option synthInstance.maxSize 4096
theorem set_last {st : List Blk} {k k' : Blk} : (st ++ [k]).set st.length k' = st ++ [k'] := by simp
theorem rb4 {l : List Bool} {ver : Nat} {k : Nat} (h : k < l.length) : RB env1 4 ⟨1, ver, l.map AV.bool⟩ k ver (.bool (l.getD k false)) := rb_one i4 rfl rfl (by simp [h, List.getD_eq_getElem?_getD])
theorem la58s {b n ver : Nat} : LA env1 58 (.sl b 0 n ver 1) (I n) := ⟨by simp only [lenA, i58]⟩
theorem ia58n {b n ver k : Nat} (h1 : k < n) : IA env1 58 (.sl b 0 n ver 1) (I k) (.ptr b k ver) := by
  have := ia58s (b := b) (ver := ver) (k := (k : Int)) (by omega) (by omega : (k : Int) < n)
  simpa using this
theorem run21 {st : List Blk} {b : Nat} {l : List Bool} (hb : st[b]? = some ⟨1, 0, l.map AV.bool⟩) (hsm : l.length < 1000000) :
    ∃ x st' low, callS env1 1000000 (M.look []) 21 [.sl b 0 l.length 0 1] st = some (x, st', low) ∧ st.length ≤ st'.length ∧ (∀ c, c < st.length → st'[c]? = st[c]?) ∧ CellG st' x (mk l l.length) ∧ ∀ c ∈ leadA (some x), st.length ≤ c := by
  have key : Yes (callS env1 1000000 (M.look []) 21 [.sl b 0 l.length 0 1] st) fun r => ∃ x st' low, r = (x, st', low) ∧ st.length ≤ st'.length ∧ (∀ c, c < st.length → st'[c]? = st[c]?) ∧ CellG st' x (mk l l.length) ∧ ∀ c ∈ leadA (some x), st.length ≤ c := by
    refine callS_ev (fn := Tryz.f21) (by kernel_rfl) rfl rfl (EV.out ?_)
    show EV env1 _ _ (.seq _ (.seq _ _)) ⟨[.sl b 0 l.length 0 1] ++ List.replicate 19 .undef, st, st.length⟩ _
    generalize hsl : ([.sl b 0 l.length 0 1] ++ List.replicate 19 AV.undef) = sl
    have hlen : GL sl 20 := ⟨by rw [← hsl]; rfl⟩
    have h0 : GT sl 0 (.sl b 0 l.length 0 1) := ⟨by rw [← hsl]; rfl⟩
    clear hsl
    have hla : LA env1 58 (.sl b 0 l.length 0 1) (I l.length) := la58s
    have hbl : b < st.length := (List.getElem?_eq_some_iff.1 hb).1
    repeat (first | apply n_stp | refine n_add (by omega) ?_ | refine n_sub (by omega) ?_ | apply n_nil | refine n_region ?_ | refine n_region1 ?_ | refine n_assoc ?_ | refine n_skip ?_ | refine n_block ?_ | refine n_block1 ?_ | apply d_stp | refine d_add (by omega) ?_ | refine d_sub (by omega) ?_ | (apply d_nil; refine ⟨?zd, ?_⟩; (case zd => apply dr_reads; first | rfl | (simp; done))) | refine n_draw rfl ?_ | refine n_draw1 rfl ?_)
    refine n_loop (fun i sl st' => GL sl 20 ∧ GT sl 0 (.sl b 0 l.length 0 1) ∧ GT sl 4 (I i) ∧ ∃ x, GT sl 3 x ∧ OutG st' x ((mk l i).map I) ∧ (x = .nils ∨ mk l i ≠ []) ∧ st.length ≤ st'.length ∧ (∀ c, c < st.length → st'[c]? = st[c]?) ∧ ∀ c ∈ leadA (some x), st.length ≤ c) l.length (by omega) ?_ ?_
    · exact ⟨inferInstance, inferInstance, inferInstance, .nils, inferInstance, .inl ⟨rfl, rfl⟩, .inl rfl, Nat.le_refl _, fun _ _ => rfl, fun c h => by cases h⟩
    · rintro i sl st' low hi ⟨hlen, h0, h4, x, h3, hx, hx2, hle, hfr, hnew⟩
      repeat (first | apply n_stp | refine n_add (by omega) ?_ | refine n_sub (by omega) ?_ | apply n_nil | refine n_region ?_ | refine n_region1 ?_ | refine n_assoc ?_ | refine n_skip ?_ | refine n_block ?_ | refine n_block1 ?_ | apply d_stp | refine d_add (by omega) ?_ | refine d_sub (by omega) ?_ | (apply d_nil; refine ⟨?zd, ?_⟩; (case zd => apply dr_reads; first | rfl | (simp; done))) | refine n_draw rfl ?_ | refine n_draw1 rfl ?_)
      apply n_cond (decide ((i : Int) < l.length)) inferInstance
      · intro hlt
        have hlt : i < l.length := by simpa using hlt
        have hia := ia58n (b := b) (ver := 0) hlt
        have hbk : BK st' b ⟨1, 0, l.map AV.bool⟩ := ⟨by rw [hfr b hbl, hb]⟩
        have hrb := rb4 (ver := 0) hlt
        have hgl : l.getD i false = l[i] := by simp [List.getD_eq_getElem?_getD, hlt]
        rw [hgl] at hrb
        repeat (first | apply n_stp | refine n_add (by omega) ?_ | refine n_sub (by omega) ?_ | apply n_nil | refine n_region ?_ | refine n_region1 ?_ | refine n_assoc ?_ | refine n_skip ?_ | refine n_block ?_ | refine n_block1 ?_ | apply d_stp | refine d_add (by omega) ?_ | refine d_sub (by omega) ?_ | (apply d_nil; refine ⟨?zd, ?_⟩; (case zd => apply dr_reads; first | rfl | (simp; done))) | refine n_draw rfl ?_ | refine n_draw1 rfl ?_)
        apply n_cond1 l[i] inferInstance
        · intro hb
          repeat (first | apply n_stp | refine n_add (by omega) ?_ | refine n_sub (by omega) ?_ | apply n_nil | refine n_region ?_ | refine n_region1 ?_ | refine n_assoc ?_ | refine n_skip ?_ | refine n_block ?_ | refine n_block1 ?_ | apply d_stp | refine d_add (by omega) ?_ | refine d_sub (by omega) ?_ | (apply d_nil; refine ⟨?zd, ?_⟩; (case zd => apply dr_reads; first | rfl | (simp; done))) | refine n_draw rfl ?_ | refine n_draw1 rfl ?_)
          (apply n_bs ?zz; (case zz => exact bs33))
          repeat (first | apply n_stp | refine n_add (by omega) ?_ | refine n_sub (by omega) ?_ | apply n_nil | refine n_region ?_ | refine n_region1 ?_ | refine n_assoc ?_ | refine n_skip ?_ | refine n_block ?_ | refine n_block1 ?_ | apply d_stp | refine d_add (by omega) ?_ | refine d_sub (by omega) ?_ | (apply d_nil; refine ⟨?zd, ?_⟩; (case zd => apply dr_reads; first | rfl | (simp; done))) | refine n_draw rfl ?_ | refine n_draw1 rfl ?_)
          apply n_app i33 i3 ⟨by decide, by decide⟩ ?a0 ?a1 ?a2 ?a3 ?a4 ?a5 ?a6
          case a0 => exact wnt_go
          case a1 => infer_instance
          case a2 => infer_instance
          case a3 => exact hx.app _
          case a4 => exact SrcG.one
          case a5 => rfl
          case a6 => have := mk_len l i; simp only [List.length_map, List.length_cons, List.length_nil]; omega
          intro x' st2 low' f ha
          repeat (first | apply n_stp | refine n_add (by omega) ?_ | refine n_sub (by omega) ?_ | apply n_nil | refine n_region ?_ | refine n_region1 ?_ | refine n_assoc ?_ | refine n_skip ?_ | refine n_block ?_ | refine n_block1 ?_ | apply d_stp | refine d_add (by omega) ?_ | refine d_sub (by omega) ?_ | (apply d_nil; refine ⟨?zd, ?_⟩; (case zd => apply dr_reads; first | rfl | (simp; done))) | refine n_draw rfl ?_ | refine n_draw1 rfl ?_)
          have he : (mk l (i + 1)).map I = (mk l i).map I ++ [I i] := by rw [mk_succ hlt, hb, if_pos rfl, List.map_append]; rfl
          have hlen2 := ha.len
          simp only [List.length_append, List.length_singleton] at hlen2
          refine rnd_next hlt ⟨inferInstance, inferInstance, inferInstance, x', inferInstance, ?_, .inr ?_, by omega, fun c hc => ?_, fun c hc => ?_⟩
          · rw [he]; exact ha.out
          · rw [mk_succ hlt, hb, if_pos rfl]; simp
          · rw [ha.frame c (by simp; omega) (by rintro o n v s rfl; have := hnew c (by simp [leadA]); omega), List.getElem?_append_left (by omega), hfr c hc]
          · cases x' with
            | sl b' o n ve s =>
              simp only [leadA, List.mem_singleton] at hc
              subst hc
              rcases ha.new c o n ve s rfl with h1 | ⟨o, n, v, s, rfl⟩
              · rw [h1]; simp; omega
              · exact hnew c (by simp [leadA])
            | ptr b' o ve =>
              exfalso
              rcases ha.out with ⟨h1, _⟩ | ⟨_, _, h1, _⟩ <;> cases h1
            | _ => simp [leadA] at hc
        · intro hb
          refine n_skip1 (aft_next ?_)
          repeat (first | apply n_stp | refine n_add (by omega) ?_ | refine n_sub (by omega) ?_ | apply n_nil | refine n_region ?_ | refine n_region1 ?_ | refine n_assoc ?_ | refine n_skip ?_ | refine n_block ?_ | refine n_block1 ?_ | apply d_stp | refine d_add (by omega) ?_ | refine d_sub (by omega) ?_ | (apply d_nil; refine ⟨?zd, ?_⟩; (case zd => apply dr_reads; first | rfl | (simp; done))) | refine n_draw rfl ?_ | refine n_draw1 rfl ?_)
          refine rnd_next hlt ⟨inferInstance, inferInstance, inferInstance, x, inferInstance, ?_, ?_, hle, hfr, hnew⟩
          · rw [mk_succ hlt, hb]; simpa using hx
          · rw [mk_succ hlt, hb]; simpa using hx2
      · intro hge
        have hge : ¬ i < l.length := by simpa using hge
        have hil : i = l.length := by omega
        refine n_exit (rnd_exit (aft_exit ?_))
        repeat (first | apply n_stp | refine n_add (by omega) ?_ | refine n_sub (by omega) ?_ | apply n_nil | refine n_region ?_ | refine n_region1 ?_ | refine n_assoc ?_ | refine n_skip ?_ | refine n_block ?_ | refine n_block1 ?_ | apply d_stp | refine d_add (by omega) ?_ | refine d_sub (by omega) ?_ | (apply d_nil; refine ⟨?zd, ?_⟩; (case zd => apply dr_reads; first | rfl | (simp; done))) | refine n_draw rfl ?_ | refine n_draw1 rfl ?_)
        refine n_ret1 ?_
        subst hil
        apply f_one rfl
        have hcg : CellG st' x (mk l l.length) := by
          rcases hx with ⟨rfl, hx⟩ | ⟨b', ver, rfl, hb'⟩
          · exact .inl ⟨rfl, List.map_eq_nil_iff.1 hx⟩
          · exact .inr ⟨hx2.resolve_left (by simp), b', ver, [], by rw [List.length_map], by rw [List.append_nil]; exact hb'⟩
        rcases hx with ⟨rfl, hx⟩ | ⟨b', ver, rfl, hb'⟩
        · have hmk : mk l l.length = [] := List.map_eq_nil_iff.1 hx
          show ∃ x st2 low2, leaveA false st.length .nils st' low = (x, st2, low2) ∧ _
          unfold leaveA
          split
          · rw [if_pos (by rfl : AV.nils.bare2 = true)]
            refine ⟨_, _, _, rfl, ?_, fun c hc => ?_, .inl ⟨rfl, hmk⟩, fun c h => by cases h⟩
            · rw [List.length_take]; omega
            · rw [List.getElem?_take, if_pos hc, hfr c hc]
          · exact ⟨_, _, _, rfl, hle, hfr, .inl ⟨rfl, hmk⟩, fun c h => by cases h⟩
        · exact ⟨_, _, _, leave_sl, hle, hfr, hcg, hnew⟩
  obtain ⟨q, h, x, st', low, rfl, h1⟩ := key
  exact ⟨x, st', low, h, h1⟩
end Go.Proofs.YteaifkpmfbgekaaGreatDoor

namespace Go.Proofs.YteaifkpmfbgekaaGreatDoor
open Go M
set_option maxRecDepth 100000
set_option maxHeartbeats 4000000
set_option synthInstance.maxHeartbeats 400000
set_option synthInstance.maxSize 4096
/-- One function's calls one way, the others' another way. -/
def dispC (g : FuncId) (a b : CallR) : CallR := fun f args st => bif Nat.beq f g then a f args st else b f args st
theorem dispC_sound {P : Program} {g : FuncId} {a b : CallR} (ha : SoundCall P a) (hb : SoundCall P b) : SoundCall P (dispC g a b) := or_sound ha hb fun f args st r h => by
  unfold dispC at h
  cases hc : Nat.beq f g <;> rw [hc] at h
  · exact .inr h
  · exact .inl h
noncomputable def call7 : CallR := dispC 21 (callS env1 1000000 (M.look [])) (lookF spec7)
theorem call7_sound : SoundCall Tryz.prog call7 := dispC_sound (callS_sound env1_ok (fun _ h => draw_sound h env1_ok.types follows) 1000000 look_nil) (lookF_sound spec7_ok)
theorem call7_20 {st : List Blk} {o : Evt} (h : o.ns.length + o.es.length < 1000000) : call7 20 ([.agg [I o.1, o.nv, o.wv]] ++ []) st = some (.imm (usedE o).length ((usedE o).map I), st, st.length) := by
  show lookF spec7 20 _ _ = _
  exact lookF_ok (frz1 (frz_evt (irow_arg _) (irow_arg _))) (spec7_20 (irow_arg _) (irow_arg _) h)
theorem call7_21 {st : List Blk} {k : Blk} {l : List Bool} {n : Nat} (hn : l.length = n) (hk : k = ⟨1, 0, l.map AV.bool⟩) (hsm : n < 1000000) :
    ∃ x st' low, call7 21 ([.sl st.length 0 n 0 1] ++ []) (st ++ [k]) = some (x, st', low) ∧ st.length < st'.length ∧ (∀ c, c < st.length → st'[c]? = st[c]?) ∧ CellG st' x (mk l n) ∧ ∀ c ∈ leadA (some x), st.length < c := by
  subst hn hk
  obtain ⟨x, st', low, h1, h2, h3, h4, h5⟩ := run21 (st := st ++ [⟨1, 0, l.map AV.bool⟩]) (b := st.length) (l := l) (by simp) hsm
  refine ⟨x, st', low, h1, by simp at h2; omega, fun c hc => ?_, h4, fun c hc => by have := h5 c hc; simp at this; omega⟩
  rw [h3 c (by simp; omega), List.getElem?_append_left hc]
theorem fresh_tup2 {st : List Blk} {d : Nat} {v w a b : AV} (h1 : freshA st d v = some a) (h2 : freshA st d w = some b) : freshA st (d + 1) (.tup [v, w]) = some (.tup [a, b]) := by
  unfold freshA
  simp only [mapO, h1, h2]
theorem bs28a {id : Nat} {v : AV} (hv : One v) : buildSliceA env1 id 28 1 [(0, v)] = some ⟨.sl id 0 1 0 1, [], none, some ⟨1, 0, [v]⟩⟩ := by
  have hv := hv.h
  have cv : v.cells = [v] := by cases v <;> first | rfl | cases hv
  have ov : [v].all AV.one = true := by simp [hv]
  simp only [buildSliceA, i28, i33]
  rw [if_pos ⟨by decide, rfl, by decide⟩]
  simp only [fillA, cv, ov, repl]
  rfl
theorem good7 {els evs : AV} {E : List El} {V : List Evt} (hE : ERow els E) (hV : VRow evs V) (hEl : E.length < 1000000) (hVl : V.length < 1000000) (hs : ∀ o ∈ V, o.ns.length + o.es.length < 1000000) :
    GoodK Tryz.prog ⟨7, [.agg [els, evs]], .tup [(causesR E V).1, I (causesR E V).2]⟩ := by
  refine n_run (E := env1) (K := 2000000) (call := call7) env1_ok follows call7_sound (fn := Tryz.f7) (by kernel_rfl) rfl rfl rfl ?_
  show EV env1 _ _ (.seq _ (.seq _ _)) ⟨[.agg [els, evs]] ++ List.replicate 134 .undef, [], 0⟩ _
  generalize hsl : ([.agg [els, evs]] ++ List.replicate 134 AV.undef) = sl
  have hlen : GL sl 135 := ⟨by rw [← hsl]; rfl⟩
  have h0 : GT sl 0 (.agg [els, evs]) := ⟨by rw [← hsl]; rfl⟩
  clear hsl
  have ho1 : One els := ⟨row_one hE⟩
  have ho2 : One evs := ⟨row_one hV⟩
  have hla := la22 hE
  have hlv := la23 hV
  repeat (first | apply n_stp | refine n_add (by omega) ?_ | refine n_sub (by omega) ?_ | apply n_nil | refine n_region ?_ | refine n_region1 ?_ | refine n_assoc ?_ | refine n_skip ?_ | refine n_block ?_ | refine n_block1 ?_ | apply d_stp | refine d_add (by omega) ?_ | refine d_sub (by omega) ?_ | (apply d_nil; refine ⟨?zd, ?_⟩; (case zd => apply dr_reads; first | rfl | (simp; done))) | refine n_draw rfl ?_ | refine n_draw1 rfl ?_)
  refine n_loop (fun i sl st => GL sl 135 ∧ st = [⟨2, 0, [els, evs]⟩] ∧ GT sl 1 (.ptr 0 0 0) ∧ GT sl 4 (I i) ∧ ∀ j (h : j < E.length), j < i → -1 ≤ E[j].ev) E.length (by omega) ?_ ?_
  · exact ⟨inferInstance, rfl, inferInstance, inferInstance, fun j h hj => by omega⟩
  · rintro i sl st low hi ⟨hlen, rfl, h1, h4, hall⟩
    repeat (first | apply n_stp | refine n_add (by omega) ?_ | refine n_sub (by omega) ?_ | apply n_nil | refine n_region ?_ | refine n_region1 ?_ | refine n_assoc ?_ | refine n_skip ?_ | refine n_block ?_ | refine n_block1 ?_ | apply d_stp | refine d_add (by omega) ?_ | refine d_sub (by omega) ?_ | (apply d_nil; refine ⟨?zd, ?_⟩; (case zd => apply dr_reads; first | rfl | (simp; done))) | refine n_draw rfl ?_ | refine n_draw1 rfl ?_)
    apply n_cond (decide ((i : Int) < E.length)) inferInstance
    · intro hlt
      have hlt : i < E.length := by simpa using hlt
      have hia := ia22 hE hlt
      repeat (first | apply n_stp | refine n_add (by omega) ?_ | refine n_sub (by omega) ?_ | apply n_nil | refine n_region ?_ | refine n_region1 ?_ | refine n_assoc ?_ | refine n_skip ?_ | refine n_block ?_ | refine n_block1 ?_ | apply d_stp | refine d_add (by omega) ?_ | refine d_sub (by omega) ?_ | (apply d_nil; refine ⟨?zd, ?_⟩; (case zd => apply dr_reads; first | rfl | (simp; done))) | refine n_draw rfl ?_ | refine n_draw1 rfl ?_)
      apply n_cond1 (decide (E[i].ev < -1)) inferInstance
      · intro hp
        repeat (first | apply n_stp | refine n_add (by omega) ?_ | refine n_sub (by omega) ?_ | apply n_nil | refine n_region ?_ | refine n_region1 ?_ | refine n_assoc ?_ | refine n_skip ?_ | refine n_block ?_ | refine n_block1 ?_ | apply d_stp | refine d_add (by omega) ?_ | refine d_sub (by omega) ?_ | (apply d_nil; refine ⟨?zd, ?_⟩; (case zd => apply dr_reads; first | rfl | (simp; done))) | refine n_draw rfl ?_ | refine n_draw1 rfl ?_)
        refine n_ret1 (aft_ret (rnd_ret (aft_ret ?_)))
        rw [causes_bad1 hlt (by simpa using hp)]
        apply f_two rfl
        rfl
      · intro hp
        have hp : -1 ≤ E[i].ev := by simpa using hp
        refine n_skip1 (aft_next ?_)
        repeat (first | apply n_stp | refine n_add (by omega) ?_ | refine n_sub (by omega) ?_ | apply n_nil | refine n_region ?_ | refine n_region1 ?_ | refine n_assoc ?_ | refine n_skip ?_ | refine n_block ?_ | refine n_block1 ?_ | apply d_stp | refine d_add (by omega) ?_ | refine d_sub (by omega) ?_ | (apply d_nil; refine ⟨?zd, ?_⟩; (case zd => apply dr_reads; first | rfl | (simp; done))) | refine n_draw rfl ?_ | refine n_draw1 rfl ?_)
        refine rnd_next hlt ⟨inferInstance, rfl, inferInstance, inferInstance, fun j h hj => ?_⟩
        rcases Nat.lt_or_ge j i with h' | h'
        · exact hall j h h'
        · have : j = i := by omega
          subst this; exact hp
    · intro hge
      have hge : ¬ i < E.length := by simpa using hge
      have hall1 : ∀ j (h : j < E.length), -1 ≤ E[j].ev := fun j h => hall j h (by omega)
      refine n_exit (rnd_exit (aft_exit ?_))
      repeat (first | apply n_stp | refine n_add (by omega) ?_ | refine n_sub (by omega) ?_ | apply n_nil | refine n_region ?_ | refine n_region1 ?_ | refine n_assoc ?_ | refine n_skip ?_ | refine n_block ?_ | refine n_block1 ?_ | apply d_stp | refine d_add (by omega) ?_ | refine d_sub (by omega) ?_ | (apply d_nil; refine ⟨?zd, ?_⟩; (case zd => apply dr_reads; first | rfl | (simp; done))) | refine n_draw rfl ?_ | refine n_draw1 rfl ?_)
      refine n_loop (fun i sl st => GL sl 135 ∧ st = [⟨2, 0, [els, evs]⟩] ∧ GT sl 1 (.ptr 0 0 0) ∧ GT sl 5 (I i) ∧ ∀ j, j < i → (uAt V j).all (okK E j) = true) V.length (by omega) ?_ ?_
      · exact ⟨inferInstance, rfl, inferInstance, inferInstance, fun j h => by omega⟩
      · rintro i sl st low hi ⟨hlen, rfl, h1, h5, hall⟩
        repeat (first | apply n_stp | refine n_add (by omega) ?_ | refine n_sub (by omega) ?_ | apply n_nil | refine n_region ?_ | refine n_region1 ?_ | refine n_assoc ?_ | refine n_skip ?_ | refine n_block ?_ | refine n_block1 ?_ | apply d_stp | refine d_add (by omega) ?_ | refine d_sub (by omega) ?_ | (apply d_nil; refine ⟨?zd, ?_⟩; (case zd => apply dr_reads; first | rfl | (simp; done))) | refine n_draw rfl ?_ | refine n_draw1 rfl ?_)
        apply n_cond (decide ((i : Int) < V.length)) inferInstance
        · intro hlt
          have hlt : i < V.length := by simpa using hlt
          have hia := ia23 hV hlt
          have hul : V[i].ns.length + V[i].es.length < 1000000 := hs _ (List.getElem_mem hlt)
          repeat (first | apply n_stp | refine n_add (by omega) ?_ | refine n_sub (by omega) ?_ | apply n_nil | refine n_region ?_ | refine n_region1 ?_ | refine n_assoc ?_ | refine n_skip ?_ | refine n_block ?_ | refine n_block1 ?_ | apply d_stp | refine d_add (by omega) ?_ | refine d_sub (by omega) ?_ | (apply d_nil; refine ⟨?zd, ?_⟩; (case zd => apply dr_reads; first | rfl | (simp; done))) | refine n_draw rfl ?_ | refine n_draw1 rfl ?_)
          (apply n_call ?zz; (case zz => exact call7_20 hul))
          have huu := uAt_eq hlt
          generalize hU : usedE V[i] = U at huu
          have hUl : U.length < 1000000 := by rw [← hU]; simpa using hul
          have hlu := la33 (irow_imm U)
          repeat (first | apply n_stp | refine n_add (by omega) ?_ | refine n_sub (by omega) ?_ | apply n_nil | refine n_region ?_ | refine n_region1 ?_ | refine n_assoc ?_ | refine n_skip ?_ | refine n_block ?_ | refine n_block1 ?_ | apply d_stp | refine d_add (by omega) ?_ | refine d_sub (by omega) ?_ | (apply d_nil; refine ⟨?zd, ?_⟩; (case zd => apply dr_reads; first | rfl | (simp; done))) | refine n_draw rfl ?_ | refine n_draw1 rfl ?_)
          refine n_loop (fun k sl st => GL sl 135 ∧ st = [⟨2, 0, [els, evs]⟩] ∧ GT sl 1 (.ptr 0 0 0) ∧ GT sl 5 (I i) ∧ GT sl 6 (.imm U.length (U.map I)) ∧ GT sl 7 (I k) ∧ ∀ m, m < k → okK E i (U.getD m 0) = true) U.length (by omega) ?_ ?_
          · exact ⟨inferInstance, rfl, inferInstance, inferInstance, inferInstance, inferInstance, fun j h => by omega⟩
          · rintro k sl st low hk ⟨hlen, rfl, h1, h5, h6, h7, hok⟩
            repeat (first | apply n_stp | refine n_add (by omega) ?_ | refine n_sub (by omega) ?_ | apply n_nil | refine n_region ?_ | refine n_region1 ?_ | refine n_assoc ?_ | refine n_skip ?_ | refine n_block ?_ | refine n_block1 ?_ | apply d_stp | refine d_add (by omega) ?_ | refine d_sub (by omega) ?_ | (apply d_nil; refine ⟨?zd, ?_⟩; (case zd => apply dr_reads; first | rfl | (simp; done))) | refine n_draw rfl ?_ | refine n_draw1 rfl ?_)
            apply n_cond (decide ((k : Int) < U.length)) inferInstance
            · intro hkl
              have hkl : k < U.length := by simpa using hkl
              obtain ⟨rest, hiu⟩ := ia33k (irow_imm U) hkl
              have hzm : U.getD k 0 ∈ uAt V i := by rw [huu]; exact getD_mem hkl
              generalize hz : U.getD k 0 = z at hiu hzm
              by_cases hz0 : z < 0
              · have e1 : Eqv (decide (z < 0)) true := ⟨decide_eq_true hz0⟩
                repeat (first | apply n_stp | refine n_add (by omega) ?_ | refine n_sub (by omega) ?_ | apply n_nil | refine n_region ?_ | refine n_region1 ?_ | refine n_assoc ?_ | refine n_skip ?_ | refine n_block ?_ | refine n_block1 ?_ | apply d_stp | refine d_add (by omega) ?_ | refine d_sub (by omega) ?_ | (apply d_nil; refine ⟨?zd, ?_⟩; (case zd => apply dr_reads; first | rfl | (simp; done))) | refine n_draw rfl ?_ | refine n_draw1 rfl ?_)
                apply n_cond1 true inferInstance
                · intro _
                  repeat (first | apply n_stp | refine n_add (by omega) ?_ | refine n_sub (by omega) ?_ | apply n_nil | refine n_region ?_ | refine n_region1 ?_ | refine n_assoc ?_ | refine n_skip ?_ | refine n_block ?_ | refine n_block1 ?_ | apply d_stp | refine d_add (by omega) ?_ | refine d_sub (by omega) ?_ | (apply d_nil; refine ⟨?zd, ?_⟩; (case zd => apply dr_reads; first | rfl | (simp; done))) | refine n_draw rfl ?_ | refine n_draw1 rfl ?_)
                  refine n_ret1 (aft_ret (rnd_ret (aft_ret (aft_ret (rnd_ret (aft_ret ?_))))))
                  rw [causes_bad2 hlt hzm (okK_no (by omega))]
                  apply f_two rfl
                  rfl
                · intro h; cases h
              have e1 : Eqv (decide (z < 0)) false := ⟨decide_eq_false hz0⟩
              by_cases hz1 : z ≥ E.length
              · have e2 : Eqv (decide (z ≥ (E.length : Int))) true := ⟨decide_eq_true hz1⟩
                repeat (first | apply n_stp | refine n_add (by omega) ?_ | refine n_sub (by omega) ?_ | apply n_nil | refine n_region ?_ | refine n_region1 ?_ | refine n_assoc ?_ | refine n_skip ?_ | refine n_block ?_ | refine n_block1 ?_ | apply d_stp | refine d_add (by omega) ?_ | refine d_sub (by omega) ?_ | (apply d_nil; refine ⟨?zd, ?_⟩; (case zd => apply dr_reads; first | rfl | (simp; done))) | refine n_draw rfl ?_ | refine n_draw1 rfl ?_)
                apply n_cond1 true inferInstance
                · intro _
                  repeat (first | apply n_stp | refine n_add (by omega) ?_ | refine n_sub (by omega) ?_ | apply n_nil | refine n_region ?_ | refine n_region1 ?_ | refine n_assoc ?_ | refine n_skip ?_ | refine n_block ?_ | refine n_block1 ?_ | apply d_stp | refine d_add (by omega) ?_ | refine d_sub (by omega) ?_ | (apply d_nil; refine ⟨?zd, ?_⟩; (case zd => apply dr_reads; first | rfl | (simp; done))) | refine n_draw rfl ?_ | refine n_draw1 rfl ?_)
                  refine n_ret1 (aft_ret (rnd_ret (aft_ret (aft_ret (rnd_ret (aft_ret ?_))))))
                  rw [causes_bad2 hlt hzm (okK_no (by omega))]
                  apply f_two rfl
                  rfl
                · intro h; cases h
              have e2 : Eqv (decide (z ≥ (E.length : Int))) false := ⟨decide_eq_false hz1⟩
              obtain ⟨a, b, c, d, rest2, hie⟩ := ia22k hE (k := z) (by omega) (by omega)
              repeat (first | apply n_stp | refine n_add (by omega) ?_ | refine n_sub (by omega) ?_ | apply n_nil | refine n_region ?_ | refine n_region1 ?_ | refine n_assoc ?_ | refine n_skip ?_ | refine n_block ?_ | refine n_block1 ?_ | apply d_stp | refine d_add (by omega) ?_ | refine d_sub (by omega) ?_ | (apply d_nil; refine ⟨?zd, ?_⟩; (case zd => apply dr_reads; first | rfl | (simp; done))) | refine n_draw rfl ?_ | refine n_draw1 rfl ?_)
              apply n_cond1 (decide (evK E z ≥ i)) inferInstance
              · intro hp
                have hp : evK E z ≥ i := by simpa using hp
                repeat (first | apply n_stp | refine n_add (by omega) ?_ | refine n_sub (by omega) ?_ | apply n_nil | refine n_region ?_ | refine n_region1 ?_ | refine n_assoc ?_ | refine n_skip ?_ | refine n_block ?_ | refine n_block1 ?_ | apply d_stp | refine d_add (by omega) ?_ | refine d_sub (by omega) ?_ | (apply d_nil; refine ⟨?zd, ?_⟩; (case zd => apply dr_reads; first | rfl | (simp; done))) | refine n_draw rfl ?_ | refine n_draw1 rfl ?_)
                refine n_ret1 (aft_ret (rnd_ret (aft_ret (aft_ret (rnd_ret (aft_ret ?_))))))
                rw [causes_bad2 hlt hzm (okK_no (by omega))]
                apply f_two rfl
                rfl
              · intro hp
                have hp : ¬ evK E z ≥ i := by simpa using hp
                refine n_skip1 (aft_next ?_)
                repeat (first | apply n_stp | refine n_add (by omega) ?_ | refine n_sub (by omega) ?_ | apply n_nil | refine n_region ?_ | refine n_region1 ?_ | refine n_assoc ?_ | refine n_skip ?_ | refine n_block ?_ | refine n_block1 ?_ | apply d_stp | refine d_add (by omega) ?_ | refine d_sub (by omega) ?_ | (apply d_nil; refine ⟨?zd, ?_⟩; (case zd => apply dr_reads; first | rfl | (simp; done))) | refine n_draw rfl ?_ | refine n_draw1 rfl ?_)
                refine rnd_next hkl ⟨inferInstance, rfl, inferInstance, inferInstance, inferInstance, inferInstance, fun m hm => ?_⟩
                rcases Nat.lt_or_ge m k with h' | h'
                · exact hok m h'
                · have : m = k := by omega
                  subst this; rw [hz]; exact okK_iff.2 (by omega)
            · intro hge
              have hge : ¬ k < U.length := by simpa using hge
              refine n_exit (rnd_exit (aft_exit ?_))
              repeat (first | apply n_stp | refine n_add (by omega) ?_ | refine n_sub (by omega) ?_ | apply n_nil | refine n_region ?_ | refine n_region1 ?_ | refine n_assoc ?_ | refine n_skip ?_ | refine n_block ?_ | refine n_block1 ?_ | apply d_stp | refine d_add (by omega) ?_ | refine d_sub (by omega) ?_ | (apply d_nil; refine ⟨?zd, ?_⟩; (case zd => apply dr_reads; first | rfl | (simp; done))) | refine n_draw rfl ?_ | refine n_draw1 rfl ?_)
              refine rnd_next hlt ⟨inferInstance, rfl, inferInstance, inferInstance, fun j hj => ?_⟩
              rcases Nat.lt_or_ge j i with h' | h'
              · exact hall j h'
              · have : j = i := by omega
                subst this; rw [huu]; exact all_getD fun m hm => hok m (by omega)
        · intro hge
          have hge : ¬ i < V.length := by simpa using hge
          have hall2 : ∀ j, j < V.length → (uAt V j).all (okK E j) = true := fun j h => hall j (by omega)
          rw [causes_good hall1 hall2]
          refine n_exit (rnd_exit (aft_exit ?_))
          repeat (first | apply n_stp | refine n_add (by omega) ?_ | refine n_sub (by omega) ?_ | apply n_nil | refine n_region ?_ | refine n_region1 ?_ | refine n_assoc ?_ | refine n_skip ?_ | refine n_block ?_ | refine n_block1 ?_ | apply d_stp | refine d_add (by omega) ?_ | refine d_sub (by omega) ?_ | (apply d_nil; refine ⟨?zd, ?_⟩; (case zd => apply dr_reads; first | rfl | (simp; done))) | refine n_draw rfl ?_ | refine n_draw1 rfl ?_)
          refine n_loop (fun i sl st => GL sl 135 ∧ GT sl 1 (.ptr 0 0 0) ∧ BK st 0 ⟨2, 0, [els, evs]⟩ ∧ GT sl 9 (I i) ∧ ∃ out cs, GT sl 8 out ∧ CellsG st out cs (rowsN E V i) ∧ (out = .nils ∨ rowsN E V i ≠ [])) V.length (by omega) ?_ ?_
          · exact ⟨inferInstance, inferInstance, inferInstance, inferInstance, .nils, [], inferInstance, .nil, .inl rfl⟩
          · rintro i sl st low hi ⟨hlen, h1, hbk, h9, out, cs, h8, hc, hn⟩
            repeat (first | apply n_stp | refine n_add (by omega) ?_ | refine n_sub (by omega) ?_ | apply n_nil | refine n_region ?_ | refine n_region1 ?_ | refine n_assoc ?_ | refine n_skip ?_ | refine n_block ?_ | refine n_block1 ?_ | apply d_stp | refine d_add (by omega) ?_ | refine d_sub (by omega) ?_ | (apply d_nil; refine ⟨?zd, ?_⟩; (case zd => apply dr_reads; first | rfl | (simp; done))) | refine n_draw rfl ?_ | refine n_draw1 rfl ?_)
            apply n_cond (decide ((i : Int) < V.length)) inferInstance
            · intro hlt
              have hlt : i < V.length := by simpa using hlt
              have hia := ia23 hV hlt
              have hul : V[i].ns.length + V[i].es.length < 1000000 := hs _ (List.getElem_mem hlt)
              repeat (first | apply n_stp | refine n_add (by omega) ?_ | refine n_sub (by omega) ?_ | apply n_nil | refine n_region ?_ | refine n_region1 ?_ | refine n_assoc ?_ | refine n_skip ?_ | refine n_block ?_ | refine n_block1 ?_ | apply d_stp | refine d_add (by omega) ?_ | refine d_sub (by omega) ?_ | (apply d_nil; refine ⟨?zd, ?_⟩; (case zd => apply dr_reads; first | rfl | (simp; done))) | refine n_draw rfl ?_ | refine n_draw1 rfl ?_)
              (apply n_step (q_makeSlice ?a0 ?a1 ?a2 ?a3); (case a0 => exact wnt_go); (case a1 => infer_instance); (case a2 => infer_instance); (case a3 => exact ms58 (by omega)))
              repeat (first | apply n_stp | refine n_add (by omega) ?_ | refine n_sub (by omega) ?_ | apply n_nil | refine n_region ?_ | refine n_region1 ?_ | refine n_assoc ?_ | refine n_skip ?_ | refine n_block ?_ | refine n_block1 ?_ | apply d_stp | refine d_add (by omega) ?_ | refine d_sub (by omega) ?_ | (apply d_nil; refine ⟨?zd, ?_⟩; (case zd => apply dr_reads; first | rfl | (simp; done))) | refine n_draw rfl ?_ | refine n_draw1 rfl ?_)
              (apply n_call ?zz; (case zz => exact call7_20 hul))
              have huu := uAt_eq hlt
              generalize hU : usedE V[i] = U at huu
              have hUl : U.length < 1000000 := by rw [← hU]; simpa using hul
              have hlu := la33 (irow_imm U)
              have hUok := hall2 i hlt
              rw [huu, List.all_eq_true] at hUok
              generalize hR : rowsN E V i = R at hc hn
              have hRl : R.length = i := by rw [← hR, rowsN_len]
              repeat (first | apply n_stp | refine n_add (by omega) ?_ | refine n_sub (by omega) ?_ | apply n_nil | refine n_region ?_ | refine n_region1 ?_ | refine n_assoc ?_ | refine n_skip ?_ | refine n_block ?_ | refine n_block1 ?_ | apply d_stp | refine d_add (by omega) ?_ | refine d_sub (by omega) ?_ | (apply d_nil; refine ⟨?zd, ?_⟩; (case zd => apply dr_reads; first | rfl | (simp; done))) | refine n_draw rfl ?_ | refine n_draw1 rfl ?_)
              refine n_loop (fun k sl st' => GL sl 135 ∧ GT sl 1 (.ptr 0 0 0) ∧ GT sl 9 (I i) ∧ GT sl 8 out ∧ GT sl 10 (.sl st.length 0 i 0 1) ∧ GT sl 11 (.imm U.length (U.map I)) ∧ GT sl 12 (I k) ∧ st' = st ++ [⟨1, 0, (mks (raw E R (U.take k)) i).map AV.bool⟩]) U.length (by omega) ?_ ?_
              · exact ⟨inferInstance, inferInstance, inferInstance, inferInstance, inferInstance, inferInstance, inferInstance, rfl⟩
              · rintro k sl st' low hk ⟨hlen, h1, h9, h8, h10, h11, h12, rfl⟩
                repeat (first | apply n_stp | refine n_add (by omega) ?_ | refine n_sub (by omega) ?_ | apply n_nil | refine n_region ?_ | refine n_region1 ?_ | refine n_assoc ?_ | refine n_skip ?_ | refine n_block ?_ | refine n_block1 ?_ | apply d_stp | refine d_add (by omega) ?_ | refine d_sub (by omega) ?_ | (apply d_nil; refine ⟨?zd, ?_⟩; (case zd => apply dr_reads; first | rfl | (simp; done))) | refine n_draw rfl ?_ | refine n_draw1 rfl ?_)
                apply n_cond (decide ((k : Int) < U.length)) inferInstance
                · intro hkl
                  have hkl : k < U.length := by simpa using hkl
                  obtain ⟨rest, hiu⟩ := ia33k (irow_imm U) hkl
                  obtain ⟨hz0, hz1, hz2⟩ := okK_iff.1 (hUok _ (getD_mem hkl))
                  have hrs := raw_succ (E := E) (R := R) hkl
                  generalize hz : U.getD k 0 = z at hiu hz0 hz1 hz2 hrs
                  obtain ⟨a, b, c, d, rest2, hie⟩ := ia22k hE hz0 hz1
                  repeat (first | apply n_stp | refine n_add (by omega) ?_ | refine n_sub (by omega) ?_ | apply n_nil | refine n_region ?_ | refine n_region1 ?_ | refine n_assoc ?_ | refine n_skip ?_ | refine n_block ?_ | refine n_block1 ?_ | apply d_stp | refine d_add (by omega) ?_ | refine d_sub (by omega) ?_ | (apply d_nil; refine ⟨?zd, ?_⟩; (case zd => apply dr_reads; first | rfl | (simp; done))) | refine n_draw rfl ?_ | refine n_draw1 rfl ?_)
                  apply n_cond1 (decide (evK E z ≥ 0)) inferInstance
                  · intro he
                    have he : 0 ≤ evK E z := by simpa using he
                    rw [raw1_pos he] at hrs
                    generalize hev : evK E z = e at he hz2 hrs hie
                    generalize hC : raw E R (U.take k) = C at hrs
                    have hel : e.toNat < R.length := by omega
                    have hel2 : e.toNat < cs.length := by rw [hc.len]; exact hel
                    obtain ⟨ob, over, hout, hob⟩ := hc.out.sl (by omega)
                    have hcell := hc.cell e.toNat _ _ (List.getElem?_eq_getElem hel2) (List.getElem?_eq_getElem hel)
                    have hRe : R.getD e.toNat [] = R[e.toNat] := by simp [List.getD_eq_getElem?_getD, hel]
                    have hRm := rowsN_mem E V i e.toNat
                    rw [hR] at hRm
                    rw [hRe] at hrs hRm
                    have hRlen : R[e.toNat].length ≤ i := by
                      have := row_len E V i e.toNat
                      rw [hR, hRe] at this; exact this
                    generalize R[e.toNat] = Re at hrs hRm hcell hRe hRlen
                    have hrbv : RB env1 33 ⟨1, over, cs⟩ e.toNat over cs[e.toNat] := rb28 (k := ⟨1, over, cs⟩) (List.getElem?_eq_getElem hel2)
                    generalize cs[e.toNat] = v at hcell hrbv
                    have hlv := hcell.la
                    subst hout
                    have hi28 : IA env1 28 (.sl ob 0 cs.length over 1) (I e) (.ptr ob e.toNat over) := ia28s he (by omega)
                    have hbo : BK st ob ⟨1, over, cs⟩ := ⟨hob⟩
                    have hi58 : IA env1 58 (.sl st.length 0 i 0 1) (I e) (.ptr st.length e.toNat 0) := ia58s he hz2
                    have hsb : SB env1 4 ⟨1, 0, (mks C i).map AV.bool⟩ e.toNat 0 (.bool true) ⟨1, 0, ((mks C i).map AV.bool).set e.toNat (.bool true)⟩ := st4 (k := ⟨1, 0, (mks C i).map AV.bool⟩) (by simp [mks_len]; omega)
                    repeat (first | apply n_stp | refine n_add (by omega) ?_ | refine n_sub (by omega) ?_ | apply n_nil | refine n_region ?_ | refine n_region1 ?_ | refine n_assoc ?_ | refine n_skip ?_ | refine n_block ?_ | refine n_block1 ?_ | apply d_stp | refine d_add (by omega) ?_ | refine d_sub (by omega) ?_ | (apply d_nil; refine ⟨?zd, ?_⟩; (case zd => apply dr_reads; first | rfl | (simp; done))) | refine n_draw rfl ?_ | refine n_draw1 rfl ?_)
                    refine n_loop (fun m sl st' => GL sl 135 ∧ GT sl 1 (.ptr 0 0 0) ∧ GT sl 9 (I i) ∧ GT sl 8 (.sl ob 0 cs.length over 1) ∧ GT sl 10 (.sl st.length 0 i 0 1) ∧ GT sl 11 (.imm U.length (U.map I)) ∧ GT sl 12 (I k) ∧ GT sl 13 (I e) ∧ GT sl 14 (I m) ∧ st' = st ++ [⟨1, 0, (mks (C ++ e :: Re.take m) i).map AV.bool⟩]) Re.length (by omega) ?_ ?_
                    · refine ⟨inferInstance, inferInstance, inferInstance, inferInstance, inferInstance, inferInstance, inferInstance, inferInstance, inferInstance, ?_⟩
                      rw [set_last, mks_setv he hz2]; simp
                    · rintro m sl st' low hm ⟨hlen, h1, h9, h8, h10, h11, h12, h13, h14, rfl⟩
                      repeat (first | apply n_stp | refine n_add (by omega) ?_ | refine n_sub (by omega) ?_ | apply n_nil | refine n_region ?_ | refine n_region1 ?_ | refine n_assoc ?_ | refine n_skip ?_ | refine n_block ?_ | refine n_block1 ?_ | apply d_stp | refine d_add (by omega) ?_ | refine d_sub (by omega) ?_ | (apply d_nil; refine ⟨?zd, ?_⟩; (case zd => apply dr_reads; first | rfl | (simp; done))) | refine n_draw rfl ?_ | refine n_draw1 rfl ?_)
                      apply n_cond (decide ((m : Int) < Re.length)) inferInstance
                      · intro hml
                        have hml : m < Re.length := by simpa using hml
                        rcases hcell with ⟨rfl, h⟩ | ⟨_, b', ver', rest', rfl, hb'⟩
                        · subst h; simp at hml
                        have hbv : BK st b' ⟨1, ver', Re.map I ++ rest'⟩ := ⟨hb'⟩
                        have hiv : IA env1 33 (.sl b' 0 Re.length ver' 1) (I m) (.ptr b' m ver') := ia_sl hml
                        have hrv : RB env1 3 ⟨1, ver', Re.map I ++ rest'⟩ m ver' (I (Re.getD m 0)) := rb_one i3 rfl rfl (by simp [List.getElem?_append, hml, List.getD_eq_getElem?_getD])
                        have hxm := hRm _ (getD_mem hml)
                        generalize hx : Re.getD m 0 = x at hrv hxm
                        have hi58x : IA env1 58 (.sl st.length 0 i 0 1) (I x) (.ptr st.length x.toNat 0) := ia58s hxm.1 (by omega)
                        have hsbx : SB env1 4 ⟨1, 0, (mks (C ++ e :: Re.take m) i).map AV.bool⟩ x.toNat 0 (.bool true) ⟨1, 0, ((mks (C ++ e :: Re.take m) i).map AV.bool).set x.toNat (.bool true)⟩ := st4 (k := ⟨1, 0, (mks (C ++ e :: Re.take m) i).map AV.bool⟩) (by simp [mks_len]; omega)
                        repeat (first | apply n_stp | refine n_add (by omega) ?_ | refine n_sub (by omega) ?_ | apply n_nil | refine n_region ?_ | refine n_region1 ?_ | refine n_assoc ?_ | refine n_skip ?_ | refine n_block ?_ | refine n_block1 ?_ | apply d_stp | refine d_add (by omega) ?_ | refine d_sub (by omega) ?_ | (apply d_nil; refine ⟨?zd, ?_⟩; (case zd => apply dr_reads; first | rfl | (simp; done))) | refine n_draw rfl ?_ | refine n_draw1 rfl ?_)
                        refine rnd_next hml ⟨inferInstance, inferInstance, inferInstance, inferInstance, inferInstance, inferInstance, inferInstance, inferInstance, inferInstance, ?_⟩
                        rw [set_last, mks_setv hxm.1 (by omega)]
                        rw [List.take_add_one]
                        have : Re[m]? = some x := by rw [← hx]; simp [List.getD_eq_getElem?_getD, hml]
                        rw [this]; simp
                      · intro hge
                        have hge : ¬ m < Re.length := by simpa using hge
                        have hmR : m = Re.length := by omega
                        subst hmR
                        refine n_exit (rnd_exit (aft_exit ?_))
                        repeat (first | apply n_stp | refine n_add (by omega) ?_ | refine n_sub (by omega) ?_ | apply n_nil | refine n_region ?_ | refine n_region1 ?_ | refine n_assoc ?_ | refine n_skip ?_ | refine n_block ?_ | refine n_block1 ?_ | apply d_stp | refine d_add (by omega) ?_ | refine d_sub (by omega) ?_ | (apply d_nil; refine ⟨?zd, ?_⟩; (case zd => apply dr_reads; first | rfl | (simp; done))) | refine n_draw rfl ?_ | refine n_draw1 rfl ?_)
                        refine rnd_next hkl ⟨inferInstance, inferInstance, inferInstance, inferInstance, inferInstance, inferInstance, inferInstance, ?_⟩
                        rw [hrs, List.take_length]
                  · intro he
                    have he : ¬ 0 ≤ evK E z := by simpa using he
                    rw [raw1_neg he, List.append_nil] at hrs
                    refine n_skip1 (aft_next ?_)
                    repeat (first | apply n_stp | refine n_add (by omega) ?_ | refine n_sub (by omega) ?_ | apply n_nil | refine n_region ?_ | refine n_region1 ?_ | refine n_assoc ?_ | refine n_skip ?_ | refine n_block ?_ | refine n_block1 ?_ | apply d_stp | refine d_add (by omega) ?_ | refine d_sub (by omega) ?_ | (apply d_nil; refine ⟨?zd, ?_⟩; (case zd => apply dr_reads; first | rfl | (simp; done))) | refine n_draw rfl ?_ | refine n_draw1 rfl ?_)
                    refine rnd_next hkl ⟨inferInstance, inferInstance, inferInstance, inferInstance, inferInstance, inferInstance, inferInstance, ?_⟩
                    rw [hrs]
                · intro hge
                  have hge : ¬ k < U.length := by simpa using hge
                  have hkU : k = U.length := by omega
                  subst hkU
                  rw [List.take_length]
                  refine n_exit (rnd_exit (aft_exit ?_))
                  obtain ⟨x, st3, low3, hcall, hle, hfr, hcx, hnew⟩ := call7_21 (st := st) (k := ⟨1, 0, (mks (raw E R U) i).map AV.bool⟩) (mks_len _ i) rfl (by omega)
                  repeat (first | apply n_stp | refine n_add (by omega) ?_ | refine n_sub (by omega) ?_ | apply n_nil | refine n_region ?_ | refine n_region1 ?_ | refine n_assoc ?_ | refine n_skip ?_ | refine n_block ?_ | refine n_block1 ?_ | apply d_stp | refine d_add (by omega) ?_ | refine d_sub (by omega) ?_ | (apply d_nil; refine ⟨?zd, ?_⟩; (case zd => apply dr_reads; first | rfl | (simp; done))) | refine n_draw rfl ?_ | refine n_draw1 rfl ?_)
                  (apply n_call ?zz; (case zz => exact hcall))
                  repeat (first | apply n_stp | refine n_add (by omega) ?_ | refine n_sub (by omega) ?_ | apply n_nil | refine n_region ?_ | refine n_region1 ?_ | refine n_assoc ?_ | refine n_skip ?_ | refine n_block ?_ | refine n_block1 ?_ | apply d_stp | refine d_add (by omega) ?_ | refine d_sub (by omega) ?_ | (apply d_nil; refine ⟨?zd, ?_⟩; (case zd => apply dr_reads; first | rfl | (simp; done))) | refine n_draw rfl ?_ | refine n_draw1 rfl ?_)
                  (apply n_bs ?zz; (case zz => exact bs28a hcx.one))
                  repeat (first | apply n_stp | refine n_add (by omega) ?_ | refine n_sub (by omega) ?_ | apply n_nil | refine n_region ?_ | refine n_region1 ?_ | refine n_assoc ?_ | refine n_skip ?_ | refine n_block ?_ | refine n_block1 ?_ | apply d_stp | refine d_add (by omega) ?_ | refine d_sub (by omega) ?_ | (apply d_nil; refine ⟨?zd, ?_⟩; (case zd => apply dr_reads; first | rfl | (simp; done))) | refine n_draw rfl ?_ | refine n_draw1 rfl ?_)
                  have hol := hc.out.lt
                  have hout3 : OutG st3 out cs := hc.out.frame fun b hb => hfr b (hol b hb)
                  apply n_app i28 i33 ⟨by decide, by decide⟩ ?a0 ?a1 ?a2 ?a3 ?a4 ?a5 ?a6
                  case a0 => exact wnt_go
                  case a1 => infer_instance
                  case a2 => infer_instance
                  case a3 => exact hout3.app _
                  case a4 => exact SrcG.one
                  case a5 => simp [hcx.one.h]
                  case a6 => rw [hc.len, hRl]; simp; omega
                  intro out' st5 low5 f ha
                  have hc' := hc.push hcx hfr (by omega) (fun b hb => Nat.le_of_lt (hnew b hb)) ha
                  have hbk5 : BK st5 0 ⟨2, 0, [els, evs]⟩ := ⟨by
                    have h00 := (List.getElem?_eq_some_iff.1 hbk.h).1
                    rw [ha.frame 0 (by simp) (by
                      rintro o n v s rfl
                      rcases hc.out with ⟨h, _⟩ | ⟨b, ver, h, hb⟩
                      · cases h
                      · cases h
                        have := hbk.h
                        rw [hb] at this; cases this), List.getElem?_append_left (by omega), hfr 0 h00]
                    exact hbk.h⟩
                  repeat (first | apply n_stp | refine n_add (by omega) ?_ | refine n_sub (by omega) ?_ | apply n_nil | refine n_region ?_ | refine n_region1 ?_ | refine n_assoc ?_ | refine n_skip ?_ | refine n_block ?_ | refine n_block1 ?_ | apply d_stp | refine d_add (by omega) ?_ | refine d_sub (by omega) ?_ | (apply d_nil; refine ⟨?zd, ?_⟩; (case zd => apply dr_reads; first | rfl | (simp; done))) | refine n_draw rfl ?_ | refine n_draw1 rfl ?_)
                  refine rnd_next hlt ⟨inferInstance, inferInstance, inferInstance, inferInstance, out', cs ++ [x], inferInstance, ?_, .inr ?_⟩
                  · rw [rowsN_eq, hR, huu]; exact hc'
                  · rw [rowsN_eq]; simp
            · intro hge
              have hge : ¬ i < V.length := by simpa using hge
              have hiV : i = V.length := by omega
              subst hiV
              refine n_exit (rnd_exit (aft_exit ?_))
              repeat (first | apply n_stp | refine n_add (by omega) ?_ | refine n_sub (by omega) ?_ | apply n_nil | refine n_region ?_ | refine n_region1 ?_ | refine n_assoc ?_ | refine n_skip ?_ | refine n_block ?_ | refine n_block1 ?_ | apply d_stp | refine d_add (by omega) ?_ | refine d_sub (by omega) ?_ | (apply d_nil; refine ⟨?zd, ?_⟩; (case zd => apply dr_reads; first | rfl | (simp; done))) | refine n_draw rfl ?_ | refine n_draw1 rfl ?_)
              refine n_ret1 ?_
              apply f_two rfl
              exact fresh_tup2 (hc.fresh hn) rfl
end Go.Proofs.YteaifkpmfbgekaaGreatDoor
