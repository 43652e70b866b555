/- What one operation comes to, one rule a kind. -/
import Derived.Test.YteaifkpmfbgekaaGreatDoorB6
set_option linter.all false
set_option linter.deprecated false
namespace Go.Proofs.YteaifkpmfbgekaaGreatDoor.M
open Go
def notCall : Op → Bool
  | .call { callee := .value _, .. } => false
  | _ => true
section
variable {E : Env} {call : CallR} {ops : Array Oper} {sl : List AV} {st : List Blk} {low : Nat} {d : Tmp} {ty : TypeId} {pos : String} {af : Array Edge} {g : Option (Nat × Bool)}

theorem o_tmp {t : Nat} {v : AV} (h : sl[t]? = some v) : opdA sl (.tmp t) = some v := h
theorem o_func {f : FuncId} : opdA sl (.func f) = some (.fn f []) := rfl
theorem o_const {c : Value} {v : AV} (h : AV.ofV c = some v) : opdA sl (.const c) = some v := h

theorem st_eff {o : Oper} {e : Eff} (hw : wantedA ops sl o = true) (hn : notCall o.op = true) (he : effA E sl (seeA (needA sl o.op) fun b => st[b]?) st.length o.op = some e) (hwr : wrOk st (needA sl o.op) e = true) :
    stepA E call ops o ⟨sl, st, low⟩ = some (⟨putA sl o.dst e.res, effApply st e, (match e.wr with | some (b, _) => min low b | none => low)⟩, ⟨false, false, needA sl o.op, e.wr.map (·.1), st.length, (effApply st e).length⟩) := by
  obtain ⟨dst, op, ty, pos, af, g⟩ := o
  have aux : ∀ f args tys, op ≠ .call ⟨.value f, args, tys⟩ := by
    intro f args tys e; subst e; simp [notCall] at hn
  unfold stepA
  rw [if_pos hw]
  split
  · rename_i f args tys heq; exact absurd heq (aux f args tys)
  · simp only [he, hwr, if_true]; rfl

/-- The footprint of an operation that touches nothing. -/
abbrev ft0 (st : List Blk) (rd : List Nat := []) : Foot := ⟨false, false, rd, none, st.length, st.length⟩

theorem st_off {o : Oper} (hw : wantedA ops sl o = false) : stepA E call ops o ⟨sl, st, low⟩ = some (⟨putA sl o.dst .undef, st, low⟩, ft0 st) := by
  unfold stepA
  rw [if_neg (by rw [hw]; simp)]

theorem st_pure {op : Op} {r : AV} {rd : List Nat} (hw : wantedA ops sl ⟨some d, op, ty, pos, af, g⟩ = true) (hn : notCall op = true) (he : effA E sl (seeA (needA sl op) fun b => st[b]?) st.length op = some ⟨r, rd, none, none⟩) :
    stepA E call ops ⟨some d, op, ty, pos, af, g⟩ ⟨sl, st, low⟩ = some (⟨sl.set d r, st, low⟩, ft0 st (needA sl op)) :=
  st_eff hw hn he rfl

theorem st_move {x : Operand} {v : AV} (hw : wantedA ops sl ⟨some d, .move x, ty, pos, af, g⟩ = true) (hx : opdA sl x = some v) :
    stepA E call ops ⟨some d, .move x, ty, pos, af, g⟩ ⟨sl, st, low⟩ = some (⟨sl.set d v, st, low⟩, ft0 st) := st_pure hw rfl (by simp only [effA, hx]; rfl)
theorem st_assign {x : Operand} {v : AV} (hw : wantedA ops sl ⟨some d, .assign x, ty, pos, af, g⟩ = true) (hx : opdA sl x = some v) :
    stepA E call ops ⟨some d, .assign x, ty, pos, af, g⟩ ⟨sl, st, low⟩ = some (⟨sl.set d v, st, low⟩, ft0 st) := st_pure hw rfl (by simp only [effA, hx]; rfl)
theorem st_pick {c a b : Operand} {t : Bool} {x y : AV} (hw : wantedA ops sl ⟨some d, .pick c a b, ty, pos, af, g⟩ = true) (hc : opdA sl c = some (.bool t)) (hx : opdA sl a = some x) (hy : opdA sl b = some y) :
    stepA E call ops ⟨some d, .pick c a b, ty, pos, af, g⟩ ⟨sl, st, low⟩ = some (⟨sl.set d (if t then x else y), st, low⟩, ft0 st) := st_pure hw rfl (by simp only [effA, hc, hx, hy]; rfl)
theorem st_bin {op : BinOp} {t t' : TypeId} {a b : Operand} {x y r : AV} (hw : wantedA ops sl ⟨some d, .binOp op t a b t', ty, pos, af, g⟩ = true) (hx : opdA sl a = some x) (hy : opdA sl b = some y) (hr : binA E op t x y = some r) :
    stepA E call ops ⟨some d, .binOp op t a b t', ty, pos, af, g⟩ ⟨sl, st, low⟩ = some (⟨sl.set d r, st, low⟩, ft0 st) := st_pure hw rfl (by simp only [effA, hx, hy, hr]; rfl)
theorem st_un {op : UnOp} {t : TypeId} {a : Operand} {x r : AV} (hw : wantedA ops sl ⟨some d, .unOp op t a, ty, pos, af, g⟩ = true) (hx : opdA sl a = some x) (hr : unA op x = some r) :
    stepA E call ops ⟨some d, .unOp op t a, ty, pos, af, g⟩ ⟨sl, st, low⟩ = some (⟨sl.set d r, st, low⟩, ft0 st) := st_pure hw rfl (by simp only [effA, hx, hr]; rfl)
theorem st_field {t : TypeId} {a : Operand} {n : Nat} {x r : AV} (hw : wantedA ops sl ⟨some d, .fieldAddr t a n, ty, pos, af, g⟩ = true) (hx : opdA sl a = some x) (hr : fieldAddrA E t x n = some r) :
    stepA E call ops ⟨some d, .fieldAddr t a n, ty, pos, af, g⟩ ⟨sl, st, low⟩ = some (⟨sl.set d r, st, low⟩, ft0 st) := st_pure hw rfl (by simp only [effA, hx, hr]; rfl)
theorem st_index {t : TypeId} {a b : Operand} {x y r : AV} (hw : wantedA ops sl ⟨some d, .indexAddr t a b, ty, pos, af, g⟩ = true) (hx : opdA sl a = some x) (hy : opdA sl b = some y) (hr : indexAddrA E t x y = some r) :
    stepA E call ops ⟨some d, .indexAddr t a b, ty, pos, af, g⟩ ⟨sl, st, low⟩ = some (⟨sl.set d r, st, low⟩, ft0 st) := st_pure hw rfl (by simp only [effA, hx, hy, hr]; rfl)
theorem st_extract {a : Operand} {i : Nat} {vs : List AV} {r : AV} (hw : wantedA ops sl ⟨some d, .extract a i, ty, pos, af, g⟩ = true) (hx : opdA sl a = some (.tup vs)) (hr : vs[i]? = some r) :
    stepA E call ops ⟨some d, .extract a i, ty, pos, af, g⟩ ⟨sl, st, low⟩ = some (⟨sl.set d r, st, low⟩, ft0 st) := st_pure hw rfl (by simp only [effA, hx, hr]; rfl)
theorem st_len {t : TypeId} {a : Operand} {x r : AV} (hw : wantedA ops sl ⟨some d, .call ⟨.builtin .len, #[a], #[t]⟩, ty, pos, af, g⟩ = true) (hx : opdA sl a = some x) (hr : lenA E [t] [x] = some r) :
    stepA E call ops ⟨some d, .call ⟨.builtin .len, #[a], #[t]⟩, ty, pos, af, g⟩ ⟨sl, st, low⟩ = some (⟨sl.set d r, st, low⟩, ft0 st) := st_pure hw rfl (by simp only [effA, opdsA, hx, builtinA, hr]; rfl)
theorem st_cap {t : TypeId} {a : Operand} {x r : AV} (hw : wantedA ops sl ⟨some d, .call ⟨.builtin .cap, #[a], #[t]⟩, ty, pos, af, g⟩ = true) (hx : opdA sl a = some x) (hr : capA E [t] [x] = some r) :
    stepA E call ops ⟨some d, .call ⟨.builtin .cap, #[a], #[t]⟩, ty, pos, af, g⟩ ⟨sl, st, low⟩ = some (⟨sl.set d r, st, low⟩, ft0 st) := st_pure hw rfl (by simp only [effA, opdsA, hx, builtinA, hr]; rfl)
/-- A load through read-only memory. -/
theorem st_loadi {t : TypeId} {a : Operand} {l : List AV} {r : AV} (hw : wantedA ops sl ⟨some d, .load t a, ty, pos, af, g⟩ = true) (hx : opdA sl a = some (.iptr l)) (hr : ∀ lk, readA E lk t (.iptr l) = some ⟨r, [], none, none⟩) :
    stepA E call ops ⟨some d, .load t a, ty, pos, af, g⟩ ⟨sl, st, low⟩ = some (⟨sl.set d r, st, low⟩, ft0 st) := by
  have := st_pure (E := E) (call := call) (st := st) (low := low) (rd := []) hw rfl (by simp only [effA, hx]; exact hr _)
  rwa [show needA sl (.load t a) = [] by simp only [needA, hx, leadA]] at this
/-- A load through a block. -/
theorem st_load {t : TypeId} {a : Operand} {b off ver : Nat} {k : Blk} {r : AV} {rd : List Nat} (hw : wantedA ops sl ⟨some d, .load t a, ty, pos, af, g⟩ = true) (hx : opdA sl a = some (.ptr b off ver)) (hb : st[b]? = some k)
    (hr : readA E (fun _ => some k) t (.ptr b off ver) = some ⟨r, rd, none, none⟩) :
    stepA E call ops ⟨some d, .load t a, ty, pos, af, g⟩ ⟨sl, st, low⟩ = some (⟨sl.set d r, st, low⟩, ft0 st [b]) := by
  have hn : needA sl (.load t a) = [b] := by simp only [needA, hx, leadA]
  have := st_pure (E := E) (call := call) (st := st) (low := low) (rd := rd) hw rfl (by
    simp only [effA, hx]
    rw [hn, ← hr]
    unfold readA
    have hs : seeA [b] (fun b => st[b]?) b = some k := by simp [seeA, hb]
    simp only [hs])
  rwa [hn] at this
theorem st_box {t : TypeId} {a : Operand} {x : AV} (hw : wantedA ops sl ⟨some d, .box t a, ty, pos, af, g⟩ = true) (hx : opdA sl a = some x) (h1 : x.cells.all AV.one = true) :
    stepA E call ops ⟨some d, .box t a, ty, pos, af, g⟩ ⟨sl, st, low⟩ = some (⟨sl.set d (.ptr st.length 0 0), st ++ [⟨x.cells.length, 0, x.cells⟩], low⟩, ⟨false, false, [], none, st.length, (st ++ [(⟨x.cells.length, 0, x.cells⟩ : Blk)]).length⟩) :=
  st_eff (E := E) (call := call) (st := st) (e := (⟨.ptr st.length 0 0, [], none, some ⟨x.cells.length, 0, x.cells⟩⟩ : Eff)) hw rfl (by simp only [effA, hx, h1, if_true]) rfl
theorem st_alloc {t : TypeId} {i : TI} {z : List AV} (hw : wantedA ops sl ⟨some d, .alloc t, ty, pos, af, g⟩ = true) (hi : E.info t = some i) (hz : i.zero = some z) (h1 : z.all AV.one = true) :
    stepA E call ops ⟨some d, .alloc t, ty, pos, af, g⟩ ⟨sl, st, low⟩ = some (⟨sl.set d (.ptr st.length 0 0), st ++ [⟨i.size, 0, z⟩], low⟩, ⟨false, false, [], none, st.length, (st ++ [(⟨i.size, 0, z⟩ : Blk)]).length⟩) :=
  st_eff (E := E) (call := call) (st := st) (e := (⟨.ptr st.length 0 0, [], none, some ⟨i.size, 0, z⟩⟩ : Eff)) hw rfl (by simp only [effA, hi, hz, h1, if_true]) rfl
theorem st_buildSlice {t : TypeId} {n : Nat} {ps : Array (Nat × Operand)} {vs : List (Nat × AV)} {r : AV} {k : Blk} (hw : wantedA ops sl ⟨some d, .buildSlice t n ps, ty, pos, af, g⟩ = true) (hp : partsA sl ps.toList = some vs)
    (hr : buildSliceA E st.length t n vs = some ⟨r, [], none, some k⟩) :
    stepA E call ops ⟨some d, .buildSlice t n ps, ty, pos, af, g⟩ ⟨sl, st, low⟩ = some (⟨sl.set d r, st ++ [k], low⟩, ⟨false, false, [], none, st.length, (st ++ [k]).length⟩) :=
  st_eff (E := E) (call := call) (st := st) (e := (⟨r, [], none, some k⟩ : Eff)) hw rfl (by simp only [effA, hp, hr]) rfl
theorem st_makeSlice {t : TypeId} {a b : Operand} {x y r : AV} {k : Blk} (hw : wantedA ops sl ⟨some d, .makeSlice t a b, ty, pos, af, g⟩ = true) (hx : opdA sl a = some x) (hy : opdA sl b = some y)
    (hr : makeSliceA E st.length t x y = some ⟨r, [], none, some k⟩) :
    stepA E call ops ⟨some d, .makeSlice t a b, ty, pos, af, g⟩ ⟨sl, st, low⟩ = some (⟨sl.set d r, st ++ [k], low⟩, ⟨false, false, [], none, st.length, (st ++ [k]).length⟩) :=
  st_eff (E := E) (call := call) (st := st) (e := (⟨r, [], none, some k⟩ : Eff)) hw rfl (by simp only [effA, hx, hy, hr]) rfl
theorem st_slice {t : TypeId} {a : Operand} {lo hi mx : Option Operand} {x r : AV} {l h m : Option AV} (hw : wantedA ops sl ⟨some d, .slice t a lo hi mx, ty, pos, af, g⟩ = true) (hx : opdA sl a = some x)
    (hl : optA sl lo = some l) (hh : optA sl hi = some h) (hm : optA sl mx = some m) (hr : sliceA E t x l h m = some r) :
    stepA E call ops ⟨some d, .slice t a lo hi mx, ty, pos, af, g⟩ ⟨sl, st, low⟩ = some (⟨sl.set d r, st, low⟩, ft0 st) := st_pure hw rfl (by simp only [effA, hx, hl, hh, hm, hr]; rfl)
/-- A store into a block. -/
theorem st_store {t : TypeId} {a c : Operand} {b off ver : Nat} {v : AV} {k k' : Blk} {rd : List Nat} {dst : Option Tmp} (hd : dst = none) (hw : wantedA ops sl ⟨dst, .store t a c, ty, pos, af, g⟩ = true) (hx : opdA sl a = some (.ptr b off ver)) (hv : opdA sl c = some v) (hb : st[b]? = some k)
    (hr : storeA E (fun _ => some k) t (.ptr b off ver) v = some ⟨.undef, rd, some (b, k'), none⟩) :
    stepA E call ops ⟨dst, .store t a c, ty, pos, af, g⟩ ⟨sl, st, low⟩ = some (⟨sl, st.set b k', min low b⟩, ⟨false, false, [b], some b, st.length, (st.set b k').length⟩) := by
  subst hd
  have hn : needA sl (.store t a c) = [b] := by simp only [needA, hx, leadA]
  have hlt : b < st.length := (List.getElem?_eq_some_iff.1 hb).1
  have := st_eff (E := E) (call := call) (st := st) (low := low) (o := ⟨none, .store t a c, ty, pos, af, g⟩) (e := ⟨.undef, rd, some (b, k'), none⟩) hw rfl (by
    simp only [effA, hx, hv]
    rw [hn, ← hr]
    unfold storeA
    have hs : seeA [b] (fun b => st[b]?) b = some k := by simp [seeA, hb]
    cases E.info t with
    | none => rfl
    | some i => simp only [hs]) (by simp [wrOk, hn, hlt])
  refine this.trans ?_
  simp only [hn]; rfl
/-- A call of a function by value. -/
theorem st_call {f : Operand} {args : Array Operand} {tys : Array TypeId} {h : FuncId} {cap l : List AV} {r : AV} {st' : List Blk} {low' : Nat} {dst : Option Tmp} (hw : wantedA ops sl ⟨dst, .call ⟨.value f, args, tys⟩, ty, pos, af, g⟩ = true) (hf : opdA sl f = some (.fn h cap)) (hl : opdsA sl args.toList = some l)
    (hc : call h (l ++ cap) st = some (r, st', low')) :
    stepA E call ops ⟨dst, .call ⟨.value f, args, tys⟩, ty, pos, af, g⟩ ⟨sl, st, low⟩ = some (⟨putA sl dst r, st', min low low'⟩, ⟨true, decide (low' < st.length), [], none, st.length, st'.length⟩) := by
  unfold stepA
  rw [if_pos hw]
  simp only [hf, hl, hc]
/-- An operation of the library's own that reads and writes. -/
theorem st_append {t u : TypeId} {a b : Operand} {x y : AV} {e : Eff} {need : List Nat} (hw : wantedA ops sl ⟨some d, .call ⟨.builtin .append, #[a, b], #[t, u]⟩, ty, pos, af, g⟩ = true) (hx : opdA sl a = some x) (hy : opdA sl b = some y)
    (hn : leadA (some x) ++ leadA (some y) = need) (he : appendA E (seeA need fun b => st[b]?) st.length [t, u] [x, y] = some e) (hwr : wrOk st need e = true) :
    stepA E call ops ⟨some d, .call ⟨.builtin .append, #[a, b], #[t, u]⟩, ty, pos, af, g⟩ ⟨sl, st, low⟩ =
      some (⟨sl.set d e.res, effApply st e, (match e.wr with | some (b, _) => min low b | none => low)⟩, ⟨false, false, need, e.wr.map (·.1), st.length, (effApply st e).length⟩) := by
  have hn' : needA sl (.call ⟨.builtin .append, #[a, b], #[t, u]⟩) = need := by
    simp only [needA, List.flatMap_cons, List.flatMap_nil, hx, hy, List.append_nil, hn]
  have := st_eff (E := E) (call := call) (st := st) (low := low) (o := ⟨some d, .call ⟨.builtin .append, #[a, b], #[t, u]⟩, ty, pos, af, g⟩) (e := e) hw rfl (by
    rw [hn']; simp only [effA, opdsA, hx, hy, builtinA]; exact he) (by rw [hn']; exact hwr)
  refine this.trans ?_
  simp only [hn']; rfl
theorem st_clear {t : TypeId} {a : Operand} {x : AV} {e : Eff} {need : List Nat} {dst : Option Tmp} (hd : dst = none) (hw : wantedA ops sl ⟨dst, .call ⟨.builtin .clear, #[a], #[t]⟩, ty, pos, af, g⟩ = true) (hx : opdA sl a = some x)
    (hn : leadA (some x) = need) (he : clearA E (seeA need fun b => st[b]?) [t] [x] = some e) (hwr : wrOk st need e = true) :
    stepA E call ops ⟨dst, .call ⟨.builtin .clear, #[a], #[t]⟩, ty, pos, af, g⟩ ⟨sl, st, low⟩ =
      some (⟨sl, effApply st e, (match e.wr with | some (b, _) => min low b | none => low)⟩, ⟨false, false, need, e.wr.map (·.1), st.length, (effApply st e).length⟩) := by
  subst hd
  have hn' : needA sl (.call ⟨.builtin .clear, #[a], #[t]⟩) = need := by
    simp only [needA, List.flatMap_cons, List.flatMap_nil, hx, List.append_nil, hn]
  have := st_eff (E := E) (call := call) (st := st) (low := low) (o := ⟨none, .call ⟨.builtin .clear, #[a], #[t]⟩, ty, pos, af, g⟩) (e := e) hw rfl (by
    rw [hn']; simp only [effA, opdsA, hx, builtinA]; exact he) (by rw [hn']; exact hwr)
  refine this.trans ?_
  simp only [hn']; rfl

theorem want_none {o : Oper} (h : o.guard = none) : wantedA ops sl o = true := by unfold wantedA; rw [h]
theorem want_some {o p : Oper} {j d : Nat} {w b : Bool} (h : o.guard = some (j, w)) (hp : ops[j]? = some p) (hd : p.dst = some d) (hs : sl[d]? = some (.bool b)) : wantedA ops sl o = (b == w) := by
  unfold wantedA; rw [h]; simp only [hp, hd, hs]

/-! ### Ends -/
theorem fin1 {sl : List AV} {st : List Blk} {low : Nat} {t : Nat} {v r : AV} {l : List ResultVar} (hl : l = [.tmp t]) (hv : sl[t]? = some v) (hf : freshA st 12 v = some r) :
    (Ctl.ret = .next ∨ Ctl.ret = .ret) ∧ Yes (resultsA E ⟨sl, st, low⟩ l) fun vs => freshA st 12 (oneA vs) = some r := by
  subst hl
  exact ⟨.inr rfl, [v], by simp only [resultsA, resultA, hv], hf⟩
theorem fin2 {sl : List AV} {st : List Blk} {low : Nat} {t u : Nat} {v w r : AV} {l : List ResultVar} (hl : l = [.tmp t, .tmp u]) (hv : sl[t]? = some v) (hw : sl[u]? = some w) (hf : freshA st 12 (.tup [v, w]) = some r) :
    (Ctl.ret = .next ∨ Ctl.ret = .ret) ∧ Yes (resultsA E ⟨sl, st, low⟩ l) fun vs => freshA st 12 (oneA vs) = some r := by
  subst hl
  exact ⟨.inr rfl, [v, w], by simp only [resultsA, resultA, hv, hw], hf⟩
theorem lookF_ok {spec : FuncId → List AV → Option AV} {f : FuncId} {args cs : List AV} {st : List Blk} {r : AV} (hm : mapO (frzA st 0 12) args = some cs) (hs : spec f cs = some r) : lookF spec f args st = some (r, st, st.length) := by
  simp only [lookF, hm, hs]

/-! ### As relations -/
class GT (sl : List AV) (t : Nat) (v : outParam AV) : Prop where
  h : sl[t]? = some v
class OD (sl : List AV) (x : Operand) (v : outParam AV) : Prop where
  h : opdA sl x = some v
theorem GT.eq {sl : List AV} {t : Nat} {v : AV} (h : GT sl t v) : sl[t]? = some v := by cases h; assumption
theorem OD.eq {sl : List AV} {x : Operand} {v : AV} (h : OD sl x v) : opdA sl x = some v := by cases h; assumption
theorem od_tmp {sl : List AV} {t : Nat} {v : AV} (h : GT sl t v) : OD sl (.tmp t) v := ⟨h.eq⟩
theorem od_const {sl : List AV} {c : Value} {v : AV} (h : AV.ofV c = some v) : OD sl (.const c) v := ⟨h⟩
theorem od_func {sl : List AV} {f : FuncId} : OD sl (.func f) (.fn f []) := ⟨rfl⟩
theorem get_oth {l : List AV} {i j : Nat} {v r : AV} (hne : Nat.beq i j = false) (h : GT l j r) : GT (l.set i v) j r :=
  ⟨get_other (fun e => by subst e; rw [Nat.beq_refl] at hne; cases hne) h.eq⟩
theorem get_sam {l : List AV} {i n : Nat} {v : AV} (hn : l.length = n) (h : Nat.blt i n = true) : GT (l.set i v) i v := ⟨get_same (by rw [hn]; simpa [Nat.blt_eq] using h)⟩
theorem len_set {l : List AV} {i n : Nat} {v : AV} (h : l.length = n) : (l.set i v).length = n := by rw [List.length_set]; exact h
theorem want_gt {ops : Array Oper} {sl : List AV} {o p : Oper} {j d : Nat} {w b : Bool} (h : o.guard = some (j, w)) (hp : ops[j]? = some p) (hd : p.dst = some d) (hs : GT sl d (.bool b)) : wantedA ops sl o = (b == w) := want_some h hp hd hs.eq
theorem fin1g {E : Env} {sl : List AV} {st : List Blk} {low : Nat} {t : Nat} {v r : AV} {l : List ResultVar} (hl : l = [.tmp t]) (hv : GT sl t v) (hf : freshA st 12 v = some r) :
    (Ctl.ret = .next ∨ Ctl.ret = .ret) ∧ Yes (resultsA E ⟨sl, st, low⟩ l) fun vs => freshA st 12 (oneA vs) = some r := fin1 hl hv.eq hf
theorem fin2g {E : Env} {sl : List AV} {st : List Blk} {low : Nat} {t u : Nat} {v w r : AV} {l : List ResultVar} (hl : l = [.tmp t, .tmp u]) (hv : GT sl t v) (hw : GT sl u w) (hf : freshA st 12 (.tup [v, w]) = some r) :
    (Ctl.ret = .next ∨ Ctl.ret = .ret) ∧ Yes (resultsA E ⟨sl, st, low⟩ l) fun vs => freshA st 12 (oneA vs) = some r := fin2 hl hv.eq hw.eq hf
class FA (E : Env) (t : TypeId) (x : AV) (n : Nat) (r : outParam AV) : Prop where
  h : (fieldAddrA E t x n = some r)
class LA (E : Env) (t : TypeId) (x : AV) (r : outParam AV) : Prop where
  h : (lenA E [t] [x] = some r)
class IA (E : Env) (t : TypeId) (x y : AV) (r : outParam AV) : Prop where
  h : (indexAddrA E t x y = some r)
class RI (E : Env) (t : TypeId) (l : List AV) (r : outParam AV) : Prop where
  h : (∀ lk, readA E lk t (.iptr l) = some ⟨r, [], none, none⟩)
class RB (E : Env) (t : TypeId) (k : Blk) (off ver : Nat) (r : outParam AV) : Prop where
  h : (∀ b, readA E (fun _ => some k) t (.ptr b off ver) = some ⟨r, [b], none, none⟩)
class BN (E : Env) (op : BinOp) (t : TypeId) (x y : AV) (r : outParam AV) : Prop where
  h : (binA E op t x y = some r)
theorem FA.eq {E : Env} {t : TypeId} {x : AV} {n : Nat} {r : AV} (h : FA E t x n r) : fieldAddrA E t x n = some r := by cases h; assumption
theorem LA.eq {E : Env} {t : TypeId} {x r : AV} (h : LA E t x r) : lenA E [t] [x] = some r := by cases h; assumption
theorem IA.eq {E : Env} {t : TypeId} {x y r : AV} (h : IA E t x y r) : indexAddrA E t x y = some r := by cases h; assumption
theorem RI.eq {E : Env} {t : TypeId} {l : List AV} {r : AV} (h : RI E t l r) : ∀ lk, readA E lk t (.iptr l) = some ⟨r, [], none, none⟩ := by cases h; assumption
theorem RB.eq {E : Env} {t : TypeId} {k : Blk} {off ver : Nat} {r : AV} (h : RB E t k off ver r) : ∀ b, readA E (fun _ => some k) t (.ptr b off ver) = some ⟨r, [b], none, none⟩ := by cases h; assumption
theorem BN.eq {E : Env} {op : BinOp} {t : TypeId} {x y r : AV} (h : BN E op t x y r) : binA E op t x y = some r := by cases h; assumption
theorem bn_lss {E : Env} {t : TypeId} {a b : Int} : BN E .lss t (I a) (I b) (.bool (decide (a < b))) := ⟨rfl⟩
theorem bn_leq {E : Env} {t : TypeId} {a b : Int} : BN E .leq t (I a) (I b) (.bool (decide (a ≤ b))) := ⟨rfl⟩
theorem bn_gtr {E : Env} {t : TypeId} {a b : Int} : BN E .gtr t (I a) (I b) (.bool (decide (a > b))) := ⟨rfl⟩
theorem bn_geq {E : Env} {t : TypeId} {a b : Int} : BN E .geq t (I a) (I b) (.bool (decide (a ≥ b))) := ⟨rfl⟩
theorem bn_eql {E : Env} {t : TypeId} {a b : Int} : BN E .eql t (I a) (I b) (.bool (a == b)) := ⟨rfl⟩
theorem bn_neq {E : Env} {t : TypeId} {a b : Int} : BN E .neq t (I a) (I b) (.bool (a != b)) := ⟨rfl⟩
theorem wrap_id {n : Int} (h0 : -9223372036854775808 ≤ n) (h1 : n < 9223372036854775808) : IntKind.i64.wrap n = n := by
  unfold IntKind.wrap IntKind.bits IntKind.signed; simp; omega
theorem bn_add {E : Env} {t : TypeId} {a b : Int} (h0 : -9223372036854775808 ≤ a + b) (h1 : a + b < 9223372036854775808) : BN E .add t (I a) (I b) (I (a + b)) :=
  ⟨by show some (wrapI .i64 (a + b)) = _; unfold wrapI; rw [wrap_id h0 h1]⟩
theorem bn_sub {E : Env} {t : TypeId} {a b : Int} (h0 : -9223372036854775808 ≤ a - b) (h1 : a - b < 9223372036854775808) : BN E .sub t (I a) (I b) (I (a - b)) :=
  ⟨by show some (wrapI .i64 (a - b)) = _; unfold wrapI; rw [wrap_id h0 h1]⟩
theorem q_eff {o : Oper} {e : Eff} (hw : wantedA ops sl o = true) (hn : notCall o.op = true) (he : effA E sl (seeA (needA sl o.op) fun b => st[b]?) st.length o.op = some e) (hwr : wrOk st (needA sl o.op) e = true) :
    Stp E call ops o ⟨sl, st, low⟩ (⟨putA sl o.dst e.res, effApply st e, (match e.wr with | some (b, _) => min low b | none => low)⟩) (⟨false, false, needA sl o.op, e.wr.map (·.1), st.length, (effApply st e).length⟩) := ⟨st_eff hw hn he hwr⟩
theorem q_off {o : Oper} (hw : wantedA ops sl o = false) :
    Stp E call ops o ⟨sl, st, low⟩ (⟨putA sl o.dst .undef, st, low⟩) (ft0 st) := ⟨st_off hw⟩
theorem q_pure {op : Op} {r : AV} {rd : List Nat} (hw : wantedA ops sl ⟨some d, op, ty, pos, af, g⟩ = true) (hn : notCall op = true) (he : effA E sl (seeA (needA sl op) fun b => st[b]?) st.length op = some ⟨r, rd, none, none⟩) :
    Stp E call ops ⟨some d, op, ty, pos, af, g⟩ ⟨sl, st, low⟩ (⟨sl.set d r, st, low⟩) (ft0 st (needA sl op)) := ⟨st_pure hw hn he⟩
theorem q_move {x : Operand} {v : AV} (hw : wantedA ops sl ⟨some d, .move x, ty, pos, af, g⟩ = true) (hx : OD sl x v) :
    Stp E call ops ⟨some d, .move x, ty, pos, af, g⟩ ⟨sl, st, low⟩ (⟨sl.set d v, st, low⟩) (ft0 st) := ⟨st_move hw hx.eq⟩
theorem q_assign {x : Operand} {v : AV} (hw : wantedA ops sl ⟨some d, .assign x, ty, pos, af, g⟩ = true) (hx : OD sl x v) :
    Stp E call ops ⟨some d, .assign x, ty, pos, af, g⟩ ⟨sl, st, low⟩ (⟨sl.set d v, st, low⟩) (ft0 st) := ⟨st_assign hw hx.eq⟩
theorem q_pick {c a b : Operand} {t : Bool} {x y : AV} (hw : wantedA ops sl ⟨some d, .pick c a b, ty, pos, af, g⟩ = true) (hc : OD sl c (.bool t)) (hx : OD sl a x) (hy : OD sl b y) :
    Stp E call ops ⟨some d, .pick c a b, ty, pos, af, g⟩ ⟨sl, st, low⟩ (⟨sl.set d (if t then x else y), st, low⟩) (ft0 st) := ⟨st_pick hw hc.eq hx.eq hy.eq⟩
theorem q_bin {op : BinOp} {t t' : TypeId} {a b : Operand} {x y r : AV} (hw : wantedA ops sl ⟨some d, .binOp op t a b t', ty, pos, af, g⟩ = true) (hx : OD sl a x) (hy : OD sl b y) (hr : BN E op t x y r) :
    Stp E call ops ⟨some d, .binOp op t a b t', ty, pos, af, g⟩ ⟨sl, st, low⟩ (⟨sl.set d r, st, low⟩) (ft0 st) := ⟨st_bin hw hx.eq hy.eq hr.eq⟩
theorem q_un {op : UnOp} {t : TypeId} {a : Operand} {x r : AV} (hw : wantedA ops sl ⟨some d, .unOp op t a, ty, pos, af, g⟩ = true) (hx : OD sl a x) (hr : unA op x = some r) :
    Stp E call ops ⟨some d, .unOp op t a, ty, pos, af, g⟩ ⟨sl, st, low⟩ (⟨sl.set d r, st, low⟩) (ft0 st) := ⟨st_un hw hx.eq hr⟩
theorem q_field {t : TypeId} {a : Operand} {n : Nat} {x r : AV} (hw : wantedA ops sl ⟨some d, .fieldAddr t a n, ty, pos, af, g⟩ = true) (hx : OD sl a x) (hr : FA E t x n r) :
    Stp E call ops ⟨some d, .fieldAddr t a n, ty, pos, af, g⟩ ⟨sl, st, low⟩ (⟨sl.set d r, st, low⟩) (ft0 st) := ⟨st_field hw hx.eq hr.eq⟩
theorem q_index {t : TypeId} {a b : Operand} {x y r : AV} (hw : wantedA ops sl ⟨some d, .indexAddr t a b, ty, pos, af, g⟩ = true) (hx : OD sl a x) (hy : OD sl b y) (hr : IA E t x y r) :
    Stp E call ops ⟨some d, .indexAddr t a b, ty, pos, af, g⟩ ⟨sl, st, low⟩ (⟨sl.set d r, st, low⟩) (ft0 st) := ⟨st_index hw hx.eq hy.eq hr.eq⟩
theorem q_extract {a : Operand} {i : Nat} {vs : List AV} {r : AV} (hw : wantedA ops sl ⟨some d, .extract a i, ty, pos, af, g⟩ = true) (hx : OD sl a (.tup vs)) (hr : vs[i]? = some r) :
    Stp E call ops ⟨some d, .extract a i, ty, pos, af, g⟩ ⟨sl, st, low⟩ (⟨sl.set d r, st, low⟩) (ft0 st) := ⟨st_extract hw hx.eq hr⟩
theorem q_len {t : TypeId} {a : Operand} {x r : AV} (hw : wantedA ops sl ⟨some d, .call ⟨.builtin .len, #[a], #[t]⟩, ty, pos, af, g⟩ = true) (hx : OD sl a x) (hr : LA E t x r) :
    Stp E call ops ⟨some d, .call ⟨.builtin .len, #[a], #[t]⟩, ty, pos, af, g⟩ ⟨sl, st, low⟩ (⟨sl.set d r, st, low⟩) (ft0 st) := ⟨st_len hw hx.eq hr.eq⟩
theorem q_cap {t : TypeId} {a : Operand} {x r : AV} (hw : wantedA ops sl ⟨some d, .call ⟨.builtin .cap, #[a], #[t]⟩, ty, pos, af, g⟩ = true) (hx : OD sl a x) (hr : capA E [t] [x] = some r) :
    Stp E call ops ⟨some d, .call ⟨.builtin .cap, #[a], #[t]⟩, ty, pos, af, g⟩ ⟨sl, st, low⟩ (⟨sl.set d r, st, low⟩) (ft0 st) := ⟨st_cap hw hx.eq hr⟩
theorem q_loadi {t : TypeId} {a : Operand} {l : List AV} {r : AV} (hw : wantedA ops sl ⟨some d, .load t a, ty, pos, af, g⟩ = true) (hx : OD sl a (.iptr l)) (hr : RI E t l r) :
    Stp E call ops ⟨some d, .load t a, ty, pos, af, g⟩ ⟨sl, st, low⟩ (⟨sl.set d r, st, low⟩) (ft0 st) := ⟨st_loadi hw hx.eq hr.eq⟩
theorem q_load {t : TypeId} {a : Operand} {b off ver : Nat} {k : Blk} {r : AV} (hw : wantedA ops sl ⟨some d, .load t a, ty, pos, af, g⟩ = true) (hx : OD sl a (.ptr b off ver)) (hb : st[b]? = some k)
    (hr : RB E t k off ver r) :
    Stp E call ops ⟨some d, .load t a, ty, pos, af, g⟩ ⟨sl, st, low⟩ (⟨sl.set d r, st, low⟩) (ft0 st [b]) := ⟨st_load hw hx.eq hb (hr.eq b)⟩
theorem q_box {t : TypeId} {a : Operand} {x : AV} (hw : wantedA ops sl ⟨some d, .box t a, ty, pos, af, g⟩ = true) (hx : OD sl a x) (h1 : x.cells.all AV.one = true) :
    Stp E call ops ⟨some d, .box t a, ty, pos, af, g⟩ ⟨sl, st, low⟩ (⟨sl.set d (.ptr st.length 0 0), st ++ [⟨x.cells.length, 0, x.cells⟩], low⟩) (⟨false, false, [], none, st.length, (st ++ [(⟨x.cells.length, 0, x.cells⟩ : Blk)]).length⟩) := ⟨st_box hw hx.eq h1⟩
theorem q_alloc {t : TypeId} {i : TI} {z : List AV} (hw : wantedA ops sl ⟨some d, .alloc t, ty, pos, af, g⟩ = true) (hi : E.info t = some i) (hz : i.zero = some z) (h1 : z.all AV.one = true) :
    Stp E call ops ⟨some d, .alloc t, ty, pos, af, g⟩ ⟨sl, st, low⟩ (⟨sl.set d (.ptr st.length 0 0), st ++ [⟨i.size, 0, z⟩], low⟩) (⟨false, false, [], none, st.length, (st ++ [(⟨i.size, 0, z⟩ : Blk)]).length⟩) := ⟨st_alloc hw hi hz h1⟩
theorem q_buildSlice {t : TypeId} {n : Nat} {ps : Array (Nat × Operand)} {vs : List (Nat × AV)} {r : AV} {k : Blk} (hw : wantedA ops sl ⟨some d, .buildSlice t n ps, ty, pos, af, g⟩ = true) (hp : partsA sl ps.toList = some vs)
    (hr : buildSliceA E st.length t n vs = some ⟨r, [], none, some k⟩) :
    Stp E call ops ⟨some d, .buildSlice t n ps, ty, pos, af, g⟩ ⟨sl, st, low⟩ (⟨sl.set d r, st ++ [k], low⟩) (⟨false, false, [], none, st.length, (st ++ [k]).length⟩) := ⟨st_buildSlice hw hp hr⟩
theorem q_makeSlice {t : TypeId} {a b : Operand} {x y r : AV} {k : Blk} (hw : wantedA ops sl ⟨some d, .makeSlice t a b, ty, pos, af, g⟩ = true) (hx : OD sl a x) (hy : OD sl b y)
    (hr : makeSliceA E st.length t x y = some ⟨r, [], none, some k⟩) :
    Stp E call ops ⟨some d, .makeSlice t a b, ty, pos, af, g⟩ ⟨sl, st, low⟩ (⟨sl.set d r, st ++ [k], low⟩) (⟨false, false, [], none, st.length, (st ++ [k]).length⟩) := ⟨st_makeSlice hw hx.eq hy.eq hr⟩
theorem q_slice {t : TypeId} {a : Operand} {lo hi mx : Option Operand} {x r : AV} {l h m : Option AV} (hw : wantedA ops sl ⟨some d, .slice t a lo hi mx, ty, pos, af, g⟩ = true) (hx : OD sl a x)
    (hl : optA sl lo = some l) (hh : optA sl hi = some h) (hm : optA sl mx = some m) (hr : sliceA E t x l h m = some r) :
    Stp E call ops ⟨some d, .slice t a lo hi mx, ty, pos, af, g⟩ ⟨sl, st, low⟩ (⟨sl.set d r, st, low⟩) (ft0 st) := ⟨st_slice hw hx.eq hl hh hm hr⟩
theorem q_store {t : TypeId} {a c : Operand} {b off ver : Nat} {v : AV} {k k' : Blk} {rd : List Nat} {dst : Option Tmp} (hd : dst = none) (hw : wantedA ops sl ⟨dst, .store t a c, ty, pos, af, g⟩ = true) (hx : OD sl a (.ptr b off ver)) (hv : OD sl c v) (hb : st[b]? = some k)
    (hr : storeA E (fun _ => some k) t (.ptr b off ver) v = some ⟨.undef, rd, some (b, k'), none⟩) :
    Stp E call ops ⟨dst, .store t a c, ty, pos, af, g⟩ ⟨sl, st, low⟩ (⟨sl, st.set b k', min low b⟩) (⟨false, false, [b], some b, st.length, (st.set b k').length⟩) := ⟨st_store hd hw hx.eq hv.eq hb hr⟩
theorem q_call {f : Operand} {args : Array Operand} {tys : Array TypeId} {h : FuncId} {cap l : List AV} {r : AV} {st' : List Blk} {low' : Nat} {dst : Option Tmp} (hw : wantedA ops sl ⟨dst, .call ⟨.value f, args, tys⟩, ty, pos, af, g⟩ = true) (hf : OD sl f (.fn h cap)) (hl : opdsA sl args.toList = some l)
    (hc : call h (l ++ cap) st = some (r, st', low')) :
    Stp E call ops ⟨dst, .call ⟨.value f, args, tys⟩, ty, pos, af, g⟩ ⟨sl, st, low⟩ (⟨putA sl dst r, st', min low low'⟩) (⟨true, decide (low' < st.length), [], none, st.length, st'.length⟩) := ⟨st_call hw hf.eq hl hc⟩
theorem q_append {t u : TypeId} {a b : Operand} {x y : AV} {e : Eff} {need : List Nat} (hw : wantedA ops sl ⟨some d, .call ⟨.builtin .append, #[a, b], #[t, u]⟩, ty, pos, af, g⟩ = true) (hx : OD sl a x) (hy : OD sl b y)
    (hn : leadA (some x) ++ leadA (some y) = need) (he : appendA E (seeA need fun b => st[b]?) st.length [t, u] [x, y] = some e) (hwr : wrOk st need e = true) :
    Stp E call ops ⟨some d, .call ⟨.builtin .append, #[a, b], #[t, u]⟩, ty, pos, af, g⟩ ⟨sl, st, low⟩ (⟨sl.set d e.res, effApply st e, (match e.wr with | some (b, _) => min low b | none => low)⟩) (⟨false, false, need, e.wr.map (·.1), st.length, (effApply st e).length⟩) := ⟨st_append hw hx.eq hy.eq hn he hwr⟩
theorem q_clear {t : TypeId} {a : Operand} {x : AV} {e : Eff} {need : List Nat} {dst : Option Tmp} (hd : dst = none) (hw : wantedA ops sl ⟨dst, .call ⟨.builtin .clear, #[a], #[t]⟩, ty, pos, af, g⟩ = true) (hx : OD sl a x)
    (hn : leadA (some x) = need) (he : clearA E (seeA need fun b => st[b]?) [t] [x] = some e) (hwr : wrOk st need e = true) :
    Stp E call ops ⟨dst, .call ⟨.builtin .clear, #[a], #[t]⟩, ty, pos, af, g⟩ ⟨sl, st, low⟩ (⟨sl, effApply st e, (match e.wr with | some (b, _) => min low b | none => low)⟩) (⟨false, false, need, e.wr.map (·.1), st.length, (effApply st e).length⟩) := ⟨st_clear hd hw hx.eq hn he hwr⟩
end
end Go.Proofs.YteaifkpmfbgekaaGreatDoor.M

namespace Go.Proofs.YteaifkpmfbgekaaGreatDoor.M
open Go
inductive EV (E : Env) (call : CallR) (K : Nat) (c : Code) (s : S) (Q : Ctl → S → Prop) : Prop
  | mk (h : Ev E call K c s Q)
inductive YO (E : Env) (call : CallR) (ops : Array Oper) (l : List Oper) (s : S) (R : S → Prop) : Prop
  | mk (h : Yes (opsA E call ops l s) R)
inductive TO (E : Env) (call : CallR) (ops : Array Oper) (l : List (Nat × Oper)) (s : S) (R : S × List Foot → Prop) : Prop
  | mk (h : Yes (opsTA E call ops l s) R)
/-- A drawn region's check. -/
inductive DR (l : List (Nat × Oper)) (fs : List Foot) : Prop
  | mk (h : drawA l fs = true)
section
variable {E : Env} {call : CallR} {K : Nat} {s : S} {Q : Ctl → S → Prop}
theorem EV.out {c : Code} (h : EV E call K c s Q) : Ev E call K c s Q := by cases h; assumption
theorem YO.out {ops : Array Oper} {l : List Oper} {R : S → Prop} (h : YO E call ops l s R) : Yes (opsA E call ops l s) R := by cases h; assumption
theorem TO.out {ops : Array Oper} {l : List (Nat × Oper)} {R : S × List Foot → Prop} (h : TO E call ops l s R) : Yes (opsTA E call ops l s) R := by cases h; assumption
theorem DR.out {l : List (Nat × Oper)} {fs : List Foot} (h : DR l fs) : drawA l fs = true := by cases h; assumption

theorem n_step {ops : Array Oper} {o : Oper} {l : List Oper} {s' : S} {f : Foot} {R : S → Prop} (h : Stp E call ops o s s' f) (k : YO E call ops l s' R) : YO E call ops (o :: l) s R := ⟨y_step h k.out⟩
theorem n_nil {ops : Array Oper} {R : S → Prop} (h : R s) : YO E call ops [] s R := ⟨y_nil h⟩
theorem d_step {ops : Array Oper} {i : Nat} {o : Oper} {l : List (Nat × Oper)} {s' : S} {f : Foot} {R : S × List Foot → Prop} (h : Stp E call ops o s s' f) (k : TO E call ops l s' fun x => R (x.1, f :: x.2)) : TO E call ops ((i, o) :: l) s R := ⟨t_step h k.out⟩
theorem d_nil {ops : Array Oper} {R : S × List Foot → Prop} (h : R (s, [])) : TO E call ops [] s R := ⟨t_nil h⟩
theorem n_region {id : Nat} {ops : Array Oper} {b : Code} (h : YO E call ops ops.toList s fun s' => EV E call K b s' Q) : EV E call K (.seq (.region id ops false) b) s Q := by
  obtain ⟨x, h1, h2⟩ := h.out
  exact ⟨s_region ⟨x, h1, h2.out⟩⟩
theorem n_region1 {id : Nat} {ops : Array Oper} (h : YO E call ops ops.toList s fun s' => Q .next s') : EV E call K (.region id ops false) s Q := ⟨e_region h.out⟩
theorem n_draw {id : Nat} {ops : Array Oper} {b : Code} {l : List (Nat × Oper)} (hl : orderA ops = l) (h : TO E call ops l s fun x => DR l x.2 ∧ EV E call K b x.1 Q) : EV E call K (.seq (.region id ops true) b) s Q := by
  subst hl
  obtain ⟨x, h1, h2, h3⟩ := h.out
  exact ⟨s_draw ⟨x, h1, h2.out, h3.out⟩⟩
theorem n_draw1 {id : Nat} {ops : Array Oper} {l : List (Nat × Oper)} (hl : orderA ops = l) (h : TO E call ops l s fun x => DR l x.2 ∧ Q .next x.1) : EV E call K (.region id ops true) s Q := by
  subst hl
  obtain ⟨x, h1, h2, h3⟩ := h.out
  exact ⟨e_draw ⟨x, h1, h2.out, h3⟩⟩
theorem n_assoc {a b c : Code} (h : EV E call K (.seq a (.seq b c)) s Q) : EV E call K (.seq (.seq a b) c) s Q := ⟨s_assoc h.out⟩
theorem n_cond {sl : List AV} {st : List Blk} {low : Nat} {c : Operand} {a b k : Code} (t : Bool) (hc : OD sl c (.bool t)) (h1 : t = true → EV E call K (.seq a k) ⟨sl, st, low⟩ Q) (h2 : t = false → EV E call K (.seq b k) ⟨sl, st, low⟩ Q) : EV E call K (.seq (.cond c a b) k) ⟨sl, st, low⟩ Q :=
  ⟨s_cond t hc.eq (fun e => (h1 e).out) fun e => (h2 e).out⟩
theorem n_cond1 {sl : List AV} {st : List Blk} {low : Nat} {c : Operand} {a b : Code} (t : Bool) (hc : OD sl c (.bool t)) (h1 : t = true → EV E call K a ⟨sl, st, low⟩ Q) (h2 : t = false → EV E call K b ⟨sl, st, low⟩ Q) : EV E call K (.cond c a b) ⟨sl, st, low⟩ Q :=
  ⟨Ev.cond t hc.eq (fun e => (h1 e).out) fun e => (h2 e).out⟩
theorem n_skip {k : Code} (h : EV E call K k s Q) : EV E call K (.seq .skip k) s Q := ⟨s_skip h.out⟩
theorem n_skip1 (h : Q .next s) : EV E call K .skip s Q := ⟨ev_skip.2 h⟩
theorem n_ret {k : Code} (h : Q .ret s) : EV E call K (.seq .ret k) s Q := ⟨s_ret h⟩
theorem n_ret1 (h : Q .ret s) : EV E call K .ret s Q := ⟨ev_ret.2 h⟩
theorem n_exit {id : Nat} {k : Code} (h : Q (.exit id) s) : EV E call K (.seq (.exit id) k) s Q := ⟨s_exit h⟩
theorem n_exit1 {id : Nat} (h : Q (.exit id) s) : EV E call K (.exit id) s Q := ⟨ev_exit.2 h⟩
theorem n_block {id : Nat} {a k : Code} (h : EV E call K a s (aft id (fun s' => EV E call K k s' Q) Q)) : EV E call K (.seq (.block id a) k) s Q :=
  ⟨s_block (h.out.mono fun ctl s' h' => by
    cases ctl with
    | next => exact EV.out h'
    | ret => exact h'
    | exit i =>
      simp only [aft] at h' ⊢
      split
      · rename_i e; rw [if_pos e] at h'; exact h'.out
      · rename_i e; rw [if_neg e] at h'; exact h')⟩
theorem n_block1 {id : Nat} {a : Code} (h : EV E call K a s (aft id (fun s' => Q .next s') Q)) : EV E call K (.block id a) s Q := ⟨e_block h.out⟩

/-- What ends a round: the next one, or out of the loop. -/
def rnd (n i : Nat) (P : Nat → List AV → List Blk → Prop) (Q : Ctl → S → Prop) : Ctl → S → Prop := fun ctl s' => match ctl with
  | .next => i < n ∧ P (i + 1) s'.sl s'.st
  | c => Q c s'
theorem n_loop {sl : List AV} {st : List Blk} {low : Nat} {a : Code} (P : Nat → List AV → List Blk → Prop) (n : Nat) (hn : n < K) (h0 : P 0 sl st) (hstep : ∀ i sl st low, i ≤ n → P i sl st → EV E call K a ⟨sl, st, low⟩ (rnd n i P Q)) : EV E call K (.loop a) ⟨sl, st, low⟩ Q :=
  ⟨Ev.loop (fun i s => P i s.sl s.st) n hn h0 fun i s hi hp => (hstep i s.sl s.st s.low hi hp).out.mono fun ctl s' h' => by
    cases ctl with
    | next => exact .inl ⟨rfl, h'.1, h'.2⟩
    | exit id => exact .inr ⟨by simp, h'⟩
    | ret => exact .inr ⟨by simp, h'⟩⟩
theorem rnd_next {sl : List AV} {st : List Blk} {low : Nat} {n i : Nat} {P : Nat → List AV → List Blk → Prop} (hi : i < n) (h : P (i + 1) sl st) : rnd n i P Q .next ⟨sl, st, low⟩ := ⟨hi, h⟩
theorem rnd_exit {n i id : Nat} {P : Nat → List AV → List Blk → Prop} (h : Q (.exit id) s) : rnd n i P Q (.exit id) s := h
theorem rnd_ret {n i : Nat} {P : Nat → List AV → List Blk → Prop} (h : Q .ret s) : rnd n i P Q .ret s := h

variable {P : Program} {f : FuncId} {fn : Func} {c : Code} {args : List AV}
theorem n_run (hE : Env.Ok P E (fun ops => regionOk ops = true)) (hm : P.follows .mixedOrders = true) (hc : SoundCall P call) (hf : E.func f = some fn) (hb : fn.body = some c) (hs : E.srt f = false) (hz : E.frz f = false) {r : AV}
    (h : EV E call K c ⟨args ++ List.replicate (fn.ntmps - args.length) .undef, [], 0⟩ fun ctl s => (ctl = .next ∨ ctl = .ret) ∧ Yes (resultsA E s fn.results.toList) fun vs => freshA s.st 12 (oneA vs) = some r) :
    GoodK P ⟨f, args, r⟩ := good_run hE hm hc hf hb hs hz h.out

theorem want_ont {ops : Array Oper} {sl : List AV} {o p : Oper} {j d : Nat} {b : Bool} (h : o.guard = some (j, true)) (hp : ops[j]? = some p) (hd : p.dst = some d) (hs : GT sl d (.bool b)) (hb : b = true) : wantedA ops sl o = true := by
  rw [want_gt h hp hd hs, hb]; rfl
theorem want_onf {ops : Array Oper} {sl : List AV} {o p : Oper} {j d : Nat} {b : Bool} (h : o.guard = some (j, false)) (hp : ops[j]? = some p) (hd : p.dst = some d) (hs : GT sl d (.bool b)) (hb : b = false) : wantedA ops sl o = true := by
  rw [want_gt h hp hd hs, hb]; rfl
theorem want_offt {ops : Array Oper} {sl : List AV} {o p : Oper} {j d : Nat} {b : Bool} (h : o.guard = some (j, true)) (hp : ops[j]? = some p) (hd : p.dst = some d) (hs : GT sl d (.bool b)) (hb : b = false) : wantedA ops sl o = false := by
  rw [want_gt h hp hd hs, hb]; rfl
theorem want_offf {ops : Array Oper} {sl : List AV} {o p : Oper} {j d : Nat} {b : Bool} (h : o.guard = some (j, false)) (hp : ops[j]? = some p) (hd : p.dst = some d) (hs : GT sl d (.bool b)) (hb : b = true) : wantedA ops sl o = false := by
  rw [want_gt h hp hd hs, hb]; rfl
theorem want_offu {ops : Array Oper} {sl : List AV} {o p : Oper} {j d : Nat} {w : Bool} (h : o.guard = some (j, w)) (hp : ops[j]? = some p) (hd : p.dst = some d) (hs : GT sl d .undef) : wantedA ops sl o = false := by
  unfold wantedA; rw [h]; simp only [hp, hd, hs.eq, AV.undef]
theorem tf_absurd {b : Bool} (h1 : b = true) (h2 : b = false) : False := by rw [h1] at h2; cases h2
theorem opds0 {sl : List AV} : opdsA sl [] = some [] := rfl
theorem opds1 {sl : List AV} {x : Operand} {v : AV} (h : OD sl x v) : opdsA sl [x] = some [v] := by simp only [opdsA, h.eq]
theorem opds2 {sl : List AV} {x y : Operand} {v w : AV} (h : OD sl x v) (h' : OD sl y w) : opdsA sl [x, y] = some [v, w] := by simp only [opdsA, h.eq, h'.eq]
theorem opds3 {sl : List AV} {x y z : Operand} {v w u : AV} (h : OD sl x v) (h' : OD sl y w) (h'' : OD sl z u) : opdsA sl [x, y, z] = some [v, w, u] := by simp only [opdsA, h.eq, h'.eq, h''.eq]
theorem q_calld {ops : Array Oper} {sl : List AV} {st : List Blk} {low : Nat} {d : Tmp} {ty : TypeId} {pos : String} {af : Array Edge} {g : Option (Nat × Bool)} {f : Operand} {args : Array Operand} {tys : Array TypeId} {h : FuncId} {cap l : List AV} {r : AV} {st' : List Blk} {low' : Nat}
    (hw : wantedA ops sl ⟨some d, .call ⟨.value f, args, tys⟩, ty, pos, af, g⟩ = true) (hf : OD sl f (.fn h cap)) (hl : opdsA sl args.toList = some l)
    (hc : call h (l ++ cap) st = some (r, st', low')) :
    Stp E call ops ⟨some d, .call ⟨.value f, args, tys⟩, ty, pos, af, g⟩ ⟨sl, st, low⟩ ⟨sl.set d r, st', min low low'⟩ ⟨true, decide (low' < st.length), [], none, st.length, st'.length⟩ := ⟨st_call hw hf.eq hl hc⟩

theorem q_pickt {ops : Array Oper} {sl : List AV} {st : List Blk} {low : Nat} {d : Tmp} {ty : TypeId} {pos : String} {af : Array Edge} {g : Option (Nat × Bool)} {c a b : Operand} {t : Bool} {x y : AV} (hw : wantedA ops sl ⟨some d, .pick c a b, ty, pos, af, g⟩ = true) (hc : OD sl c (.bool t)) (hx : OD sl a x) (hy : OD sl b y) (ht : t = true) :
    Stp E call ops ⟨some d, .pick c a b, ty, pos, af, g⟩ ⟨sl, st, low⟩ ⟨sl.set d x, st, low⟩ (ft0 st) := by subst ht; exact q_pick hw hc hx hy
theorem q_pickf {ops : Array Oper} {sl : List AV} {st : List Blk} {low : Nat} {d : Tmp} {ty : TypeId} {pos : String} {af : Array Edge} {g : Option (Nat × Bool)} {c a b : Operand} {t : Bool} {x y : AV} (hw : wantedA ops sl ⟨some d, .pick c a b, ty, pos, af, g⟩ = true) (hc : OD sl c (.bool t)) (hx : OD sl a x) (hy : OD sl b y) (ht : t = false) :
    Stp E call ops ⟨some d, .pick c a b, ty, pos, af, g⟩ ⟨sl, st, low⟩ ⟨sl.set d y, st, low⟩ (ft0 st) := by subst ht; exact q_pick hw hc hx hy
theorem q_offd {ops : Array Oper} {sl : List AV} {st : List Blk} {low : Nat} {d : Tmp} {op : Op} {ty : TypeId} {pos : String} {af : Array Edge} {g : Option (Nat × Bool)} (hw : wantedA ops sl ⟨some d, op, ty, pos, af, g⟩ = false) :
    Stp E call ops ⟨some d, op, ty, pos, af, g⟩ ⟨sl, st, low⟩ ⟨sl.set d .undef, st, low⟩ (ft0 st) := ⟨st_off hw⟩

/-- A drawn region that only reads. -/
theorem dr_reads {l : List (Nat × Oper)} {fs : List Foot} (h : fs.all (fun f => f.wr.isNone && !f.wall && decide (f.lo = f.hi)) = true) : DR l fs := ⟨by unfold drawA; rw [h]; rfl⟩
end
end Go.Proofs.YteaifkpmfbgekaaGreatDoor.M

namespace Go.Proofs.YteaifkpmfbgekaaGreatDoor.M
open Go
class Eqv {α : Type} (a b : α) : Prop where
  h : a = b
theorem eqv_iff {α : Type} {a b : α} : Eqv a b ↔ a = b := ⟨fun h => h.h, fun h => ⟨h⟩⟩
instance eqv_rfl {α : Type} {a : α} : Eqv a a := ⟨rfl⟩
class GL (sl : List AV) (n : outParam Nat) : Prop where
  h : sl.length = n
/-- A value of one cell. -/
class One (v : AV) : Prop where
  h : AV.one v = true
class OneL (l : List AV) (n : outParam Nat) : Prop where
  h : l.all AV.one = true
  len : l.length = n
class CV (c : Value) (v : outParam AV) : Prop where
  h : AV.ofV c = some v
/-- Places of lists. -/
class AtL (l : List AV) (n : Nat) (v : outParam AV) : Prop where
  h : l[n]? = some v
class Drp (n : Nat) (l : List AV) (r : outParam (List AV)) : Prop where
  h : l.drop n = r
class Tk (n : Nat) (l : List AV) (r : outParam (List AV)) : Prop where
  h : l.take n = r
  len : r.length = n
/-- Types. -/
class SCL (E : Env) (t : TypeId) : Prop where
  h : ∃ i, E.info t = some i ∧ isAggD i.und = false ∧ i.size = 1
class AGG (E : Env) (t : TypeId) (n : outParam Nat) : Prop where
  h : ∃ i, E.info t = some i ∧ isAggD i.und = true ∧ i.size = n
class FO (E : Env) (s : TypeId) (f : Nat) (off : outParam Nat) (ft : outParam TypeId) : Prop where
  h : ∃ x, fieldA E s f = some x ∧ x.offset = off ∧ x.type = ft
class BK (st : List Blk) (b : Nat) (k : outParam Blk) : Prop where
  h : st[b]? = some k
class Nq (a b : Nat) : Prop where
  h : a ≠ b
class DA (l : List Oper) (j : Nat) (d : outParam Nat) : Prop where
  h : ∃ p, l[j]? = some p ∧ p.dst = some d
class DAr (ops : Array Oper) (j : Nat) (d : outParam Nat) : Prop where
  h : ∃ p, ops[j]? = some p ∧ p.dst = some d
class Wnt (ops : Array Oper) (sl : List AV) (g : Option (Nat × Bool)) (b : outParam Bool) : Prop where
  h : ∀ o : Oper, o.guard = g → wantedA ops sl o = b
class CA (E : Env) (t : TypeId) (x : AV) (r : outParam AV) : Prop where
  h : capA E [t] [x] = some r
class UNr (op : UnOp) (x : AV) (r : outParam AV) : Prop where
  h : unA op x = some r
class ITE (t : Bool) (x y : AV) (r : outParam AV) : Prop where
  h : (if t then x else y) = r
/-- An operation that leaves the store alone. -/
class PE (E : Env) (sl : List AV) (st : List Blk) (op : Op) (r : outParam AV) (need : outParam (List Nat)) : Prop where
  nc : notCall op = true
  nd : needA sl op = need
  ef : ∃ rd, effA E sl (seeA need fun b => st[b]?) st.length op = some ⟨r, rd, none, none⟩
/-- An operation that makes a block. -/
class NB (E : Env) (sl : List AV) (st : List Blk) (op : Op) (r : outParam AV) (k : outParam Blk) : Prop where
  nc : notCall op = true
  nd : needA sl op = []
  ef : effA E sl (seeA [] fun b => st[b]?) st.length op = some ⟨r, [], none, some k⟩
/-- What a store into a block leaves. -/
class SB (E : Env) (t : TypeId) (k : Blk) (off ver : Nat) (v : AV) (k' : outParam Blk) : Prop where
  h : ∀ b, storeA E (fun _ => some k) t (.ptr b off ver) v = some ⟨.undef, [b], some (b, k'), none⟩
class SetL (l : List AV) (n : Nat) (v : AV) (r : outParam (List AV)) : Prop where
  h : l.set n v = r
  lt : n < l.length
class ALC (E : Env) (t : TypeId) (n : outParam Nat) (z : outParam (List AV)) : Prop where
  h : ∃ i, E.info t = some i ∧ i.size = n ∧ i.zero = some z ∧ z.all AV.one = true
class STP (E : Env) (call : CallR) (ops : Array Oper) (o : Oper) (s : S) (s' : outParam S) (f : outParam Foot) : Prop where
  h : Stp E call ops o s s' f
section
variable {E : Env} {call : CallR} {ops : Array Oper} {sl : List AV} {st : List Blk} {low : Nat} {d : Tmp} {ty : TypeId} {pos : String} {af : Array Edge} {g : Option (Nat × Bool)}
instance gl_set {i : Nat} {v : AV} {n : Nat} [h : GL sl n] : GL (sl.set i v) n := ⟨by rw [List.length_set]; exact h.h⟩
instance gt_oth {i j : Nat} {v r : AV} [hne : Eqv (Nat.beq i j) false] [h : GT sl j r] : GT (sl.set i v) j r := get_oth hne.h h
instance gt_sam {i n : Nat} {v : AV} [hn : GL sl n] [h : Eqv (Nat.ble n i) false] : GT (sl.set i v) i v := get_sam hn.h (by
  have := h.h
  rw [Nat.blt_eq]
  rcases Nat.lt_or_ge i n with h' | h'
  · exact h'
  · rw [Nat.ble_eq_true_of_le h'] at this; cases this)
instance cv_int {k : IntKind} {n : Int} : CV (.int k n) (.int k n) := ⟨rfl⟩
instance cv_bool {b : Bool} : CV (.bool b) (.bool b) := ⟨rfl⟩
instance cv_str {b : ByteArray} : CV (.string b) (.str b) := ⟨rfl⟩
instance cv_nils : CV (.slice none 0 0) .nils := ⟨rfl⟩
instance cv_nilp : CV (.pointer none) .nilp := ⟨rfl⟩
instance cv_nilf : CV .nilFunc .nilf := ⟨rfl⟩
instance odi_tmp {t : Nat} {v : AV} [h : GT sl t v] : OD sl (.tmp t) v := od_tmp h
instance odi_const {c : Value} {v : AV} [h : CV c v] : OD sl (.const c) v := od_const h.h
instance odi_func {f : FuncId} : OD sl (.func f) (.fn f []) := od_func
instance one_bool {b : Bool} : One (.bool b) := ⟨rfl⟩
instance one_int {k : IntKind} {n : Int} : One (.int k n) := ⟨rfl⟩
instance one_str {s : ByteArray} : One (.str s) := ⟨rfl⟩
instance one_nilp : One .nilp := ⟨rfl⟩
instance one_ptr {b o v : Nat} : One (.ptr b o v) := ⟨rfl⟩
instance one_nils : One .nils := ⟨rfl⟩
instance one_sl {b o n v s : Nat} : One (.sl b o n v s) := ⟨rfl⟩
instance one_imm {n : Nat} {l : List AV} : One (.imm n l) := ⟨rfl⟩
instance one_emp : One .emp := ⟨rfl⟩
instance one_fn {f : FuncId} {l : List AV} : One (.fn f l) := ⟨rfl⟩
instance one_nilf : One .nilf := ⟨rfl⟩
instance onel_nil : OneL [] 0 := ⟨rfl, rfl⟩
instance onel_cons {v : AV} {l : List AV} {n : Nat} [h : One v] [k : OneL l n] : OneL (v :: l) (n + 1) := ⟨by simp only [List.all_cons, h.h, k.h, Bool.and_self], by simp only [List.length_cons, k.len]⟩
instance atl_0 {v : AV} {l : List AV} : AtL (v :: l) 0 v := ⟨rfl⟩
instance atl_s {a v : AV} {l : List AV} {n : Nat} [h : AtL l n v] : AtL (a :: l) (n + 1) v := ⟨h.h⟩
instance drp_0 {l : List AV} : Drp 0 l l := ⟨rfl⟩
instance drp_s {a : AV} {l r : List AV} {n : Nat} [h : Drp n l r] : Drp (n + 1) (a :: l) r := ⟨h.h⟩
instance tk_0 {l : List AV} : Tk 0 l [] := ⟨rfl, rfl⟩
instance tk_s {a : AV} {l r : List AV} {n : Nat} [h : Tk n l r] : Tk (n + 1) (a :: l) (a :: r) := ⟨by rw [List.take_succ_cons, h.h], by rw [List.length_cons, h.len]⟩
instance bk_new {k : Blk} : BK (st ++ [k]) st.length k := ⟨by simp⟩
instance bk_old {k k' : Blk} {b : Nat} [h : BK st b k] : BK (st ++ [k']) b k := ⟨by rw [List.getElem?_append_left (List.getElem?_eq_some_iff.1 h.h).1]; exact h.h⟩
instance bk_oth {k k' : Blk} {b c : Nat} [hn : Nq c b] [h : BK st b k] : BK (st.set c k') b k := ⟨by rw [List.getElem?_set_ne hn.h]; exact h.h⟩
instance bk_sam {k k' : Blk} {b : Nat} [h : BK st b k] : BK (st.set b k') b k' := ⟨by
  have := (List.getElem?_eq_some_iff.1 h.h).1
  simp [this]⟩
instance bk_hd {k : Blk} {st : List Blk} : BK (k :: st) 0 k := ⟨rfl⟩
instance bk_tl {k k' : Blk} {st : List Blk} {n : Nat} [h : BK st n k] : BK (k' :: st) (n + 1) k := ⟨h.h⟩
instance da_0 {op : Op} {l : List Oper} : DA (⟨some d, op, ty, pos, af, g⟩ :: l) 0 d := ⟨_, rfl, rfl⟩
instance da_s {o : Oper} {l : List Oper} {n : Nat} [h : DA l n d] : DA (o :: l) (n + 1) d := ⟨h.h⟩
instance dar {l : List Oper} {n : Nat} [h : DA l n d] : DAr l.toArray n d := ⟨by obtain ⟨p, h1, h2⟩ := h.h; exact ⟨p, by simpa using h1, h2⟩⟩
instance wnt_none : Wnt ops sl none true := ⟨fun _ h => want_none h⟩
instance wnt_u {j d : Nat} {w : Bool} [h : DAr ops j d] [k : GT sl d .undef] : Wnt ops sl (some (j, w)) false := ⟨fun o e => by
  obtain ⟨p, h1, h2⟩ := h.h
  exact want_offu e h1 h2 k⟩
instance wnt_ff {j d : Nat} {b : Bool} [h : DAr ops j d] [k : GT sl d (.bool b)] [q : Eqv b true] : Wnt ops sl (some (j, false)) false := ⟨fun o e => by
  obtain ⟨p, h1, h2⟩ := h.h
  exact want_offf e h1 h2 k q.h⟩
instance wnt_tf {j d : Nat} {b : Bool} [h : DAr ops j d] [k : GT sl d (.bool b)] [q : Eqv b false] : Wnt ops sl (some (j, true)) false := ⟨fun o e => by
  obtain ⟨p, h1, h2⟩ := h.h
  exact want_offt e h1 h2 k q.h⟩
instance wnt_on {j d : Nat} {w b : Bool} [h : DAr ops j d] [k : GT sl d (.bool b)] [q : Eqv b w] : Wnt ops sl (some (j, w)) true := ⟨fun o e => by
  obtain ⟨p, h1, h2⟩ := h.h
  rw [want_gt e h1 h2 k, q.h]; simp⟩
instance bni_lss {t : TypeId} {k : IntKind} {a b : Int} : BN E .lss t (.int k a) (.int k b) (.bool (decide (a < b))) := ⟨by cases k <;> rfl⟩
instance bni_leq {t : TypeId} {k : IntKind} {a b : Int} : BN E .leq t (.int k a) (.int k b) (.bool (decide (a ≤ b))) := ⟨by cases k <;> rfl⟩
instance bni_gtr {t : TypeId} {k : IntKind} {a b : Int} : BN E .gtr t (.int k a) (.int k b) (.bool (decide (a > b))) := ⟨by cases k <;> rfl⟩
instance bni_geq {t : TypeId} {k : IntKind} {a b : Int} : BN E .geq t (.int k a) (.int k b) (.bool (decide (a ≥ b))) := ⟨by cases k <;> rfl⟩
instance bni_eql {t : TypeId} {k : IntKind} {a b : Int} : BN E .eql t (.int k a) (.int k b) (.bool (a == b)) := ⟨by cases k <;> rfl⟩
instance bni_neq {t : TypeId} {k : IntKind} {a b : Int} : BN E .neq t (.int k a) (.int k b) (.bool (a != b)) := ⟨by cases k <;> rfl⟩
instance un_not_t : UNr .not (.bool true) (.bool false) := ⟨rfl⟩
instance un_not_f : UNr .not (.bool false) (.bool true) := ⟨rfl⟩
instance un_not {b : Bool} : UNr .not (.bool b) (.bool !b) := ⟨rfl⟩
instance (priority := low) ite_b {t a b : Bool} : ITE t (.bool a) (.bool b) (.bool (bif t then a else b)) := ⟨by cases t <;> rfl⟩
instance ite_f {t : Bool} {x y : AV} [h : Eqv t false] : ITE t x y y := ⟨by rw [h.h]; rfl⟩
instance ite_t {t : Bool} {x y : AV} [h : Eqv t true] : ITE t x y x := ⟨by rw [h.h]; rfl⟩
/-! fields -/
instance fa_ptr {s : TypeId} {b o ver f off : Nat} {ft : TypeId} [h : FO E s f off ft] : FA E s (.ptr b o ver) f (.ptr b (o + off) ver) := ⟨by
  obtain ⟨x, h1, h2, _⟩ := h.h
  simp only [fieldAddrA, h1, h2]⟩
instance fa_ptr0 {s : TypeId} {b ver f off : Nat} {ft : TypeId} [h : FO E s f off ft] : FA E s (.ptr b 0 ver) f (.ptr b off ver) := ⟨by
  obtain ⟨x, h1, h2, _⟩ := h.h
  simp only [fieldAddrA, h1, h2, Nat.zero_add]⟩
instance fa_iptr {s : TypeId} {l r : List AV} {f off : Nat} {ft : TypeId} [h : FO E s f off ft] [k : Drp off l r] : FA E s (.iptr l) f (.iptr r) := ⟨by
  obtain ⟨x, h1, h2, _⟩ := h.h
  simp only [fieldAddrA, h1, h2, k.h]⟩
instance ri_one {t : TypeId} {v : AV} {l : List AV} [h : SCL E t] : RI E t (v :: l) v := ⟨fun lk => by
  obtain ⟨i, h1, h2, _⟩ := h.h
  simp only [readA, h1, h2, Bool.false_eq_true, if_false]
  rfl⟩
instance ri_agg {t : TypeId} {n : Nat} {l r : List AV} [h : AGG E t n] [k : Tk n l r] : RI E t l (.agg r) := ⟨fun lk => by
  obtain ⟨i, h1, h2, h3⟩ := h.h
  simp only [readA, h1, h2, if_true, h3, cut, List.drop_zero, k.h, k.len]⟩
instance rb_scl {t : TypeId} {sz ver ver' off : Nat} {cells : List AV} {v : AV} [h : SCL E t] [e : Eqv ver' ver] [k : AtL cells off v] : RB E t ⟨sz, ver', cells⟩ off ver v := ⟨fun b => by
  obtain ⟨i, h1, h2, _⟩ := h.h
  obtain ⟨h3, h4⟩ := List.getElem?_eq_some_iff.1 k.h
  have : cut cells off 1 = some [v] := by
    unfold cut
    have e : (cells.drop off).take 1 = [v] := by rw [List.drop_eq_getElem_cons h3, h4]; rfl
    rw [e]; rfl
  simp only [readA, h1, h2, Bool.false_eq_true, if_false, e.h, if_true, this]⟩
instance rb_agg {t : TypeId} {sz ver ver' off n : Nat} {cells l r : List AV} [h : AGG E t n] [e : Eqv ver' ver] [q : Drp off cells l] [k : Tk n l r] : RB E t ⟨sz, ver', cells⟩ off ver (.agg r) := ⟨fun b => by
  obtain ⟨i, h1, h2, h3⟩ := h.h
  simp only [readA, h1, h2, if_true, e.h, h3, cut, q.h, k.h, k.len]⟩
class FV (E : Env) (t : TypeId) (f : Nat) (cs : List AV) (r : outParam AV) : Prop where
  h : ∃ x, fieldA E t f = some x ∧ partA E x.type cs x.offset = some r
instance fv_scl {t : TypeId} {f off : Nat} {ft : TypeId} {cs : List AV} {v : AV} [h : FO E t f off ft] [q : SCL E ft] [k : AtL cs off v] : FV E t f cs v := ⟨by
  obtain ⟨x, h1, h2, h3⟩ := h.h
  obtain ⟨i, h4, h5, _⟩ := q.h
  refine ⟨x, h1, ?_⟩
  simp only [partA, h3, h4, h5, Bool.false_eq_true, if_false, h2, k.h]⟩
instance fv_agg {t : TypeId} {f off n : Nat} {ft : TypeId} {cs l r : List AV} [h : FO E t f off ft] [q : AGG E ft n] [k : Drp off cs l] [j : Tk n l r] : FV E t f cs (.agg r) := ⟨by
  obtain ⟨x, h1, h2, h3⟩ := h.h
  obtain ⟨i, h4, h5, h6⟩ := q.h
  refine ⟨x, h1, ?_⟩
  simp only [partA, h3, h4, h5, if_true, h2, h6, cut, k.h, j.h, j.len]⟩
/-! operations -/
instance pe_move {x : Operand} {v : AV} [h : OD sl x v] : PE E sl st (.move x) v [] := ⟨rfl, rfl, [], by simp only [effA, h.h]; rfl⟩
instance pe_assign {x : Operand} {v : AV} [h : OD sl x v] : PE E sl st (.assign x) v [] := ⟨rfl, rfl, [], by simp only [effA, h.h]; rfl⟩
instance pe_pick {c a b : Operand} {t : Bool} {x y r : AV} [hc : OD sl c (.bool t)] [hx : OD sl a x] [hy : OD sl b y] [k : ITE t x y r] : PE E sl st (.pick c a b) r [] := ⟨rfl, rfl, [], by simp only [effA, hc.h, hx.h, hy.h, k.h]; rfl⟩
instance pe_bin {op : BinOp} {t t' : TypeId} {a b : Operand} {x y r : AV} [hx : OD sl a x] [hy : OD sl b y] [k : BN E op t x y r] : PE E sl st (.binOp op t a b t') r [] := ⟨rfl, rfl, [], by simp only [effA, hx.h, hy.h, k.h]; rfl⟩
instance pe_un {op : UnOp} {t : TypeId} {a : Operand} {x r : AV} [hx : OD sl a x] [k : UNr op x r] : PE E sl st (.unOp op t a) r [] := ⟨rfl, rfl, [], by simp only [effA, hx.h, k.h]; rfl⟩
instance pe_fieldAddr {t : TypeId} {a : Operand} {n : Nat} {x r : AV} [hx : OD sl a x] [k : FA E t x n r] : PE E sl st (.fieldAddr t a n) r [] := ⟨rfl, rfl, [], by simp only [effA, hx.h, k.h]; rfl⟩
instance pe_field {t : TypeId} {a : Operand} {n : Nat} {cs : List AV} {r : AV} [hx : OD sl a (.agg cs)] [k : FV E t n cs r] : PE E sl st (.field t a n) r [] := ⟨rfl, rfl, [], by
  obtain ⟨x, h1, h2⟩ := k.h
  simp only [effA, hx.h, h1, h2]; rfl⟩
instance pe_index {t : TypeId} {a b : Operand} {x y r : AV} [hx : OD sl a x] [hy : OD sl b y] [k : IA E t x y r] : PE E sl st (.indexAddr t a b) r [] := ⟨rfl, rfl, [], by simp only [effA, hx.h, hy.h, k.h]; rfl⟩
instance pe_extract {a : Operand} {i : Nat} {vs : List AV} {r : AV} [hx : OD sl a (.tup vs)] [k : AtL vs i r] : PE E sl st (.extract a i) r [] := ⟨rfl, rfl, [], by simp only [effA, hx.h, k.h]; rfl⟩
instance pe_len {t : TypeId} {a : Operand} {x r : AV} [hx : OD sl a x] [k : LA E t x r] : PE E sl st (.call ⟨.builtin .len, #[a], #[t]⟩) r [] := ⟨rfl, rfl, [], by simp only [effA, opdsA, hx.h, builtinA, k.h]; rfl⟩
instance pe_cap {t : TypeId} {a : Operand} {x r : AV} [hx : OD sl a x] [k : CA E t x r] : PE E sl st (.call ⟨.builtin .cap, #[a], #[t]⟩) r [] := ⟨rfl, rfl, [], by simp only [effA, opdsA, hx.h, builtinA, k.h]; rfl⟩
instance pe_loadb {t : TypeId} {a : Operand} {b off ver : Nat} {k : Blk} {r : AV} [hx : OD sl a (.ptr b off ver)] [hb : BK st b k] [q : RB E t k off ver r] : PE E sl st (.load t a) r [b] := ⟨rfl, by simp only [needA, hx.h, leadA], [b], by
  simp only [effA, hx.h]
  rw [← q.h b]
  unfold readA
  have hs : seeA [b] (fun b => st[b]?) b = some k := by simp [seeA, hb.h]
  simp only [hs]⟩
instance pe_loadi {t : TypeId} {a : Operand} {l : List AV} {r : AV} [hx : OD sl a (.iptr l)] [q : RI E t l r] : PE E sl st (.load t a) r [] := ⟨rfl, by simp only [needA, hx.h, leadA], [], by simp only [effA, hx.h]; exact q.h _⟩
instance nb_box1 {t : TypeId} {a : Operand} {x : AV} [hx : OD sl a x] [h1 : One x] : NB E sl st (.box t a) (.ptr st.length 0 0) ⟨1, 0, [x]⟩ := ⟨rfl, rfl, by
  have hc : x.cells = [x] := by
    have := h1.h
    cases x <;> first | rfl | cases this
  simp only [effA, hx.h, hc, List.all_cons, List.all_nil, h1.h, Bool.and_self, if_true, List.length_cons, List.length_nil]⟩
instance nb_boxn {t : TypeId} {a : Operand} {cs : List AV} {n : Nat} [hx : OD sl a (.agg cs)] [h1 : OneL cs n] : NB E sl st (.box t a) (.ptr st.length 0 0) ⟨n, 0, cs⟩ := ⟨rfl, rfl, by
  simp only [effA, hx.h, AV.cells, h1.h, if_true, h1.len]⟩
instance setl_0 {a v : AV} {l : List AV} : SetL (a :: l) 0 v (v :: l) := ⟨rfl, by simp⟩
instance setl_s {a v : AV} {l r : List AV} {n : Nat} [h : SetL l n v r] : SetL (a :: l) (n + 1) v (a :: r) := ⟨by rw [List.set_cons_succ, h.h], by have := h.lt; simp; omega⟩
instance nb_alloc {t : TypeId} {n : Nat} {z : List AV} [h : ALC E t n z] : NB E sl st (.alloc t) (.ptr st.length 0 0) ⟨n, 0, z⟩ := ⟨rfl, rfl, by
  obtain ⟨i, h1, rfl, h3, h4⟩ := h.h
  simp only [effA, h1, h3, h4, if_true]⟩
theorem alc_mk {t : TypeId} {n : Nat} {z : List AV} (h : (match E.info t with | some i => Nat.beq i.size n && (match i.zero with | some w => AV.beqs w z && z.all AV.one | none => false) | none => false) = true) : ALC E t n z := ⟨by
  revert h
  cases E.info t with
  | none => intro h; cases h
  | some i =>
    intro h
    simp only [Bool.and_eq_true] at h
    obtain ⟨h1, h2⟩ := h
    cases hz : i.zero with
    | none => rw [hz] at h2; cases h2
    | some w =>
      rw [hz] at h2
      simp only [Bool.and_eq_true] at h2
      exact ⟨i, rfl, Nat.eq_of_beq_eq_true h1, by rw [hz, AV.eqs_of_beqs h2.1], h2.2⟩⟩
instance sb_scl {t : TypeId} {sz ver ver' off : Nat} {cells r : List AV} {v : AV} [h : SCL E t] [o : One v] [e : Eqv ver' ver] [k : SetL cells off v r] : SB E t ⟨sz, ver', cells⟩ off ver v ⟨sz, ver', r⟩ := ⟨fun b => by
  obtain ⟨i, h1, h2, h3⟩ := h.h
  have o1 := o.h
  have hc : v.cells = [v] := by cases v <;> first | rfl | cases o1
  have hlt := k.lt
  have hall : [v].all AV.one = true := by simp [o1]
  simp only [storeA, h1, hc, h3]
  rw [if_pos ⟨e.h, rfl, hall, by simp; omega⟩]
  simp only [paste, k.h]⟩
instance sb_agg {t : TypeId} {sz ver ver' n m m' : Nat} {cells vs : List AV} [h : AGG E t n] [o : OneL vs m] [q : OneL cells m'] [e : Eqv ver' ver] [e1 : Eqv m n] [e2 : Eqv m' n] : SB E t ⟨sz, ver', cells⟩ 0 ver (.agg vs) ⟨sz, ver', vs⟩ := ⟨fun b => by
  obtain ⟨i, h1, h2, h3⟩ := h.h
  have l1 : vs.length = n := by rw [o.len, e1.h]
  have l2 : cells.length = n := by rw [q.len, e2.h]
  simp only [storeA, h1, AV.cells, h3]
  rw [if_pos ⟨e.h, l1, o.h, by omega⟩]
  have : paste cells 0 vs = vs := by
    rw [paste_eq _ _ _ (by omega)]
    simp [show cells.length - vs.length = 0 by omega]
    omega
  rw [this]⟩
/-! one step -/
instance stp_off {op : Op} [w : Wnt ops sl g false] : STP E call ops ⟨some d, op, ty, pos, af, g⟩ ⟨sl, st, low⟩ ⟨sl.set d .undef, st, low⟩ (ft0 st) := ⟨q_offd (w.h _ rfl)⟩
instance stp_nb {op : Op} {r : AV} {k : Blk} [w : Wnt ops sl g true] [p : NB E sl st op r k] : STP E call ops ⟨some d, op, ty, pos, af, g⟩ ⟨sl, st, low⟩ ⟨sl.set d r, st ++ [k], low⟩ ⟨false, false, [], none, st.length, (st ++ [k]).length⟩ := ⟨⟨by
  have hnd := p.nd
  refine (st_eff (E := E) (call := call) (st := st) (e := (⟨r, [], none, some k⟩ : Eff)) (w.h _ rfl) p.nc (by show effA E sl (seeA (needA sl op) _) _ op = _; rw [hnd]; exact p.ef) rfl).trans ?_
  simp only [hnd]; rfl⟩⟩
instance stp_pe {op : Op} {r : AV} {need : List Nat} [w : Wnt ops sl g true] [p : PE E sl st op r need] : STP E call ops ⟨some d, op, ty, pos, af, g⟩ ⟨sl, st, low⟩ ⟨sl.set d r, st, low⟩ (ft0 st need) := ⟨⟨by
  obtain ⟨rd, h⟩ := p.ef
  have hnd := p.nd
  refine (st_pure (rd := rd) (w.h _ rfl) p.nc (by rw [hnd]; exact h)).trans ?_
  rw [hnd]⟩⟩
instance stp_store {t : TypeId} {a c : Operand} {b off ver : Nat} {v : AV} {k k' : Blk} [w : Wnt ops sl g true] [hx : OD sl a (.ptr b off ver)] [hv : OD sl c v] [hb : BK st b k] [q : SB E t k off ver v k'] :
    STP E call ops ⟨none, .store t a c, ty, pos, af, g⟩ ⟨sl, st, low⟩ ⟨sl, st.set b k', min low b⟩ ⟨false, false, [b], some b, st.length, (st.set b k').length⟩ := ⟨q_store rfl (w.h _ rfl) hx hv hb.h (q.h b)⟩
theorem n_stp {o : Oper} {l : List Oper} {s s' : S} {f : Foot} {R : S → Prop} [h : STP E call ops o s s' f] (k : YO E call ops l s' R) : YO E call ops (o :: l) s R := n_step h.h k
theorem d_stp {i : Nat} {o : Oper} {l : List (Nat × Oper)} {s s' : S} {f : Foot} {R : S × List Foot → Prop} [h : STP E call ops o s s' f] (k : TO E call ops l s' fun x => R (x.1, f :: x.2)) : TO E call ops ((i, o) :: l) s R := d_step h.h k
theorem n_add {a b : Operand} {t t' : TypeId} {x y : Int} {l : List Oper} {R : S → Prop} (h : -9223372036854775808 ≤ x + y ∧ x + y < 9223372036854775808) [w : Wnt ops sl g true] [hx : OD sl a (I x)] [hy : OD sl b (I y)]
    (k : YO E call ops l ⟨sl.set d (I (x + y)), st, low⟩ R) : YO E call ops (⟨some d, .binOp .add t a b t', ty, pos, af, g⟩ :: l) ⟨sl, st, low⟩ R := n_step (q_bin (w.h _ rfl) hx hy (bn_add h.1 h.2)) k
theorem n_sub {a b : Operand} {t t' : TypeId} {x y : Int} {l : List Oper} {R : S → Prop} (h : -9223372036854775808 ≤ x - y ∧ x - y < 9223372036854775808) [w : Wnt ops sl g true] [hx : OD sl a (I x)] [hy : OD sl b (I y)]
    (k : YO E call ops l ⟨sl.set d (I (x - y)), st, low⟩ R) : YO E call ops (⟨some d, .binOp .sub t a b t', ty, pos, af, g⟩ :: l) ⟨sl, st, low⟩ R := n_step (q_bin (w.h _ rfl) hx hy (bn_sub h.1 h.2)) k
theorem d_add {i : Nat} {a b : Operand} {t t' : TypeId} {x y : Int} {l : List (Nat × Oper)} {R : S × List Foot → Prop} (h : -9223372036854775808 ≤ x + y ∧ x + y < 9223372036854775808) [w : Wnt ops sl g true] [hx : OD sl a (I x)] [hy : OD sl b (I y)]
    (k : TO E call ops l ⟨sl.set d (I (x + y)), st, low⟩ fun r => R (r.1, ft0 st :: r.2)) : TO E call ops ((i, ⟨some d, .binOp .add t a b t', ty, pos, af, g⟩) :: l) ⟨sl, st, low⟩ R := d_step (q_bin (w.h _ rfl) hx hy (bn_add h.1 h.2)) k
theorem d_sub {i : Nat} {a b : Operand} {t t' : TypeId} {x y : Int} {l : List (Nat × Oper)} {R : S × List Foot → Prop} (h : -9223372036854775808 ≤ x - y ∧ x - y < 9223372036854775808) [w : Wnt ops sl g true] [hx : OD sl a (I x)] [hy : OD sl b (I y)]
    (k : TO E call ops l ⟨sl.set d (I (x - y)), st, low⟩ fun r => R (r.1, ft0 st :: r.2)) : TO E call ops ((i, ⟨some d, .binOp .sub t a b t', ty, pos, af, g⟩) :: l) ⟨sl, st, low⟩ R := d_step (q_bin (w.h _ rfl) hx hy (bn_sub h.1 h.2)) k

theorem wnt_go {o : Oper} [w : Wnt ops sl o.guard true] : wantedA ops sl o = true := w.h o rfl
theorem fo_mk {s : TypeId} {f off : Nat} {ft : TypeId} (h : (match fieldA E s f with | some x => Nat.beq x.offset off && Nat.beq x.type ft | none => false) = true) : FO E s f off ft := ⟨by
  revert h
  cases fieldA E s f with
  | none => intro h; cases h
  | some x =>
    intro h
    simp only [Bool.and_eq_true] at h
    exact ⟨x, rfl, Nat.eq_of_beq_eq_true h.1, Nat.eq_of_beq_eq_true h.2⟩⟩
theorem agg_mk {t : TypeId} {n : Nat} (h : (match E.info t with | some i => isAggD i.und && Nat.beq i.size n | none => false) = true) : AGG E t n := ⟨by
  revert h
  cases E.info t with
  | none => intro h; cases h
  | some x =>
    intro h
    simp only [Bool.and_eq_true] at h
    exact ⟨x, rfl, h.1, Nat.eq_of_beq_eq_true h.2⟩⟩
theorem scl_mk {t : TypeId} (h : (match E.info t with | some i => !isAggD i.und && Nat.beq i.size 1 | none => false) = true) : SCL E t := ⟨by
  revert h
  cases E.info t with
  | none => intro h; cases h
  | some x =>
    intro h
    simp only [Bool.and_eq_true, Bool.not_eq_true'] at h
    exact ⟨x, rfl, h.1, Nat.eq_of_beq_eq_true h.2⟩⟩
/-- Operands, all at once. -/
class ODs (sl : List AV) (l : List Operand) (vs : outParam (List AV)) : Prop where
  h : opdsA sl l = some vs
instance ods_nil : ODs sl [] [] := ⟨rfl⟩
instance ods_cons {x : Operand} {l : List Operand} {v : AV} {vs : List AV} [h : OD sl x v] [k : ODs sl l vs] : ODs sl (x :: l) (v :: vs) := ⟨by simp only [opdsA, h.h, k.h]⟩
class PRs (sl : List AV) (l : List (Nat × Operand)) (vs : outParam (List (Nat × AV))) : Prop where
  h : partsA sl l = some vs
instance prs_nil : PRs sl [] [] := ⟨rfl⟩
instance prs_cons {i : Nat} {x : Operand} {l : List (Nat × Operand)} {v : AV} {vs : List (Nat × AV)} [h : OD sl x v] [k : PRs sl l vs] : PRs sl ((i, x) :: l) ((i, v) :: vs) := ⟨by simp only [partsA, h.h, k.h]⟩
/-- A call: what it comes to is asked. -/
theorem n_call {f : Operand} {args : List Operand} {tys : Array TypeId} {h : FuncId} {cap vs : List AV} {r : AV} {st' : List Blk} {low' : Nat} {l : List Oper} {R : S → Prop} [w : Wnt ops sl g true] [hf : OD sl f (.fn h cap)] [ha : ODs sl args vs]
    (hc : call h (vs ++ cap) st = some (r, st', low')) (k : YO E call ops l ⟨sl.set d r, st', min low low'⟩ R) : YO E call ops (⟨some d, .call ⟨.value f, args.toArray, tys⟩, ty, pos, af, g⟩ :: l) ⟨sl, st, low⟩ R :=
  n_step (q_calld (w.h _ rfl) hf (by simpa using ha.h) hc) k
theorem n_callu {f : Operand} {args : List Operand} {tys : Array TypeId} {h : FuncId} {cap vs : List AV} {r : AV} {st' : List Blk} {low' : Nat} {l : List Oper} {R : S → Prop} [w : Wnt ops sl g true] [hf : OD sl f (.fn h cap)] [ha : ODs sl args vs]
    (hc : call h (vs ++ cap) st = some (r, st', low')) (k : YO E call ops l ⟨sl, st', min low low'⟩ R) : YO E call ops (⟨none, .call ⟨.value f, args.toArray, tys⟩, ty, pos, af, g⟩ :: l) ⟨sl, st, low⟩ R :=
  n_step (q_call (w.h _ rfl) hf (by simpa using ha.h) hc) k
theorem d_call {i : Nat} {f : Operand} {args : List Operand} {tys : Array TypeId} {h : FuncId} {cap vs : List AV} {r : AV} {st' : List Blk} {low' : Nat} {l : List (Nat × Oper)} {R : S × List Foot → Prop} [w : Wnt ops sl g true] [hf : OD sl f (.fn h cap)] [ha : ODs sl args vs]
    (hc : call h (vs ++ cap) st = some (r, st', low')) (k : TO E call ops l ⟨sl.set d r, st', min low low'⟩ fun x => R (x.1, ⟨true, decide (low' < st.length), [], none, st.length, st'.length⟩ :: x.2)) : TO E call ops ((i, ⟨some d, .call ⟨.value f, args.toArray, tys⟩, ty, pos, af, g⟩) :: l) ⟨sl, st, low⟩ R :=
  d_step (q_calld (w.h _ rfl) hf (by simpa using ha.h) hc) k
theorem n_bs {t : TypeId} {n : Nat} {ps : List (Nat × Operand)} {vs : List (Nat × AV)} {r : AV} {k : Blk} {l : List Oper} {R : S → Prop} [w : Wnt ops sl g true] [hp : PRs sl ps vs] (hr : buildSliceA E st.length t n vs = some ⟨r, [], none, some k⟩)
    (q : YO E call ops l ⟨sl.set d r, st ++ [k], low⟩ R) : YO E call ops (⟨some d, .buildSlice t n ps.toArray, ty, pos, af, g⟩ :: l) ⟨sl, st, low⟩ R :=
  n_step (q_buildSlice (w.h _ rfl) (by simpa using hp.h) hr) q
theorem d_bs {i : Nat} {t : TypeId} {n : Nat} {ps : List (Nat × Operand)} {vs : List (Nat × AV)} {r : AV} {k : Blk} {l : List (Nat × Oper)} {R : S × List Foot → Prop} [w : Wnt ops sl g true] [hp : PRs sl ps vs] (hr : buildSliceA E st.length t n vs = some ⟨r, [], none, some k⟩)
    (q : TO E call ops l ⟨sl.set d r, st ++ [k], low⟩ fun x => R (x.1, ⟨false, false, [], none, st.length, (st ++ [k]).length⟩ :: x.2)) : TO E call ops ((i, ⟨some d, .buildSlice t n ps.toArray, ty, pos, af, g⟩) :: l) ⟨sl, st, low⟩ R :=
  d_step (q_buildSlice (w.h _ rfl) (by simpa using hp.h) hr) q
/-! ends -/
theorem f_one {t : Nat} {v : AV} {l : List ResultVar} {R : List AV → Prop} (hl : l = [.tmp t]) [hv : GT sl t v] (hR : R [v]) : (Ctl.ret = .next ∨ Ctl.ret = .ret) ∧ Yes (resultsA E ⟨sl, st, low⟩ l) R := by
  subst hl
  exact ⟨.inr rfl, [v], by simp only [resultsA, resultA, hv.h], hR⟩
theorem f_two {t u : Nat} {v w : AV} {l : List ResultVar} {R : List AV → Prop} (hl : l = [.tmp t, .tmp u]) [hv : GT sl t v] [hw : GT sl u w] (hR : R [v, w]) : (Ctl.ret = .next ∨ Ctl.ret = .ret) ∧ Yes (resultsA E ⟨sl, st, low⟩ l) R := by
  subst hl
  exact ⟨.inr rfl, [v, w], by simp only [resultsA, resultA, hv.h, hw.h], hR⟩
end
end Go.Proofs.YteaifkpmfbgekaaGreatDoor.M
