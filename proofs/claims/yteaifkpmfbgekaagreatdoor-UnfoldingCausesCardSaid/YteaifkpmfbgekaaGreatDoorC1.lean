/- The evaluator's environment for the functions about causes, and its facts. -/
import Derived.Test.YteaifkpmfbgekaaGreatDoorUa
import Derived.Test.YteaifkpmfbgekaaGreatDoorB7
import Derived.Shelf.Sort.Plain
import Derived.Ground.NamesProg
set_option linter.all false
set_option linter.deprecated false
namespace Go.Proofs.YteaifkpmfbgekaaGreatDoor
open Go M
set_option maxRecDepth 100000
noncomputable def env1 : M.Env := ⟨fnT.get, tiT.get, fun f => Nat.beq f 18, fun _ => false⟩
theorem i3 : env1.info 3 = some ⟨.int .i64, 1, 8, some [.int .i64 0], []⟩ := by kernel_rfl
theorem i4 : env1.info 4 = some ⟨.bool, 1, 1, some [.bool false], []⟩ := by kernel_rfl
theorem i29 : env1.info 29 = some ⟨.int .i64, 1, 8, some [.int .i64 0], []⟩ := by kernel_rfl
theorem i22 : env1.info 22 = some ⟨.slice 53, 1, 24, some [.nils], []⟩ := by kernel_rfl
theorem i23 : env1.info 23 = some ⟨.slice 50, 1, 24, some [.nils], []⟩ := by kernel_rfl
theorem i28 : env1.info 28 = some ⟨.slice 33, 1, 24, some [.nils], []⟩ := by kernel_rfl
theorem i33 : env1.info 33 = some ⟨.slice 3, 1, 24, some [.nils], []⟩ := by kernel_rfl
theorem i58 : env1.info 58 = some ⟨.slice 4, 1, 24, some [.nils], []⟩ := by kernel_rfl
instance scl3 : SCL env1 3 := scl_mk (by kernel_rfl)
instance scl4 : SCL env1 4 := scl_mk (by kernel_rfl)
instance scl22 : SCL env1 22 := scl_mk (by kernel_rfl)
instance scl23 : SCL env1 23 := scl_mk (by kernel_rfl)
instance scl33 : SCL env1 33 := scl_mk (by kernel_rfl)
instance agg25 : AGG env1 25 2 := agg_mk (by kernel_rfl)
instance agg50 : AGG env1 50 3 := agg_mk (by kernel_rfl)
instance agg53 : AGG env1 53 5 := agg_mk (by kernel_rfl)
instance fo25a : FO env1 25 0 0 22 := fo_mk (by kernel_rfl)
instance fo25b : FO env1 25 1 1 23 := fo_mk (by kernel_rfl)
instance fo50a : FO env1 50 0 0 3 := fo_mk (by kernel_rfl)
instance fo50b : FO env1 50 1 1 33 := fo_mk (by kernel_rfl)
instance fo50c : FO env1 50 2 2 33 := fo_mk (by kernel_rfl)
instance fo53e : FO env1 53 4 4 3 := fo_mk (by kernel_rfl)
instance alc50 : ALC env1 50 3 [I 0, .nils, .nils] := alc_mk (by kernel_rfl)
theorem rb_one {t : TypeId} {i : TI} {off ver : Nat} (hi : env1.info t = some i) (ha : isAggD i.und = false) {k : Blk} {v : AV} (hv : k.ver = ver) (hc : k.cells[off]? = some v) : RB env1 t k off ver v := ⟨fun b => by
  simp only [readA, hi, ha, Bool.false_eq_true, if_false, hv, if_true]
  obtain ⟨h1, h2⟩ := List.getElem?_eq_some_iff.1 hc
  have : cut k.cells off 1 = some [v] := by
    unfold cut
    have e : (k.cells.drop off).take 1 = [v] := by rw [List.drop_eq_getElem_cons h1, h2]; rfl
    rw [e]; rfl
  rw [this]⟩
end Go.Proofs.YteaifkpmfbgekaaGreatDoor

namespace Go.Proofs
open Go.Shelf
def Tryz.lays189_ren : Go.Shelf.Ren := ⟨fun | 189 => 18 | 125 => 37 | 257 => 36 | 128 => 78 | 129 => 79 | 294 => 69 | 295 => 70 | 296 => 71 | 297 => 72 | 298 => 73 | 299 => 74 | 216 => 75 | 300 => 76 | 301 => 77 | 328 => 100 | 329 => 101 | 330 => 102 | 331 => 103 | 332 => 104 | 215 => 105 | 343 => 128 | n => n, fun | 28 => 33 | 3 => 3 | 46 => 101 | 0 => 0 | 51 => 138 | 53 => 118 | 4 => 4 | 183 => 131 | 182 => 130 | 131 => 135 | 5 => 5 | 9 => 9 | 218 => 158 | 222 => 162 | 228 => 190 | 229 => 191 | n => n, fun | n => n⟩
theorem Tryz.lays189 : Go.Proofs.Lays.n189 Tryz.prog Tryz.lays189_ren := {
  mixed := by kernel_rfl
  f125 := Tryz.func37.trans (congrArg some (by kernel_rfl))
  f128 := Tryz.func78.trans (congrArg some (by kernel_rfl))
  f129 := Tryz.func79.trans (congrArg some (by kernel_rfl))
  f189 := Tryz.func18.trans (congrArg some (by kernel_rfl))
  f215 := Tryz.func105.trans (congrArg some (by kernel_rfl))
  f216 := Tryz.func75.trans (congrArg some (by kernel_rfl))
  f257 := Tryz.func36.trans (congrArg some (by kernel_rfl))
  f294 := Tryz.func69.trans (congrArg some (by kernel_rfl))
  f295 := Tryz.func70.trans (congrArg some (by kernel_rfl))
  f296 := Tryz.func71.trans (congrArg some (by kernel_rfl))
  f297 := Tryz.func72.trans (congrArg some (by kernel_rfl))
  f298 := Tryz.func73.trans (congrArg some (by kernel_rfl))
  f299 := Tryz.func74.trans (congrArg some (by kernel_rfl))
  f300 := Tryz.func76.trans (congrArg some (by kernel_rfl))
  f301 := Tryz.func77.trans (congrArg some (by kernel_rfl))
  f328 := Tryz.func100.trans (congrArg some (by kernel_rfl))
  f329 := Tryz.func101.trans (congrArg some (by kernel_rfl))
  f330 := Tryz.func102.trans (congrArg some (by kernel_rfl))
  f331 := Tryz.func103.trans (congrArg some (by kernel_rfl))
  f332 := Tryz.func104.trans (congrArg some (by kernel_rfl))
  f343 := Tryz.func128.trans (congrArg some (by kernel_rfl))
  t0 := Tryz.underlying0
  a0 := Tryz.isAgg0
  z0 := Tryz.sizeOf0
  v0 := Tryz.zeroValue0
  t3 := Tryz.underlying3
  a3 := Tryz.isAgg3
  z3 := Tryz.sizeOf3
  v3 := Tryz.zeroValue3
  t4 := Tryz.underlying4
  a4 := Tryz.isAgg4
  z4 := Tryz.sizeOf4
  v4 := Tryz.zeroValue4
  t5 := Tryz.underlying5
  a5 := Tryz.isAgg5
  z5 := Tryz.sizeOf5
  v5 := Tryz.zeroValue5
  t9 := Tryz.underlying9
  a9 := Tryz.isAgg9
  z9 := Tryz.sizeOf9
  v9 := Tryz.zeroValue9
  t28 := Tryz.underlying33
  a28 := Tryz.isAgg33
  z28 := Tryz.sizeOf33
  v28 := Tryz.zeroValue33
  t46 := Tryz.underlying101
  a46 := Tryz.isAgg101
  z46 := Tryz.sizeOf101
  v46 := Tryz.zeroValue101
  t51 := Tryz.underlying138
  a51 := Tryz.isAgg138
  z51 := Tryz.sizeOf138
  v51 := Tryz.zeroValue138
  t53 := Tryz.underlying118
  a53 := Tryz.isAgg118
  z53 := Tryz.sizeOf118
  v53 := Tryz.zeroValue118
  t131 := Tryz.underlying135
  a131 := Tryz.isAgg135
  z131 := Tryz.sizeOf135
  v131 := Tryz.zeroValue135
  t182 := Tryz.underlying130
  a182 := Tryz.isAgg130
  z182 := Tryz.sizeOf130
  v182 := Tryz.zeroValue130
  t183 := Tryz.underlying131
  a183 := Tryz.isAgg131
  z183 := Tryz.sizeOf131
  v183 := Tryz.zeroValue131
  t218 := Tryz.underlying158
  a218 := Tryz.isAgg158
  z218 := Tryz.sizeOf158
  v218 := Tryz.zeroValue158
  t222 := Tryz.underlying162
  a222 := Tryz.isAgg162
  z222 := Tryz.sizeOf162
  v222 := Tryz.zeroValue162
  t228 := Tryz.underlying190
  a228 := Tryz.isAgg190
  z228 := Tryz.sizeOf190
  v228 := Tryz.zeroValue190
  t229 := Tryz.underlying191
  a229 := Tryz.isAgg191
  z229 := Tryz.sizeOf191
  v229 := Tryz.zeroValue191 }
end Go.Proofs
namespace Go.Proofs.YteaifkpmfbgekaaGreatDoor
open Go M
theorem sorts18 : M.Sorts Tryz.prog 18 := fun blk off cap zs w hH hb hs => Any.slices_Sort_int Tryz.lays189 blk off cap zs w hH hb hs
end Go.Proofs.YteaifkpmfbgekaaGreatDoor

namespace Go.Proofs.YteaifkpmfbgekaaGreatDoor
open Go M
set_option maxRecDepth 100000
abbrev tyEl : Ty := .fld .bool (.fld (.int .i64) (.fld (.int .i64) (.fld (.int .i64) (.fld (.int .i64) .fin))))
abbrev tyEv : Ty := .fld (.int .i64) (.fld (.slice (.int .i64)) (.fld (.slice (.int .i64)) .fin))
abbrev El := tyEl.den
abbrev Evt := tyEv.den
def El.ev (x : El) : Int := x.2.2.2.2.1
/-- A row of elements, of events, of integers. -/
def ERow (v : AV) (l : List El) : Prop := Row v 5 l.length (l.flatMap tyEl.enc)
def VRow (v : AV) (l : List Evt) : Prop := Row v 3 l.length (l.flatMap tyEv.enc)
def IRow (v : AV) (l : List Int) : Prop := Row v 1 l.length (l.map I)

theorem flat_drop (t : Ty) : ∀ (l : List t.den) (i : Nat) (h : i < l.length), (l.flatMap t.enc).drop (i * t.size) = t.enc l[i] ++ (l.drop (i + 1)).flatMap t.enc
  | [], i, h => by simp at h
  | x :: l, 0, h => by simp
  | x :: l, i + 1, h => by
    rw [List.flatMap_cons, Nat.succ_mul, Nat.add_comm, ← List.drop_drop]
    rw [show (t.enc x ++ List.flatMap t.enc l).drop t.size = l.flatMap t.enc from by rw [List.drop_left' (Ty.enc_len t x)]]
    simpa using flat_drop t l i (by simpa using h)

theorem la_of {t e : TypeId} {sz b : Nat} {z : Option (List AV)} {q : List CK} (hi : env1.info t = some ⟨.slice e, sz, b, z, q⟩) {v : AV} {k n : Nat} {cells : List AV} (h : Row v k n cells) : LA env1 t v (I n) := ⟨row_len hi h⟩
theorem la22 {v : AV} {l : List El} (h : ERow v l) : LA env1 22 v (I l.length) := la_of i22 h
theorem la23 {v : AV} {l : List Evt} (h : VRow v l) : LA env1 23 v (I l.length) := la_of i23 h
theorem la33 {v : AV} {l : List Int} (h : IRow v l) : LA env1 33 v (I l.length) := la_of i33 h

theorem s53 : ∃ j, env1.info 53 = some j ∧ j.size = 5 := ⟨ti53, by kernel_rfl, rfl⟩
theorem s50 : ∃ j, env1.info 50 = some j ∧ j.size = 3 := ⟨ti50, by kernel_rfl, rfl⟩

theorem ia22 {v : AV} {l : List El} (h : ERow v l) {i : Nat} (hi : i < l.length) :
    IA env1 22 v (I i) (.iptr (.bool l[i].1 :: I l[i].2.1 :: I l[i].2.2.1 :: I l[i].2.2.2.1 :: I l[i].ev :: (l.drop (i + 1)).flatMap tyEl.enc)) := by
  obtain ⟨j, hj, hs⟩ := s53
  have := row_at i22 hj (v := v) (n := l.length) (cells := l.flatMap tyEl.enc) (by rw [hs]; exact h) (by omega) (i := i) (by omega) (by omega)
  refine ⟨this.trans ?_⟩
  rw [hs]
  have e := flat_drop tyEl l i hi
  simp only [Int.toNat_natCast]
  rw [show i * 5 = i * tyEl.size from rfl, e]
  rfl
theorem ia23 {v : AV} {l : List Evt} (h : VRow v l) {i : Nat} (hi : i < l.length) :
    IA env1 23 v (I i) (.iptr (I l[i].1 :: (Ty.slice (.int .i64)).arg l[i].2.1 :: (Ty.slice (.int .i64)).arg l[i].2.2.1 :: (l.drop (i + 1)).flatMap tyEv.enc)) := by
  obtain ⟨j, hj, hs⟩ := s50
  have := row_at i23 hj (v := v) (n := l.length) (cells := l.flatMap tyEv.enc) (by rw [hs]; exact h) (by omega) (i := i) (by omega) (by omega)
  refine ⟨this.trans ?_⟩
  rw [hs]
  have e := flat_drop tyEv l i hi
  simp only [Int.toNat_natCast]
  rw [show i * 3 = i * tyEv.size from rfl, e]
  rcases l[i] with ⟨r, a, b, u⟩
  cases a <;> cases b <;> rfl
theorem ia33 {v : AV} {l : List Int} (h : IRow v l) {i : Nat} (hi : i < l.length) : IA env1 33 v (I i) (.iptr (I l[i] :: (l.drop (i + 1)).map I)) := by
  have := row_at i33 i3 (v := v) (n := l.length) (cells := l.map I) h (by decide) (i := i) (by omega) (by omega)
  refine ⟨this.trans ?_⟩
  simp only [Int.toNat_natCast, Nat.mul_one]
  rw [← List.map_drop, List.drop_eq_getElem_cons hi]
  rfl

theorem irow_arg (x : Option (List Int)) : IRow ((Ty.slice (.int .i64)).arg x) (x.getD []) := by
  cases x with
  | none => exact .inl ⟨rfl, rfl, rfl⟩
  | some l =>
    refine .inr ⟨?_, by simp⟩
    show AV.imm l.length (l.flatMap fun n => [.int .i64 n]) = _
    simp [List.flatMap_singleton']
    induction l with
    | nil => rfl
    | cons x l ih => simpa using ih
end Go.Proofs.YteaifkpmfbgekaaGreatDoor

namespace Go.Proofs.YteaifkpmfbgekaaGreatDoor
open Go M
section
variable {st : List Blk} {n d : Nat}
theorem frz_bare {v : AV} (h : v.bare = true) : frzA st n d v = some v := by
  cases d with
  | zero => simp only [frzA, h, if_true]
  | succ d => cases v <;> simp_all [frzA, AV.bare]
theorem mapO_id {f : AV → Option AV} : ∀ {l : List AV}, (∀ v ∈ l, f v = some v) → mapO f l = some l
  | [], _ => rfl
  | x :: l, h => by simp only [mapO, h x (List.mem_cons_self ..), mapO_id fun y hy => h y (List.mem_cons_of_mem _ hy)]
theorem frz_imm {m : Nat} {l : List AV} (h : mapO (frzA st n d) l = some l) : frzA st n (d + 1) (.imm m l) = some (.imm m l) := by simp only [frzA, h]
theorem frz_agg {l : List AV} (h : mapO (frzA st n d) l = some l) : frzA st n (d + 1) (.agg l) = some (.agg l) := by simp only [frzA, h]
theorem frz_row {v : AV} {k m : Nat} {cells : List AV} (h : Row v k m cells) (hc : ∀ x ∈ cells, frzA st n d x = some x) : frzA st n (d + 1) v = some v := by
  rcases h with ⟨rfl, _⟩ | ⟨rfl, _⟩
  · rfl
  · exact frz_imm (mapO_id hc)
theorem frz_irow {v : AV} {l : List Int} (h : IRow v l) : frzA st n (d + 1) v = some v := frz_row h fun x hx => by
  obtain ⟨z, _, rfl⟩ := List.mem_map.1 hx
  exact frz_bare rfl
theorem frz_erow {v : AV} {l : List El} (h : ERow v l) : frzA st n (d + 1) v = some v := frz_row h fun x hx => by
  obtain ⟨z, _, hz⟩ := List.mem_flatMap.1 hx
  refine frz_bare ?_
  rcases z with ⟨a, b, c, e, g, u⟩
  simp only [Ty.enc, List.mem_append, List.mem_singleton, List.not_mem_nil, or_false] at hz
  rcases hz with rfl | rfl | rfl | rfl | rfl <;> rfl
theorem frz_vrow {v : AV} {l : List Evt} (h : VRow v l) : frzA st n (d + 2) v = some v := frz_row h fun x hx => by
  obtain ⟨z, _, hz⟩ := List.mem_flatMap.1 hx
  rcases z with ⟨a, b, c, u⟩
  have hb := irow_arg b
  have hc := irow_arg c
  cases b <;> cases c <;> simp only [Ty.enc, List.mem_append, List.mem_singleton, List.not_mem_nil, or_false] at hz <;> rcases hz with rfl | rfl | rfl <;> first | exact frz_bare rfl | exact frz_irow hb | exact frz_irow hc
end
theorem lookK_ok {T : List Known} {f : FuncId} {args cs : List AV} {st : List Blk} {r : AV} (hf : anyF T f = true) (hm : mapO (frzA st 0 12) args = some cs) (hr : findK T f cs = some r) : lookK T f args st = some (r, st, st.length) := by
  simp only [lookK, hf, if_true, hm, hr]
theorem findK_head {T : List Known} {f : FuncId} {cs : List AV} {r : AV} : findK (⟨f, cs, r⟩ :: T) f cs = some r := by
  simp only [findK, Nat.beq_refl, AV.beqs_self, Bool.and_self, if_true]
theorem findK_tail {T : List Known} {e : Known} {f : FuncId} {cs : List AV} (h : Nat.beq e.f f = false) : findK (e :: T) f cs = findK T f cs := by
  simp only [findK, h, Bool.false_and, Bool.false_eq_true, if_false]
theorem anyF_head {T : List Known} {e : Known} : anyF (e :: T) e.f = true := by simp [anyF]
theorem goods_one {P : Program} {e : Known} (h : GoodK P e) : ∀ x ∈ [e], GoodK P x := goods_cons h goods_nil

/-- Integers, read. -/
def dI : AV → Option (List Int)
  | .nils => some []
  | .imm n l => match intsA l with
    | some zs => if zs.length = n then some zs else none
    | none => none
  | _ => none
theorem intsA_map : ∀ (l : List Int), intsA (l.map I) = some l
  | [] => rfl
  | x :: l => by simp only [List.map_cons, intsA, intsA_map l]
theorem intsA_some : ∀ {l : List AV} {zs : List Int}, intsA l = some zs → l = zs.map I
  | [], zs, h => by cases h; rfl
  | v :: l, zs, h => by
    cases v with
    | int k n =>
      cases k with
      | i64 =>
        simp only [intsA] at h
        cases hl : intsA l with
        | none => rw [hl] at h; cases h
        | some ns => rw [hl] at h; cases h; rw [List.map_cons, ← intsA_some hl]
      | _ => simp [intsA] at h
    | _ => simp [intsA] at h
theorem dI_row {v : AV} {l : List Int} (h : dI v = some l) : IRow v l := by
  unfold dI at h
  split at h
  · cases h; exact .inl ⟨rfl, rfl, rfl⟩
  · split at h
    · rename_i zs hz
      split at h
      · rename_i hn; cases h; subst hn; refine .inr ⟨by rw [intsA_some hz], by simp⟩
      · cases h
    · cases h
  · cases h
theorem row_dI {v : AV} {l : List Int} (h : IRow v l) : dI v = some l := by
  rcases h with ⟨rfl, h1, _⟩ | ⟨rfl, _⟩
  · cases l with
    | nil => rfl
    | cons x l => simp at h1
  · simp only [dI, intsA_map, if_true]
end Go.Proofs.YteaifkpmfbgekaaGreatDoor

namespace Go.Proofs.YteaifkpmfbgekaaGreatDoor
open Go M
/-- A slice that is ours, and ends where its block ends. -/
def OutG (st : List Blk) (v : AV) (cells : List AV) : Prop := (v = .nils ∧ cells = []) ∨ ∃ b ver, v = .sl b 0 cells.length ver 1 ∧ st[b]? = some ⟨1, ver, cells⟩
/-- What is appended. -/
def SrcG (st : List Blk) (v : AV) (cs : List AV) : Prop := Row v 1 cs.length cs ∨ ∃ b ver rest, v = .sl b 0 cs.length ver 1 ∧ st[b]? = some ⟨1, ver, cs ++ rest⟩

theorem SrcG.src {st : List Blk} {v : AV} {cs : List AV} (h : SrcG st v cs) {need : List Nat} (hn : ∀ b ∈ leadA (some v), b ∈ need) : ∃ rd, srcA (seeA need fun b => st[b]?) 1 v = some (cs.length, cs, rd) := by
  rcases h with (⟨rfl, h1, rfl⟩ | ⟨rfl, h1⟩) | ⟨b, ver, rest, rfl, hb⟩
  · exact ⟨[], rfl⟩
  · exact ⟨[], by simp only [srcA, Nat.mul_one, if_true]⟩
  · refine ⟨[b], ?_⟩
    have hc : need.contains b = true := by simpa using hn b (by simp [leadA])
    have hk : seeA need (fun b => st[b]?) b = some ⟨1, ver, cs ++ rest⟩ := by simp only [seeA, hc, if_true, hb]
    have hcut : cut (cs ++ rest) 0 (cs.length * 1) = some cs := by
      unfold cut
      simp
    simp only [srcA, hk, and_self, if_true, hcut]

theorem app_eff {t e : TypeId} {bs bs' : Nat} {z : Option (List AV)} {q q' : List CK} {u : TypeDesc} {zz : AV} (hi : env1.info t = some ⟨.slice e, 1, bs, z, q⟩) (hj : env1.info e = some ⟨u, 1, bs', some [zz], q'⟩) (hb : 0 < bs' ∧ bs' ≤ mostCells)
    {st : List Blk} {x y : AV} {cells cs : List AV} {need : List Nat} (hn : leadA (some x) ++ leadA (some y) = need) (hx : OutG st x cells) (hy : SrcG st y cs) (hone : cs.all AV.one = true) (hm : cells.length + cs.length ≤ 1048576) {id : Nat} :
    ∃ ef rd, appendA env1 (seeA need fun b => st[b]?) id [t, t] [x, y] = some ef ∧
      ((cs = [] ∧ ef = ⟨x, rd, none, none⟩) ∨ (x = .nils ∧ cells = [] ∧ ef = ⟨.sl id 0 cs.length 0 1, rd, none, some ⟨1, 0, cs⟩⟩) ∨
        (∃ b ver, x = .sl b 0 cells.length ver 1 ∧ st[b]? = some ⟨1, ver, cells⟩ ∧ ef = ⟨.sl b 0 (cells.length + cs.length) (ver + 1) 1, b :: rd, some (b, ⟨1, ver + 1, cells ++ cs⟩), none⟩)) := by
  obtain ⟨rd, hsrc⟩ := hy.src (need := need) (fun b hb => by rw [← hn]; exact List.mem_append_right _ hb)
  have happ : appendA env1 (seeA need fun b => st[b]?) id [t, t] [x, y] = ontoA (seeA need fun b => st[b]?) id 1 x cs.length cs rd := by
    simp only [appendA, hi, hj]
    rw [if_pos ⟨by decide, rfl, hb.1, hb.2⟩]
    simp only [hsrc]
    rw [if_pos ⟨by unfold mostCells; omega, hone⟩]
  rw [happ]
  unfold ontoA
  by_cases h0 : cs.length = 0
  · have : cs = [] := List.length_eq_zero_iff.1 h0
    rw [if_pos h0]
    subst this
    rcases hx with ⟨rfl, rfl⟩ | ⟨b, ver, rfl, hb⟩
    · exact ⟨_, rd, rfl, .inl ⟨rfl, rfl⟩⟩
    · exact ⟨_, rd, rfl, .inl ⟨rfl, rfl⟩⟩
  · rw [if_neg h0]
    rcases hx with ⟨rfl, rfl⟩ | ⟨b, ver, rfl, hb⟩
    · exact ⟨_, rd, rfl, .inr (.inl ⟨rfl, rfl, rfl⟩)⟩
    · have hc : need.contains b = true := by rw [← hn]; simp [leadA]
      have hk : seeA need (fun b => st[b]?) b = some ⟨1, ver, cells⟩ := by simp only [seeA, hc, if_true, hb]
      refine ⟨_, rd, ?_, .inr (.inr ⟨b, ver, rfl, hb, rfl⟩)⟩
      simp only [hk, and_self, if_true, Nat.mul_one, List.take_length]
      rw [if_neg (by omega), if_pos ⟨trivial, by unfold mostCells; omega, Nat.le_refl _⟩]

/-- One append, as a step. -/
theorem q_app {call : CallR} {ops : Array Oper} {sl : List AV} {st : List Blk} {low : Nat} {d : Tmp} {ty : TypeId} {pos : String} {af : Array Edge} {g : Option (Nat × Bool)} {a b : Operand}
    {t e : TypeId} {bs bs' : Nat} {z : Option (List AV)} {q q' : List CK} {u : TypeDesc} {zz : AV} (hi : env1.info t = some ⟨.slice e, 1, bs, z, q⟩) (hj : env1.info e = some ⟨u, 1, bs', some [zz], q'⟩) (hb : 0 < bs' ∧ bs' ≤ mostCells)
    {x y : AV} {cells cs : List AV} (hw : wantedA ops sl ⟨some d, .call ⟨.builtin .append, #[a, b], #[t, t]⟩, ty, pos, af, g⟩ = true) (hax : OD sl a x) (hby : OD sl b y) (hx : OutG st x cells) (hy : SrcG st y cs) (hone : cs.all AV.one = true) (hm : cells.length + cs.length ≤ 1048576) :
    ∃ x' st' low' f, Stp env1 call ops ⟨some d, .call ⟨.builtin .append, #[a, b], #[t, t]⟩, ty, pos, af, g⟩ ⟨sl, st, low⟩ ⟨sl.set d x', st', low'⟩ f ∧ OutG st' x' (cells ++ cs) ∧ st.length ≤ st'.length ∧
      (∀ b', b' < st.length → (∀ o n v s, x ≠ .sl b' o n v s) → st'[b']? = st[b']?) ∧ (∀ b' o n v s, x' = .sl b' o n v s → b' = st.length ∨ ∃ o n v s, x = .sl b' o n v s) ∧
      f = ⟨false, false, leadA (some x) ++ leadA (some y), f.wr, st.length, st'.length⟩ ∧ (∀ b', f.wr = some b' → ∃ o n v s, x = .sl b' o n v s) ∧ (x ≠ .nils → x' ≠ .nils) := by
  obtain ⟨ef, rd, he, h⟩ := app_eff hi hj hb rfl hx hy hone hm (id := st.length)
  have hwr : wrOk st (leadA (some x) ++ leadA (some y)) ef = true := by
    rcases h with ⟨_, rfl⟩ | ⟨_, _, rfl⟩ | ⟨b, ver, rfl, hb, rfl⟩
    · rfl
    · rfl
    · have hlt := (List.getElem?_eq_some_iff.1 hb).1
      simp [wrOk, leadA, hlt]
  have hst := q_append (call := call) (low := low) hw hax hby rfl he hwr
  refine ⟨_, _, _, _, hst, ?_⟩
  rcases h with ⟨rfl, rfl⟩ | ⟨rfl, rfl, rfl⟩ | ⟨b, ver, rfl, hb, rfl⟩
  · refine ⟨by simpa [effApply] using hx, Nat.le_refl _, fun _ _ _ => rfl, fun b' o n v s h => .inr ⟨o, n, v, s, h⟩, rfl, (fun b' h => by cases h), fun h => h⟩
  · refine ⟨.inr ⟨st.length, 0, rfl, by simp [effApply]⟩, by simp [effApply], fun b' hb' _ => ?_, fun b' o n v s h => ?_, rfl, (fun b' h => by cases h), fun h => absurd rfl h⟩
    · simp only [effApply]; rw [List.getElem?_append_left hb']
    · cases h; exact .inl rfl
  · have hlt := (List.getElem?_eq_some_iff.1 hb).1
    refine ⟨.inr ⟨b, ver + 1, by simp, by simp [effApply, hlt]⟩, by simp [effApply], fun b' hb' hne => ?_, fun b' o n v s h => ?_, rfl, fun b' h => ?_, fun _ h => by cases h⟩
    · simp only [effApply]
      rw [List.getElem?_set_ne]
      rintro rfl
      exact hne _ _ _ _ rfl
    · cases h; exact .inr ⟨_, _, _, _, rfl⟩
    · cases h; exact ⟨_, _, _, _, rfl⟩

theorem OutG.app {st : List Blk} {v : AV} {cells : List AV} (h : OutG st v cells) (k : List Blk) : OutG (st ++ k) v cells := by
  rcases h with h | ⟨b, ver, rfl, hb⟩
  · exact .inl h
  · exact .inr ⟨b, ver, rfl, by rw [List.getElem?_append_left (List.getElem?_eq_some_iff.1 hb).1]; exact hb⟩
theorem SrcG.one {st : List Blk} {v : AV} : SrcG (st ++ [⟨1, 0, [v]⟩]) (.sl st.length 0 1 0 1) [v] := .inr ⟨st.length, 0, [], rfl, by simp⟩
theorem parts1 {sl : List AV} {x : Operand} {v : AV} (h : OD sl x v) : partsA sl [(0, x)] = some [(0, v)] := by simp only [partsA, h.eq]
theorem bs33 {id : Nat} {z : Int} : buildSliceA env1 id 33 1 [(0, I z)] = some ⟨.sl id 0 1 0 1, [], none, some ⟨1, 0, [I z]⟩⟩ := by kernel_rfl
/-- What an append leaves. -/
structure AppG (st st' : List Blk) (x x' y : AV) (cells cs : List AV) (f : Foot) : Prop where
  out : OutG st' x' (cells ++ cs)
  len : st.length ≤ st'.length
  frame : ∀ b', b' < st.length → (∀ o n v s, x ≠ .sl b' o n v s) → st'[b']? = st[b']?
  new : ∀ b' o n v s, x' = .sl b' o n v s → b' = st.length ∨ ∃ o n v s, x = .sl b' o n v s
  foot : f = ⟨false, false, leadA (some x) ++ leadA (some y), f.wr, st.length, st'.length⟩
  wr : ∀ b', f.wr = some b' → ∃ o n v s, x = .sl b' o n v s
  nn : x ≠ .nils → x' ≠ .nils
theorem n_app {call : CallR} {ops : Array Oper} {sl : List AV} {st : List Blk} {low : Nat} {d : Tmp} {ty : TypeId} {pos : String} {af : Array Edge} {g : Option (Nat × Bool)} {a b : Operand} {l : List Oper} {R : S → Prop}
    {t e : TypeId} {bs bs' : Nat} {z : Option (List AV)} {q q' : List CK} {u : TypeDesc} {zz : AV} (hi : env1.info t = some ⟨.slice e, 1, bs, z, q⟩) (hj : env1.info e = some ⟨u, 1, bs', some [zz], q'⟩) (hb : 0 < bs' ∧ bs' ≤ mostCells)
    {x y : AV} {cells cs : List AV} (hw : wantedA ops sl ⟨some d, .call ⟨.builtin .append, #[a, b], #[t, t]⟩, ty, pos, af, g⟩ = true) (hax : OD sl a x) (hby : OD sl b y) (hx : OutG st x cells) (hy : SrcG st y cs) (hone : cs.all AV.one = true) (hm : cells.length + cs.length ≤ 1048576)
    (k : ∀ x' st' low' f, AppG st st' x x' y cells cs f → YO env1 call ops l ⟨sl.set d x', st', low'⟩ R) : YO env1 call ops (⟨some d, .call ⟨.builtin .append, #[a, b], #[t, t]⟩, ty, pos, af, g⟩ :: l) ⟨sl, st, low⟩ R := by
  obtain ⟨x', st', low', f, h1, h2, h3, h4, h5, h6, h7, h8⟩ := q_app (call := call) (low := low) hi hj hb hw hax hby hx hy hone hm
  exact n_step h1 (k x' st' low' f ⟨h2, h3, h4, h5, h6, h7, h8⟩)
theorem d_app {call : CallR} {ops : Array Oper} {sl : List AV} {st : List Blk} {low : Nat} {d : Tmp} {ty : TypeId} {pos : String} {af : Array Edge} {g : Option (Nat × Bool)} {a b : Operand} {i : Nat} {l : List (Nat × Oper)} {R : S × List Foot → Prop}
    {t e : TypeId} {bs bs' : Nat} {z : Option (List AV)} {q q' : List CK} {u : TypeDesc} {zz : AV} (hi : env1.info t = some ⟨.slice e, 1, bs, z, q⟩) (hj : env1.info e = some ⟨u, 1, bs', some [zz], q'⟩) (hb : 0 < bs' ∧ bs' ≤ mostCells)
    {x y : AV} {cells cs : List AV} (hw : wantedA ops sl ⟨some d, .call ⟨.builtin .append, #[a, b], #[t, t]⟩, ty, pos, af, g⟩ = true) (hax : OD sl a x) (hby : OD sl b y) (hx : OutG st x cells) (hy : SrcG st y cs) (hone : cs.all AV.one = true) (hm : cells.length + cs.length ≤ 1048576)
    (k : ∀ x' st' low' f, AppG st st' x x' y cells cs f → TO env1 call ops l ⟨sl.set d x', st', low'⟩ fun r => R (r.1, f :: r.2)) : TO env1 call ops ((i, ⟨some d, .call ⟨.builtin .append, #[a, b], #[t, t]⟩, ty, pos, af, g⟩) :: l) ⟨sl, st, low⟩ R := by
  obtain ⟨x', st', low', f, h1, h2, h3, h4, h5, h6, h7, h8⟩ := q_app (call := call) (low := low) hi hj hb hw hax hby hx hy hone hm
  exact d_step h1 (k x' st' low' f ⟨h2, h3, h4, h5, h6, h7, h8⟩)

/-- An append where there is room. -/
theorem n_room {call : CallR} {ops : Array Oper} {sl : List AV} {st : List Blk} {low : Nat} {d : Tmp} {ty : TypeId} {pos : String} {af : Array Edge} {g : Option (Nat × Bool)} {a b : Operand} {l : List Oper} {R : S → Prop}
    {t e : TypeId} {bs bs' : Nat} {z : Option (List AV)} {q q' : List CK} {u : TypeDesc} {zz : AV} (hi : env1.info t = some ⟨.slice e, 1, bs, z, q⟩) (hj : env1.info e = some ⟨u, 1, bs', some [zz], q'⟩) (hb : 0 < bs' ∧ bs' ≤ mostCells)
    {y : AV} {pre rest cs : List AV} {c ver len : Nat} (hw : wantedA ops sl ⟨some d, .call ⟨.builtin .append, #[a, b], #[t, t]⟩, ty, pos, af, g⟩ = true) (hax : OD sl a (.sl c 0 len ver 1)) (hby : OD sl b y) (hlen : len = pre.length) (hx : st[c]? = some ⟨1, ver, pre ++ rest⟩) (hy : SrcG st y cs) (hone : cs.all AV.one = true)
    (hr : cs.length ≤ rest.length) (hm : cs.length ≤ 1048576)
    (k : ∀ low', YO env1 call ops l ⟨sl.set d (.sl c 0 (len + cs.length) ver 1), st.set c ⟨1, ver, pre ++ cs ++ rest.drop cs.length⟩, low'⟩ R) : YO env1 call ops (⟨some d, .call ⟨.builtin .append, #[a, b], #[t, t]⟩, ty, pos, af, g⟩ :: l) ⟨sl, st, low⟩ R := by
  subst hlen
  obtain ⟨rd, hsrc⟩ := hy.src (need := leadA (some (.sl c 0 pre.length ver 1)) ++ leadA (some y)) (fun b hb => List.mem_append_right _ hb)
  have hlt := (List.getElem?_eq_some_iff.1 hx).1
  have hk : seeA (leadA (some (.sl c 0 pre.length ver 1)) ++ leadA (some y)) (fun b => st[b]?) c = some ⟨1, ver, pre ++ rest⟩ := by
    have hc : (leadA (some (AV.sl c 0 pre.length ver 1)) ++ leadA (some y)).contains c = true := by simp [leadA]
    simp only [seeA, hc, if_true, hx]
  have happ : appendA env1 (seeA (leadA (some (.sl c 0 pre.length ver 1)) ++ leadA (some y)) fun b => st[b]?) st.length [t, t] [.sl c 0 pre.length ver 1, y] = ontoA (seeA (leadA (some (.sl c 0 pre.length ver 1)) ++ leadA (some y)) fun b => st[b]?) st.length 1 (.sl c 0 pre.length ver 1) cs.length cs rd := by
    simp only [appendA, hi, hj]
    rw [if_pos ⟨by decide, rfl, hb.1, hb.2⟩]
    simp only [hsrc]
    rw [if_pos ⟨by unfold mostCells; omega, hone⟩]
  by_cases h0 : cs.length = 0
  · have hcs : cs = [] := List.length_eq_zero_iff.1 h0
    subst hcs
    have he : st.set c ⟨1, ver, pre ++ [] ++ rest.drop 0⟩ = st := by
      obtain ⟨h1, h2⟩ := List.getElem?_eq_some_iff.1 hx
      simp only [List.append_nil, List.drop_zero]
      rw [← h2]; simp
    refine n_step (q_append (e := ⟨.sl c 0 pre.length ver 1, rd, none, none⟩) hw hax hby rfl (happ.trans rfl) rfl) ?_
    have := k low
    simp only [List.length_nil, Nat.add_zero] at this
    rw [he] at this
    exact this
  · refine n_step (q_append (e := ⟨.sl c 0 (pre.length + cs.length) ver 1, c :: rd, some (c, ⟨1, ver, pre ++ cs ++ rest.drop cs.length⟩), none⟩) hw hax hby rfl (happ.trans ?_) (by simp [wrOk, leadA, hlt])) ?_
    · unfold ontoA
      rw [if_neg h0]
      have hfit : 0 + (pre.length + cs.length) * 1 ≤ (pre ++ rest).length := by rw [List.length_append]; omega
      simp only [hk, and_self, if_true, hfit]
      rw [paste_eq _ _ _ (by rw [List.length_append]; omega)]
      have e1 : (pre ++ rest).take (0 + pre.length * 1) = pre := by simp
      have e2 : (pre ++ rest).drop (0 + pre.length * 1 + cs.length) = rest.drop cs.length := by simp
      rw [e1, e2]
    · exact k _

/-- An append of nothing to nothing. -/
theorem n_app0 {call : CallR} {ops : Array Oper} {sl : List AV} {st : List Blk} {low : Nat} {d : Tmp} {ty : TypeId} {pos : String} {af : Array Edge} {g : Option (Nat × Bool)} {a b : Operand} {l : List Oper} {R : S → Prop}
    {t e : TypeId} {bs bs' : Nat} {z : Option (List AV)} {q q' : List CK} {u : TypeDesc} {zz : AV} (hi : env1.info t = some ⟨.slice e, 1, bs, z, q⟩) (hj : env1.info e = some ⟨u, 1, bs', some [zz], q'⟩) (hb : 0 < bs' ∧ bs' ≤ mostCells)
    {y : AV} (hw : wantedA ops sl ⟨some d, .call ⟨.builtin .append, #[a, b], #[t, t]⟩, ty, pos, af, g⟩ = true) (hax : OD sl a .nils) (hby : OD sl b y) (hy : SrcG st y [])
    (k : YO env1 call ops l ⟨sl.set d .nils, st, low⟩ R) : YO env1 call ops (⟨some d, .call ⟨.builtin .append, #[a, b], #[t, t]⟩, ty, pos, af, g⟩ :: l) ⟨sl, st, low⟩ R := by
  obtain ⟨rd, hsrc⟩ := hy.src (need := leadA (some .nils) ++ leadA (some y)) (fun b hb => List.mem_append_right _ hb)
  have happ : appendA env1 (seeA (leadA (some .nils) ++ leadA (some y)) fun b => st[b]?) st.length [t, t] [.nils, y] = ontoA (seeA (leadA (some .nils) ++ leadA (some y)) fun b => st[b]?) st.length 1 .nils 0 [] rd := by
    simp only [appendA, hi, hj]
    rw [if_pos ⟨by decide, rfl, hb.1, hb.2⟩]
    simp only [hsrc, List.length_nil]
    rw [if_pos ⟨by decide, rfl⟩]
  exact n_step (q_append (e := ⟨.nils, rd, none, none⟩) hw hax hby rfl (happ.trans rfl) rfl) k
end Go.Proofs.YteaifkpmfbgekaaGreatDoor
