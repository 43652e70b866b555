/- The plain law of causes: sorted and compacted causes are the marked ones. -/
import Derived.Test.YteaifkpmfbgekaaGreatDoorB4
import Derived.Test.YteaifkpmfbgekaaGreatDoorC1
import Derived.Test.YteaifkpmfbgekaaGreatDoorC2
set_option linter.all false
set_option linter.deprecated false
namespace Go.Proofs.YteaifkpmfbgekaaGreatDoor
open Go M
theorem strict_uniq : ∀ {a b : List Int}, a.Pairwise (· < ·) → b.Pairwise (· < ·) → (∀ x, x ∈ a ↔ x ∈ b) → a = b
  | [], [], _, _, _ => rfl
  | [], y :: b, _, _, h => absurd ((h y).2 (List.mem_cons_self ..)) (by simp)
  | x :: a, [], _, _, h => absurd ((h x).1 (List.mem_cons_self ..)) (by simp)
  | x :: a, y :: b, ha, hb, h => by
    rw [List.pairwise_cons] at ha hb
    have hxy : x = y := by
      rcases List.mem_cons.1 ((h x).1 (List.mem_cons_self ..)) with e | e
      · exact e
      · rcases List.mem_cons.1 ((h y).2 (List.mem_cons_self ..)) with e' | e'
        · exact e'.symm
        · have := hb.1 x e; have := ha.1 y e'; omega
    subst hxy
    congr 1
    refine strict_uniq ha.2 hb.2 fun z => ⟨fun hz => ?_, fun hz => ?_⟩
    · rcases List.mem_cons.1 ((h z).1 (List.mem_cons_of_mem _ hz)) with e | e
      · have := ha.1 z hz; omega
      · exact e
    · rcases List.mem_cons.1 ((h z).2 (List.mem_cons_of_mem _ hz)) with e | e
      · have := hb.1 z hz; omega
      · exact e
/-- The first n numbers of a list, without those that are equal to the one before. -/
def cmp (l : List Int) : Nat → List Int
  | 0 => []
  | n + 1 => cmp l n ++ (if n = 0 ∨ l.getD n 0 ≠ l.getD (n - 1) 0 then [l.getD n 0] else [])
theorem cmp_props {l : List Int} (hs : l.Pairwise (· ≤ ·)) : ∀ n, n ≤ l.length → (cmp l n).Pairwise (· < ·) ∧ (∀ x, x ∈ cmp l n ↔ x ∈ l.take n)
  | 0, _ => ⟨List.Pairwise.nil, fun x => by simp [cmp]⟩
  | n + 1, hn => by
    obtain ⟨h1, h2⟩ := cmp_props hs n (by omega)
    have hlt : n < l.length := by omega
    have hg : l.getD n 0 = l[n] := by simp [List.getD_eq_getElem?_getD, hlt]
    have hle : ∀ x ∈ l.take n, x ≤ l[n] := fun x hx => by
      obtain ⟨i, hi, rfl⟩ := List.mem_take_iff_getElem.1 hx
      exact List.pairwise_iff_getElem.1 hs i n (by omega) hlt (by omega)
    have htk : l.take (n + 1) = l.take n ++ [l[n]] := by rw [List.take_add_one]; simp [hlt]
    by_cases hc : n = 0 ∨ l.getD n 0 ≠ l.getD (n - 1) 0
    · have hcs : cmp l (n + 1) = cmp l n ++ [l[n]] := by rw [cmp, if_pos hc, hg]
      rw [hcs]
      refine ⟨?_, fun x => ?_⟩
      · rw [List.pairwise_append]
        refine ⟨h1, by simp, fun a ha b hb => ?_⟩
        rw [List.mem_singleton.1 hb]
        have ha' := (h2 a).1 ha
        rcases Nat.eq_zero_or_pos n with h0 | h0
        · subst h0; simp at ha'
        · have hne := hc.resolve_left (by omega)
          have hg1 : l.getD (n - 1) 0 = l[n - 1] := by simp [List.getD_eq_getElem?_getD, show n - 1 < l.length by omega]
          rw [hg, hg1] at hne
          have hm : l[n - 1] ≤ l[n] := List.pairwise_iff_getElem.1 hs (n - 1) n (by omega) hlt (by omega)
          obtain ⟨i, hi, rfl⟩ := List.mem_take_iff_getElem.1 ha'
          rcases Nat.lt_or_ge i (n - 1) with h | h
          · have : l[i] ≤ l[n - 1] := List.pairwise_iff_getElem.1 hs i (n - 1) (by omega) (by omega) h
            omega
          · have : i = n - 1 := by omega
            subst this; omega
      · rw [htk, List.mem_append, List.mem_append, h2]
    · have hcs : cmp l (n + 1) = cmp l n := by rw [cmp, if_neg hc, List.append_nil]
      rw [hcs]
      refine ⟨h1, fun x => ?_⟩
      rw [htk, List.mem_append, h2]
      refine ⟨.inl, fun h => h.elim id fun h => ?_⟩
      rw [List.mem_singleton.1 h]
      have h0 : 0 < n := Nat.pos_of_ne_zero fun e => hc (.inl e)
      have he : l.getD n 0 = l.getD (n - 1) 0 := Classical.byContradiction fun e => hc (.inr e)
      have hg1 : l.getD (n - 1) 0 = l[n - 1] := by simp [List.getD_eq_getElem?_getD, show n - 1 < l.length by omega]
      rw [hg, hg1] at he
      rw [he]
      exact List.mem_take_iff_getElem.2 ⟨n - 1, by omega, rfl⟩
/-- The marked indices of the first n marks. -/
def mk (l : List Bool) (n : Nat) : List Int := ((List.range n).filter fun i => l.getD i false).map fun (i : Nat) => (i : Int)
theorem mk_strict (l : List Bool) (n : Nat) : (mk l n).Pairwise (· < ·) := by
  unfold mk
  rw [List.pairwise_map]
  exact ((List.pairwise_lt_range (n := n)).filter _).imp fun h => by omega
theorem mk_mem {l : List Bool} {n : Nat} {x : Int} : x ∈ mk l n ↔ 0 ≤ x ∧ x < n ∧ l.getD x.toNat false = true := by
  unfold mk
  simp only [List.mem_map, List.mem_filter, List.mem_range]
  constructor
  · rintro ⟨i, ⟨h1, h2⟩, rfl⟩
    exact ⟨by omega, by omega, by simpa using h2⟩
  · rintro ⟨h0, h1, h2⟩
    exact ⟨x.toNat, ⟨by omega, h2⟩, by omega⟩
/-- Marks of the numbers of a list. -/
def mks (l : List Int) (n : Nat) : List Bool := (List.range n).map fun (i : Nat) => decide ((i : Int) ∈ l)
theorem mks_len (l : List Int) (n : Nat) : (mks l n).length = n := by simp [mks]
theorem mks_nil (n : Nat) : mks [] n = List.replicate n false := by
  apply List.ext_getElem <;> simp [mks]
theorem mks_set {l : List Int} {n : Nat} {e : Int} (h0 : 0 ≤ e) (h1 : e < n) : (mks l n).set e.toNat true = mks (l ++ [e]) n := by
  apply List.ext_getElem
  · simp [mks]
  · intro i h2 h3
    rw [List.getElem_set]
    simp only [mks, List.length_map, List.length_range, List.length_set] at h2 h3
    simp only [mks, List.getElem_map, List.getElem_range, List.mem_append, List.mem_singleton]
    split
    · rename_i h; rw [eq_comm, decide_eq_true_iff]; right; omega
    · rename_i h
      have : ¬ ((i : Int) = e) := by omega
      simp [this]
theorem cmp_mks {l : List Int} {n : Nat} (h : ∀ x ∈ l, 0 ≤ x ∧ x < n) : cmp (isort l) (isort l).length = mk (mks l n) n := by
  obtain ⟨h1, h2⟩ := cmp_props (isort_sorted l) _ (Nat.le_refl _)
  refine strict_uniq h1 (mk_strict _ _) fun x => ?_
  rw [h2, List.take_length, (isort_perm l).mem_iff, mk_mem]
  constructor
  · intro hx
    obtain ⟨h3, h4⟩ := h x hx
    refine ⟨h3, h4, ?_⟩
    have : x.toNat < n := by omega
    simp only [List.getD_eq_getElem?_getD, mks, List.getElem?_map, List.getElem?_range this, Option.map_some, Option.getD_some, decide_eq_true_eq]
    rwa [Int.toNat_of_nonneg h3]
  · rintro ⟨h3, h4, h5⟩
    have : x.toNat < n := by omega
    simp only [List.getD_eq_getElem?_getD, mks, List.getElem?_map, List.getElem?_range this, Option.map_some, Option.getD_some, decide_eq_true_eq] at h5
    rwa [Int.toNat_of_nonneg h3] at h5
end Go.Proofs.YteaifkpmfbgekaaGreatDoor

namespace Go.Proofs.YteaifkpmfbgekaaGreatDoor
open Go M
set_option maxRecDepth 100000
set_option maxHeartbeats 4000000
set_option synthInstance.maxHeartbeats 400000
set_option synthInstance.maxSize 4096
def BRow (v : AV) (l : List Bool) : Prop := Row v 1 l.length (l.map AV.bool)
theorem la58 {v : AV} {l : List Bool} (h : BRow v l) : LA env1 58 v (I l.length) := la_of i58 h
theorem ia58 {v : AV} {l : List Bool} (h : BRow v l) {i : Nat} (hi : i < l.length) : IA env1 58 v (I i) (.iptr (.bool l[i] :: (l.drop (i + 1)).map AV.bool)) := by
  have := row_at i58 i4 (v := v) (n := l.length) (cells := l.map AV.bool) h (by decide) (i := i) (by omega) (by omega)
  refine ⟨this.trans ?_⟩
  simp only [Int.toNat_natCast, Nat.mul_one]
  rw [← List.map_drop, List.drop_eq_getElem_cons hi]
  rfl
theorem mk_succ {l : List Bool} {i : Nat} (hi : i < l.length) : mk l (i + 1) = mk l i ++ (if l[i] = true then [(i : Int)] else []) := by
  unfold mk
  rw [List.range_succ, List.filter_append, List.map_append]
  congr 1
  cases h : l[i] <;> simp [List.getD_eq_getElem?_getD, hi, h]
theorem mk_len (l : List Bool) (n : Nat) : (mk l n).length ≤ n := by
  unfold mk
  rw [List.length_map]
  exact Nat.le_trans (List.length_filter_le _ _) (by simp)
/-- A list of integers as a result: nothing, or a row. -/
def resI (l : List Int) : AV := if l = [] then .nils else .imm l.length (l.map I)
theorem fresh_sl {st : List Blk} {b ver d n : Nat} {cells cs rest : List AV} (hb : st[b]? = some ⟨1, ver, cells ++ rest⟩) (hn : n = cells.length) (hm : mapO (freshA st d) cells = some cs) : freshA st (d + 1) (.sl b 0 n ver 1) = some (.imm n cs) := by
  subst hn
  have hcut : cut (cells ++ rest) 0 (cells.length * 1) = some cells := by unfold cut; simp
  simp only [freshA, hb, if_true, hcut, hm]
theorem out_res {st : List Blk} {v : AV} {l : List Int} (h : OutG st v (l.map I)) (hl : v = .nils ∨ l ≠ []) : freshA st 12 v = some (resI l) := by
  rcases h with ⟨rfl, h⟩ | ⟨b, ver, rfl, hb⟩
  · have : l = [] := List.map_eq_nil_iff.1 h
    subst this; rfl
  · have hl : l ≠ [] := hl.resolve_left (by simp)
    have hm : mapO (freshA st 11) (l.map I) = some (l.map I) := mapO_id fun x hx => by
      obtain ⟨z, _, rfl⟩ := List.mem_map.1 hx
      rfl
    rw [fresh_sl (rest := []) (by rw [List.append_nil]; exact hb) rfl hm]
    simp only [resI, if_neg hl, List.length_map]

theorem good21 {v : AV} {l : List Bool} (h : BRow v l) (hsm : l.length < 1000000) : GoodK Tryz.prog ⟨21, [v], resI (mk l l.length)⟩ := by
  refine n_run (E := env1) (K := (l.length+1)) (call := (M.look [])) env1_ok follows look_nil (fn := Tryz.f21) (by kernel_rfl) rfl rfl rfl ?_
  show EV env1 _ _ (.seq _ (.seq _ _)) ⟨[v] ++ List.replicate 19 .undef, [], 0⟩ _
  generalize hsl : ([v] ++ List.replicate 19 AV.undef) = sl
  have hlen : GL sl 20 := ⟨by rw [← hsl]; rfl⟩
  have h0 : GT sl 0 v := ⟨by rw [← hsl]; rfl⟩
  clear hsl
  have hla := la58 h
  repeat (first | apply n_stp | refine n_add (by omega) ?_ | refine n_sub (by omega) ?_ | apply n_nil | refine n_region ?_ | refine n_region1 ?_ | refine n_assoc ?_ | refine n_skip ?_ | refine n_block ?_ | refine n_block1 ?_ | apply d_stp | refine d_add (by omega) ?_ | refine d_sub (by omega) ?_ | (apply d_nil; refine ⟨?zd, ?_⟩; (case zd => apply dr_reads; first | rfl | (simp; done))) | refine n_draw rfl ?_ | refine n_draw1 rfl ?_)
  refine n_loop (fun i sl st => GL sl 20 ∧ GT sl 0 v ∧ GT sl 4 (I i) ∧ ∃ x, GT sl 3 x ∧ OutG st x ((mk l i).map I) ∧ (x = .nils ∨ mk l i ≠ [])) l.length (by omega) ?_ ?_
  · exact ⟨inferInstance, inferInstance, inferInstance, .nils, inferInstance, .inl ⟨rfl, rfl⟩, .inl rfl⟩
  · rintro i sl st low hi ⟨hlen, h0, h4, x, h3, hx, hx2⟩
    repeat (first | apply n_stp | refine n_add (by omega) ?_ | refine n_sub (by omega) ?_ | apply n_nil | refine n_region ?_ | refine n_region1 ?_ | refine n_assoc ?_ | refine n_skip ?_ | refine n_block ?_ | refine n_block1 ?_ | apply d_stp | refine d_add (by omega) ?_ | refine d_sub (by omega) ?_ | (apply d_nil; refine ⟨?zd, ?_⟩; (case zd => apply dr_reads; first | rfl | (simp; done))) | refine n_draw rfl ?_ | refine n_draw1 rfl ?_)
    apply n_cond (decide ((i : Int) < l.length)) inferInstance
    · intro hlt
      have hlt : i < l.length := by simpa using hlt
      have hia := ia58 h hlt
      repeat (first | apply n_stp | refine n_add (by omega) ?_ | refine n_sub (by omega) ?_ | apply n_nil | refine n_region ?_ | refine n_region1 ?_ | refine n_assoc ?_ | refine n_skip ?_ | refine n_block ?_ | refine n_block1 ?_ | apply d_stp | refine d_add (by omega) ?_ | refine d_sub (by omega) ?_ | (apply d_nil; refine ⟨?zd, ?_⟩; (case zd => apply dr_reads; first | rfl | (simp; done))) | refine n_draw rfl ?_ | refine n_draw1 rfl ?_)
      apply n_cond1 l[i] inferInstance
      · intro hb
        repeat (first | apply n_stp | refine n_add (by omega) ?_ | refine n_sub (by omega) ?_ | apply n_nil | refine n_region ?_ | refine n_region1 ?_ | refine n_assoc ?_ | refine n_skip ?_ | refine n_block ?_ | refine n_block1 ?_ | apply d_stp | refine d_add (by omega) ?_ | refine d_sub (by omega) ?_ | (apply d_nil; refine ⟨?zd, ?_⟩; (case zd => apply dr_reads; first | rfl | (simp; done))) | refine n_draw rfl ?_ | refine n_draw1 rfl ?_)
        (apply n_bs ?zz; (case zz => exact bs33))
        repeat (first | apply n_stp | refine n_add (by omega) ?_ | refine n_sub (by omega) ?_ | apply n_nil | refine n_region ?_ | refine n_region1 ?_ | refine n_assoc ?_ | refine n_skip ?_ | refine n_block ?_ | refine n_block1 ?_ | apply d_stp | refine d_add (by omega) ?_ | refine d_sub (by omega) ?_ | (apply d_nil; refine ⟨?zd, ?_⟩; (case zd => apply dr_reads; first | rfl | (simp; done))) | refine n_draw rfl ?_ | refine n_draw1 rfl ?_)
        apply n_app i33 i3 ⟨by decide, by decide⟩ ?a0 ?a1 ?a2 ?a3 ?a4 ?a5 ?a6
        case a0 => exact wnt_go
        case a1 => infer_instance
        case a2 => infer_instance
        case a3 => exact hx.app _
        case a4 => exact SrcG.one
        case a5 => rfl
        case a6 => have := mk_len l i; simp only [List.length_map, List.length_cons, List.length_nil]; omega
        intro x' st' low' f ha
        repeat (first | apply n_stp | refine n_add (by omega) ?_ | refine n_sub (by omega) ?_ | apply n_nil | refine n_region ?_ | refine n_region1 ?_ | refine n_assoc ?_ | refine n_skip ?_ | refine n_block ?_ | refine n_block1 ?_ | apply d_stp | refine d_add (by omega) ?_ | refine d_sub (by omega) ?_ | (apply d_nil; refine ⟨?zd, ?_⟩; (case zd => apply dr_reads; first | rfl | (simp; done))) | refine n_draw rfl ?_ | refine n_draw1 rfl ?_)
        have he : (mk l (i + 1)).map I = (mk l i).map I ++ [I i] := by rw [mk_succ hlt, hb, if_pos rfl, List.map_append]; rfl
        refine rnd_next hlt ⟨inferInstance, inferInstance, ?_, x', inferInstance, ?_, .inr ?_⟩
        · rw [show ((i + 1 : Nat) : Int) = (i : Int) + 1 from rfl]; infer_instance
        · rw [he]; exact ha.out
        · rw [mk_succ hlt, hb, if_pos rfl]; simp
      · intro hb
        refine n_skip1 (aft_next ?_)
        repeat (first | apply n_stp | refine n_add (by omega) ?_ | refine n_sub (by omega) ?_ | apply n_nil | refine n_region ?_ | refine n_region1 ?_ | refine n_assoc ?_ | refine n_skip ?_ | refine n_block ?_ | refine n_block1 ?_ | apply d_stp | refine d_add (by omega) ?_ | refine d_sub (by omega) ?_ | (apply d_nil; refine ⟨?zd, ?_⟩; (case zd => apply dr_reads; first | rfl | (simp; done))) | refine n_draw rfl ?_ | refine n_draw1 rfl ?_)
        refine rnd_next hlt ⟨inferInstance, inferInstance, ?_, x, inferInstance, ?_, ?_⟩
        · rw [show ((i + 1 : Nat) : Int) = (i : Int) + 1 from rfl]; infer_instance
        · rw [mk_succ hlt, hb]; simpa using hx
        · rw [mk_succ hlt, hb]; simpa using hx2
    · intro hge
      have hge : ¬ i < l.length := by simpa using hge
      have hil : i = l.length := by omega
      refine n_exit (rnd_exit (aft_exit ?_))
      repeat (first | apply n_stp | refine n_add (by omega) ?_ | refine n_sub (by omega) ?_ | apply n_nil | refine n_region ?_ | refine n_region1 ?_ | refine n_assoc ?_ | refine n_skip ?_ | refine n_block ?_ | refine n_block1 ?_ | apply d_stp | refine d_add (by omega) ?_ | refine d_sub (by omega) ?_ | (apply d_nil; refine ⟨?zd, ?_⟩; (case zd => apply dr_reads; first | rfl | (simp; done))) | refine n_draw rfl ?_ | refine n_draw1 rfl ?_)
      refine n_ret1 ?_
      subst hil
      apply fin1g rfl ?hv ?hf
      case hv => infer_instance
      case hf => exact out_res hx hx2
end Go.Proofs.YteaifkpmfbgekaaGreatDoor

namespace Go.Proofs.YteaifkpmfbgekaaGreatDoor
open Go M
set_option maxRecDepth 100000
set_option maxHeartbeats 4000000
set_option synthInstance.maxHeartbeats 400000
set_option synthInstance.maxSize 4096
theorem bs33z {id : Nat} : buildSliceA env1 id 33 0 [] = some ⟨.sl id 0 0 0 1, [], none, some ⟨1, 0, []⟩⟩ := by kernel_rfl
theorem irow_src {st : List Blk} {v : AV} {l : List Int} (h : IRow v l) : SrcG st v (l.map I) := .inl (by rw [List.length_map]; exact h)
theorem map_one (l : List Int) : (l.map I).all AV.one = true := by
  rw [List.all_eq_true]
  intro x hx
  obtain ⟨z, _, rfl⟩ := List.mem_map.1 hx
  rfl
theorem good20 {r : Int} {v w : AV} {x y : List Int} (hv : IRow v x) (hw : IRow w y) (hsm : x.length + y.length < 1000000) : GoodK Tryz.prog ⟨20, [.agg [I r, v, w]], .imm (x ++ y).length ((x ++ y).map I)⟩ := by
  have ho1 : One v := ⟨row_one hv⟩
  have ho2 : One w := ⟨row_one hw⟩
  refine n_run (E := env1) (K := 1) (call := (M.look [])) env1_ok follows look_nil (fn := Tryz.f20) (by kernel_rfl) rfl rfl rfl ?_
  show EV env1 _ _ (.seq _ (.seq _ _)) ⟨[.agg [I r, v, w]] ++ List.replicate 9 .undef, [], 0⟩ _
  generalize hsl : ([.agg [I r, v, w]] ++ List.replicate 9 AV.undef) = sl
  have hlen : GL sl 10 := ⟨by rw [← hsl]; rfl⟩
  have h0 : GT sl 0 (.agg [I r, v, w]) := ⟨by rw [← hsl]; rfl⟩
  clear hsl
  repeat (first | apply n_stp | refine n_add (by omega) ?_ | refine n_sub (by omega) ?_ | apply n_nil | refine n_region ?_ | refine n_region1 ?_ | refine n_assoc ?_ | refine n_skip ?_ | refine n_block ?_ | refine n_block1 ?_ | apply d_stp | refine d_add (by omega) ?_ | refine d_sub (by omega) ?_ | (apply d_nil; refine ⟨?zd, ?_⟩; (case zd => apply dr_reads; first | rfl | (simp; done))) | (first | refine n_draw (by simp only [orderA, earlyA, List.zipIdx_cons, List.zipIdx_nil, List.map_cons, List.map_nil, List.filter_cons, List.filter_nil, Bool.false_and, Bool.true_and, Bool.and_true, Bool.and_self, Bool.and_false, Bool.not_true, Bool.not_false, Bool.false_eq_true, if_false, if_true, List.nil_append, List.cons_append, Nat.zero_add, Option.isNone_none, Array.all_empty, List.all_toArray, List.all_cons, List.all_nil, Region.binds]; rfl) ?_ | refine n_draw1 (by simp only [orderA, earlyA, List.zipIdx_cons, List.zipIdx_nil, List.map_cons, List.map_nil, List.filter_cons, List.filter_nil, Bool.false_and, Bool.true_and, Bool.and_true, Bool.and_self, Bool.and_false, Bool.not_true, Bool.not_false, Bool.false_eq_true, if_false, if_true, List.nil_append, List.cons_append, Nat.zero_add, Option.isNone_none, Array.all_empty, List.all_toArray, List.all_cons, List.all_nil, Region.binds]; rfl) ?_))
  repeat (first | apply n_stp | refine n_add (by omega) ?_ | refine n_sub (by omega) ?_ | apply n_nil | refine n_region ?_ | refine n_region1 ?_ | refine n_assoc ?_ | refine n_skip ?_ | refine n_block ?_ | refine n_block1 ?_ | apply d_stp | refine d_add (by omega) ?_ | refine d_sub (by omega) ?_ | (apply d_nil; refine ⟨?zd, ?_⟩; (case zd => apply dr_reads; first | rfl | (simp; done))) | (first | refine n_draw (by simp only [orderA, earlyA, List.zipIdx_cons, List.zipIdx_nil, List.map_cons, List.map_nil, List.filter_cons, List.filter_nil, Bool.false_and, Bool.true_and, Bool.and_true, Bool.and_self, Bool.and_false, Bool.not_true, Bool.not_false, Bool.false_eq_true, if_false, if_true, List.nil_append, List.cons_append, Nat.zero_add, Option.isNone_none, Array.all_empty, List.all_toArray, List.all_cons, List.all_nil, Region.binds]; rfl) ?_ | refine n_draw1 (by simp only [orderA, earlyA, List.zipIdx_cons, List.zipIdx_nil, List.map_cons, List.map_nil, List.filter_cons, List.filter_nil, Bool.false_and, Bool.true_and, Bool.and_true, Bool.and_self, Bool.and_false, Bool.not_true, Bool.not_false, Bool.false_eq_true, if_false, if_true, List.nil_append, List.cons_append, Nat.zero_add, Option.isNone_none, Array.all_empty, List.all_toArray, List.all_cons, List.all_nil, Region.binds]; rfl) ?_))
  (apply d_bs ?zz; (case zz => exact bs33z))
  repeat (first | apply n_stp | refine n_add (by omega) ?_ | refine n_sub (by omega) ?_ | apply n_nil | refine n_region ?_ | refine n_region1 ?_ | refine n_assoc ?_ | refine n_skip ?_ | refine n_block ?_ | refine n_block1 ?_ | apply d_stp | refine d_add (by omega) ?_ | refine d_sub (by omega) ?_ | (apply d_nil; refine ⟨?zd, ?_⟩; (case zd => apply dr_reads; first | rfl | (simp; done))) | (first | refine n_draw (by simp only [orderA, earlyA, List.zipIdx_cons, List.zipIdx_nil, List.map_cons, List.map_nil, List.filter_cons, List.filter_nil, Bool.false_and, Bool.true_and, Bool.and_true, Bool.and_self, Bool.and_false, Bool.not_true, Bool.not_false, Bool.false_eq_true, if_false, if_true, List.nil_append, List.cons_append, Nat.zero_add, Option.isNone_none, Array.all_empty, List.all_toArray, List.all_cons, List.all_nil, Region.binds]; rfl) ?_ | refine n_draw1 (by simp only [orderA, earlyA, List.zipIdx_cons, List.zipIdx_nil, List.map_cons, List.map_nil, List.filter_cons, List.filter_nil, Bool.false_and, Bool.true_and, Bool.and_true, Bool.and_self, Bool.and_false, Bool.not_true, Bool.not_false, Bool.false_eq_true, if_false, if_true, List.nil_append, List.cons_append, Nat.zero_add, Option.isNone_none, Array.all_empty, List.all_toArray, List.all_cons, List.all_nil, Region.binds]; rfl) ?_))
  apply d_app i33 i3 ⟨by decide, by decide⟩ ?a0 ?a1 ?a2 ?a3 ?a4 ?a5 ?a6
  case a0 => exact wnt_go
  case a1 => infer_instance
  case a2 => infer_instance
  case a3 => exact .inr ⟨1, 0, rfl, rfl⟩
  case a4 => exact irow_src hv
  case a5 => exact map_one x
  case a6 => simp only [List.length_map, List.length_nil]; omega
  intro x1 st1 low1 f1 ha1
  have hb1 : BK st1 ([] : List Blk).length ⟨3, 0, [I r, v, w]⟩ := ⟨(ha1.frame 0 (Nat.zero_lt_succ _) (by rintro o n u s h; cases h)).trans rfl⟩
  repeat (first | apply n_stp | refine n_add (by omega) ?_ | refine n_sub (by omega) ?_ | apply n_nil | refine n_region ?_ | refine n_region1 ?_ | refine n_assoc ?_ | refine n_skip ?_ | refine n_block ?_ | refine n_block1 ?_ | apply d_stp | refine d_add (by omega) ?_ | refine d_sub (by omega) ?_ | (apply d_nil; refine ⟨?zd, ?_⟩; (case zd => apply dr_reads; first | rfl | (simp; done))) | (first | refine n_draw (by simp only [orderA, earlyA, List.zipIdx_cons, List.zipIdx_nil, List.map_cons, List.map_nil, List.filter_cons, List.filter_nil, Bool.false_and, Bool.true_and, Bool.and_true, Bool.and_self, Bool.and_false, Bool.not_true, Bool.not_false, Bool.false_eq_true, if_false, if_true, List.nil_append, List.cons_append, Nat.zero_add, Option.isNone_none, Array.all_empty, List.all_toArray, List.all_cons, List.all_nil, Region.binds]; rfl) ?_ | refine n_draw1 (by simp only [orderA, earlyA, List.zipIdx_cons, List.zipIdx_nil, List.map_cons, List.map_nil, List.filter_cons, List.filter_nil, Bool.false_and, Bool.true_and, Bool.and_true, Bool.and_self, Bool.and_false, Bool.not_true, Bool.not_false, Bool.false_eq_true, if_false, if_true, List.nil_append, List.cons_append, Nat.zero_add, Option.isNone_none, Array.all_empty, List.all_toArray, List.all_cons, List.all_nil, Region.binds]; rfl) ?_))
  apply d_app i33 i3 ⟨by decide, by decide⟩ ?a0 ?a1 ?a2 ?a3 ?a4 ?a5 ?a6
  case a0 => exact wnt_go
  case a1 => infer_instance
  case a2 => infer_instance
  case a3 => exact ha1.out
  case a4 => exact irow_src hw
  case a5 => exact map_one y
  case a6 => simp only [List.length_map, List.nil_append]; omega
  intro x2 st2 low2 f2 ha2
  repeat (first | apply n_stp | refine n_add (by omega) ?_ | refine n_sub (by omega) ?_ | apply n_nil | refine n_region ?_ | refine n_region1 ?_ | refine n_assoc ?_ | refine n_skip ?_ | refine n_block ?_ | refine n_block1 ?_ | apply d_stp | refine d_add (by omega) ?_ | refine d_sub (by omega) ?_ | (apply d_nil; refine ⟨?zd, ?_⟩; (case zd => apply dr_reads; first | rfl | (simp; done))) | (first | refine n_draw (by simp only [orderA, earlyA, List.zipIdx_cons, List.zipIdx_nil, List.map_cons, List.map_nil, List.filter_cons, List.filter_nil, Bool.false_and, Bool.true_and, Bool.and_true, Bool.and_self, Bool.and_false, Bool.not_true, Bool.not_false, Bool.false_eq_true, if_false, if_true, List.nil_append, List.cons_append, Nat.zero_add, Option.isNone_none, Array.all_empty, List.all_toArray, List.all_cons, List.all_nil, Region.binds]; rfl) ?_ | refine n_draw1 (by simp only [orderA, earlyA, List.zipIdx_cons, List.zipIdx_nil, List.map_cons, List.map_nil, List.filter_cons, List.filter_nil, Bool.false_and, Bool.true_and, Bool.and_true, Bool.and_self, Bool.and_false, Bool.not_true, Bool.not_false, Bool.false_eq_true, if_false, if_true, List.nil_append, List.cons_append, Nat.zero_add, Option.isNone_none, Array.all_empty, List.all_toArray, List.all_cons, List.all_nil, Region.binds]; rfl) ?_))
  apply d_nil
  refine ⟨?_, ?_⟩
  · constructor
    have hv0 : leadA (some v) = [] := by rcases hv with ⟨rfl, _⟩ | ⟨rfl, _⟩ <;> rfl
    have hw0 : leadA (some w) = [] := by rcases hw with ⟨rfl, _⟩ | ⟨rfl, _⟩ <;> rfl
    rw [ha1.foot, ha2.foot]
    unfold drawA
    rw [Bool.or_eq_true]
    refine .inr ?_
    have hw1 : f1.wr = none ∨ f1.wr = some 1 := by
      cases h : f1.wr with
      | none => exact .inl rfl
      | some b => obtain ⟨o, n, u, s, h2⟩ := ha1.wr b h; cases h2; exact .inr rfl
    rcases hw1 with hw1 | hw1
    all_goals
      simp only [apartA, allPairs, aheadA, Region.binds, List.flatMap_cons, List.flatMap_nil, if_true, List.lookup_cons, List.lookup_nil, List.nil_append, List.cons_append, List.append_nil, List.zip_cons_cons, List.zip_nil_right, List.map_cons, List.map_nil, List.all_cons, List.all_nil, hw1, hv0, hw0, leadA]
      simp [Foot.clash, Foot.hits, Foot.made, Foot.touches]
      exact ⟨(Classical.em (st1 = [])).symm, by omega⟩
  repeat (first | apply n_stp | refine n_add (by omega) ?_ | refine n_sub (by omega) ?_ | apply n_nil | refine n_region ?_ | refine n_region1 ?_ | refine n_assoc ?_ | refine n_skip ?_ | refine n_block ?_ | refine n_block1 ?_ | apply d_stp | refine d_add (by omega) ?_ | refine d_sub (by omega) ?_ | (apply d_nil; refine ⟨?zd, ?_⟩; (case zd => apply dr_reads; first | rfl | (simp; done))) | (first | refine n_draw (by simp only [orderA, earlyA, List.zipIdx_cons, List.zipIdx_nil, List.map_cons, List.map_nil, List.filter_cons, List.filter_nil, Bool.false_and, Bool.true_and, Bool.and_true, Bool.and_self, Bool.and_false, Bool.not_true, Bool.not_false, Bool.false_eq_true, if_false, if_true, List.nil_append, List.cons_append, Nat.zero_add, Option.isNone_none, Array.all_empty, List.all_toArray, List.all_cons, List.all_nil, Region.binds]; rfl) ?_ | refine n_draw1 (by simp only [orderA, earlyA, List.zipIdx_cons, List.zipIdx_nil, List.map_cons, List.map_nil, List.filter_cons, List.filter_nil, Bool.false_and, Bool.true_and, Bool.and_true, Bool.and_self, Bool.and_false, Bool.not_true, Bool.not_false, Bool.false_eq_true, if_false, if_true, List.nil_append, List.cons_append, Nat.zero_add, Option.isNone_none, Array.all_empty, List.all_toArray, List.all_cons, List.all_nil, Region.binds]; rfl) ?_))
  refine n_ret1 ?_
  apply fin1g rfl ?hv ?hf
  case hv => infer_instance
  case hf =>
    have ho := ha2.out
    rw [List.nil_append, ← List.map_append] at ho
    have hn : x2 ≠ .nils := ha2.nn (ha1.nn (by intro h; cases h))
    rcases ho with ⟨h, _⟩ | ⟨b, ver, rfl, hb⟩
    · exact absurd h hn
    · have hm : mapO (freshA st2 11) ((x ++ y).map I) = some ((x ++ y).map I) := mapO_id fun z hz => by
        obtain ⟨q, _, rfl⟩ := List.mem_map.1 hz
        rfl
      rw [fresh_sl (rest := []) (by rw [List.append_nil]; exact hb) rfl hm, List.length_map]
end Go.Proofs.YteaifkpmfbgekaaGreatDoor

namespace Go.Proofs.YteaifkpmfbgekaaGreatDoor
open Go M
set_option maxRecDepth 100000
set_option maxHeartbeats 4000000
set_option synthInstance.maxHeartbeats 400000
set_option synthInstance.maxSize 4096
theorem fin1R {E : Env} {sl : List AV} {st : List Blk} {low : Nat} {t : Nat} {v : AV} {l : List ResultVar} {R : List AV → Prop} (hl : l = [.tmp t]) (hv : GT sl t v) (hR : R [v]) :
    (Ctl.ret = .next ∨ Ctl.ret = .ret) ∧ Yes (resultsA E ⟨sl, st, low⟩ l) R := by
  subst hl
  exact ⟨.inr rfl, [v], by simp only [resultsA, resultA, hv.eq], hR⟩
instance cap33 : CA env1 33 .nils (I 0) := ⟨by kernel_rfl⟩
theorem sl33n : sliceA env1 33 .nils none (some (I 0)) none = some .nils := by kernel_rfl
theorem sl33z {b n ver : Nat} : sliceA env1 33 (.sl b 0 n ver 1) none (some (I 0)) none = some (.sl b 0 0 ver 1) := by
  simp only [sliceA, i33, i3, bound]
  simp
theorem opt1 {sl : List AV} {x : Operand} {v : AV} (h : OD sl x v) : optA sl (some x) = some (some v) := by simp only [optA, h.eq]
theorem app_int {lk : Nat → Option Blk} {id : Nat} {n : Nat} (h0 : 0 < n) (h1 : n ≤ 1048576) : appendA env1 lk id [33, 3] [.nils, I n] = some ⟨.sl id 0 n 0 1, [], none, some ⟨1, 0, repl n [I 0]⟩⟩ := by
  simp only [appendA, i33, i3]
  rw [if_pos ⟨by decide, rfl, by decide, by decide⟩]
  simp only [Int.toNat_natCast]
  rw [if_pos ⟨by omega, by unfold mostCells; omega⟩]
  unfold ontoA
  rw [if_neg (by omega)]
theorem run68 {n : Nat} (hp : 0 < n) (hq : n ≤ 1048576) : ∃ low, callS env1 1 (M.look []) 68 [.nils, I n] [] = some (.sl 0 0 0 0 1, [⟨1, 0, repl n [I 0]⟩], low) := by
  have key : Yes (callS env1 1 (M.look []) 68 [.nils, I n] []) fun r => ∃ low, r = (.sl 0 0 0 0 1, [⟨1, 0, repl n [I 0]⟩], low) := by
    refine callS_ev (fn := Tryz.f68) (by kernel_rfl) rfl rfl (EV.out ?_)
    show EV env1 _ _ (.seq _ (.seq _ _)) ⟨[.nils, I n] ++ List.replicate 25 .undef, [], 0⟩ _
    generalize hsl : ([.nils, I n] ++ List.replicate 25 AV.undef) = sl
    have hlen : GL sl 27 := ⟨by rw [← hsl]; rfl⟩
    have h0 : GT sl 0 .nils := ⟨by rw [← hsl]; rfl⟩
    have h1 : GT sl 1 (I n) := ⟨by rw [← hsl]; rfl⟩
    clear hsl
    have hl0 : LA env1 33 .nils (I 0) := la33 (l := []) (.inl ⟨rfl, rfl, rfl⟩)
    repeat (first | apply n_stp | refine n_add (by omega) ?_ | refine n_sub (by omega) ?_ | apply n_nil | refine n_region ?_ | refine n_region1 ?_ | refine n_assoc ?_ | refine n_skip ?_ | refine n_block ?_ | refine n_block1 ?_ | apply d_stp | refine d_add (by omega) ?_ | refine d_sub (by omega) ?_ | (apply d_nil; refine ⟨?zd, ?_⟩; (case zd => apply dr_reads; first | rfl | (simp; done))) | refine n_draw rfl ?_ | refine n_draw1 rfl ?_)
    apply n_cond (decide ((n : Int) < 0)) inferInstance
    · intro h; have := of_decide_eq_true h; omega
    intro _
    repeat (first | apply n_stp | refine n_add (by omega) ?_ | refine n_sub (by omega) ?_ | apply n_nil | refine n_region ?_ | refine n_region1 ?_ | refine n_assoc ?_ | refine n_skip ?_ | refine n_block ?_ | refine n_block1 ?_ | apply d_stp | refine d_add (by omega) ?_ | refine d_sub (by omega) ?_ | (apply d_nil; refine ⟨?zd, ?_⟩; (case zd => apply dr_reads; first | rfl | (simp; done))) | refine n_draw rfl ?_ | refine n_draw1 rfl ?_)
    apply n_cond (decide ((n : Int) - (0 - 0) > 0)) inferInstance
    · intro _
      repeat (first | apply n_stp | refine n_add (by omega) ?_ | refine n_sub (by omega) ?_ | apply n_nil | refine n_region ?_ | refine n_region1 ?_ | refine n_assoc ?_ | refine n_skip ?_ | refine n_block ?_ | refine n_block1 ?_ | apply d_stp | refine d_add (by omega) ?_ | refine d_sub (by omega) ?_ | (apply d_nil; refine ⟨?zd, ?_⟩; (case zd => apply dr_reads; first | rfl | (simp; done))) | refine n_draw rfl ?_ | refine n_draw1 rfl ?_)
      (apply n_step (q_slice ?a0 ?a1 ?a2 ?a3 ?a4 ?a5); (case a0 => exact wnt_go); (case a1 => infer_instance); (case a2 => rfl); (case a3 => (apply opt1; infer_instance)); (case a4 => rfl); (case a5 => exact sl33n))
      repeat (first | apply n_stp | refine n_add (by omega) ?_ | refine n_sub (by omega) ?_ | apply n_nil | refine n_region ?_ | refine n_region1 ?_ | refine n_assoc ?_ | refine n_skip ?_ | refine n_block ?_ | refine n_block1 ?_ | apply d_stp | refine d_add (by omega) ?_ | refine d_sub (by omega) ?_ | (apply d_nil; refine ⟨?zd, ?_⟩; (case zd => apply dr_reads; first | rfl | (simp; done))) | refine n_draw rfl ?_ | refine n_draw1 rfl ?_)
      rw [show ((n : Int) - (0 - 0)) = n from by omega]
      (apply n_step (q_append ?a0 ?a1 ?a2 ?a3 ?a4 ?a5); (case a0 => exact wnt_go); (case a1 => infer_instance); (case a2 => infer_instance); (case a3 => rfl); (case a4 => exact app_int hp hq); (case a5 => rfl))
      repeat (first | apply n_stp | refine n_add (by omega) ?_ | refine n_sub (by omega) ?_ | apply n_nil | refine n_region ?_ | refine n_region1 ?_ | refine n_assoc ?_ | refine n_skip ?_ | refine n_block ?_ | refine n_block1 ?_ | apply d_stp | refine d_add (by omega) ?_ | refine d_sub (by omega) ?_ | (apply d_nil; refine ⟨?zd, ?_⟩; (case zd => apply dr_reads; first | rfl | (simp; done))) | refine n_draw rfl ?_ | refine n_draw1 rfl ?_)
      (apply n_step (q_slice ?a0 ?a1 ?a2 ?a3 ?a4 ?a5); (case a0 => exact wnt_go); (case a1 => infer_instance); (case a2 => rfl); (case a3 => (apply opt1; infer_instance)); (case a4 => rfl); (case a5 => exact sl33z))
      repeat (first | apply n_stp | refine n_add (by omega) ?_ | refine n_sub (by omega) ?_ | apply n_nil | refine n_region ?_ | refine n_region1 ?_ | refine n_assoc ?_ | refine n_skip ?_ | refine n_block ?_ | refine n_block1 ?_ | apply d_stp | refine d_add (by omega) ?_ | refine d_sub (by omega) ?_ | (apply d_nil; refine ⟨?zd, ?_⟩; (case zd => apply dr_reads; first | rfl | (simp; done))) | refine n_draw rfl ?_ | refine n_draw1 rfl ?_)
      refine n_ret1 ?_
      apply fin1R rfl ?hv ?hR
      case hv => infer_instance
      case hR => exact ⟨_, rfl⟩
    · intro h; have := of_decide_eq_false h; omega
  obtain ⟨r, h, low, rfl⟩ := key
  exact ⟨low, h⟩

/-- The call in which room is made. -/
noncomputable def grow1 : CallR := callB env1 1 (M.look []) 1
theorem grow1_sound : SoundCall Tryz.prog grow1 := callB_sound env1_ok follows look_nil 1
theorem grow1_nil : ∃ low, grow1 68 [.nils, I 0] [] = some (.nils, [], low) := by
  have h : (match grow1 68 [.nils, I 0] [] with | some (v, st, _) => AV.beq v .nils && beqSt st [] | none => false) = true := by kernel_rfl
  revert h
  cases h1 : grow1 68 [.nils, I 0] [] with
  | none => intro h; cases h
  | some r =>
    obtain ⟨v, st, low⟩ := r
    intro h
    simp only [Bool.and_eq_true] at h
    exact ⟨low, by rw [AV.eq_of_beq h.1, eq_of_beqSt h.2]⟩
theorem grow1_pos {n : Nat} (hp : 0 < n) (hq : n ≤ 1048576) : ∃ low, grow1 68 [.nils, I n] [] = some (.sl 0 0 0 0 1, [⟨1, 0, repl n [I 0]⟩], low) := run68 hp hq
end Go.Proofs.YteaifkpmfbgekaaGreatDoor
