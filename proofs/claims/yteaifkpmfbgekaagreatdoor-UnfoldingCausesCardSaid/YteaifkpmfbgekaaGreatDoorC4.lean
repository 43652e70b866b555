/- The elements that an event uses. -/
import Derived.Test.YteaifkpmfbgekaaGreatDoorC3
import Derived.Test.YteaifkpmfbgekaaGreatDoorC2
set_option linter.all false
set_option linter.deprecated false
namespace Go.Proofs.YteaifkpmfbgekaaGreatDoor
open Go M
set_option maxRecDepth 100000
set_option maxHeartbeats 4000000
set_option synthInstance.maxHeartbeats 400000
set_option synthInstance.maxSize 4096
def sumL (x y : List Int) : Nat → Nat
  | 0 => 0
  | 1 => x.length
  | _ => x.length + y.length
theorem good35 {v a b : AV} {x y : List Int} (hv : Row v 1 2 [a, b]) (ha : IRow a x) (hb : IRow b y) (hsm : x.length + y.length < 1000000) : GoodK Tryz.prog ⟨35, [v], resI (x ++ y)⟩ := by
  refine n_run (E := env1) (K := 3) (call := grow1) env1_ok follows grow1_sound (fn := Tryz.f35) (by kernel_rfl) rfl rfl rfl ?_
  show EV env1 _ _ (.seq _ (.seq _ _)) ⟨[v] ++ List.replicate 35 .undef, [], 0⟩ _
  generalize hsl : ([v] ++ List.replicate 35 AV.undef) = sl
  have hlen : GL sl 36 := ⟨by rw [← hsl]; rfl⟩
  have h0 : GT sl 0 v := ⟨by rw [← hsl]; rfl⟩
  clear hsl
  have hla : LA env1 28 v (I 2) := la28 (L := [a, b]) hv
  have hia0 : IA env1 28 v (I (0 : Nat)) (.iptr [a, b]) := ia28 (L := [a, b]) hv (i := 0) (by simp)
  have hia1 : IA env1 28 v (I (1 : Nat)) (.iptr [b]) := ia28 (L := [a, b]) hv (i := 1) (by simp)
  have hs0 : sumL x y 0 = 0 := rfl
  have hs1 : sumL x y 1 = x.length := rfl
  have hs2 : sumL x y 2 = x.length + y.length := rfl
  have hlx := la33 ha
  have hly := la33 hb
  repeat (first | apply n_stp | refine n_add (by omega) ?_ | refine n_sub (by omega) ?_ | apply n_nil | refine n_region ?_ | refine n_region1 ?_ | refine n_assoc ?_ | refine n_skip ?_ | refine n_block ?_ | refine n_block1 ?_ | apply d_stp | refine d_add (by omega) ?_ | refine d_sub (by omega) ?_ | (apply d_nil; refine ⟨?zd, ?_⟩; (case zd => apply dr_reads; first | rfl | (simp; done))) | refine n_draw rfl ?_ | refine n_draw1 rfl ?_)
  refine n_loop (fun i sl st => GL sl 36 ∧ st = [] ∧ GT sl 0 v ∧ GT sl 9 v ∧ GT sl 10 (I 2) ∧ GT sl 11 (I i) ∧ GT sl 2 .nils ∧ GT sl 3 (I (sumL x y i))) 2 (by decide) ?_ ?_
  · exact ⟨inferInstance, rfl, inferInstance, inferInstance, inferInstance, inferInstance, inferInstance, inferInstance⟩
  rintro i sl st low hi ⟨hlen, hst, h0, h9, h10, h11, h2, h3⟩
  subst hst
  repeat (first | apply n_stp | refine n_add (by omega) ?_ | refine n_sub (by omega) ?_ | apply n_nil | refine n_region ?_ | refine n_region1 ?_ | refine n_assoc ?_ | refine n_skip ?_ | refine n_block ?_ | refine n_block1 ?_ | apply d_stp | refine d_add (by omega) ?_ | refine d_sub (by omega) ?_ | (apply d_nil; refine ⟨?zd, ?_⟩; (case zd => apply dr_reads; first | rfl | (simp; done))) | refine n_draw rfl ?_ | refine n_draw1 rfl ?_)
  apply n_cond (decide ((i : Int) < 2)) inferInstance
  · intro hlt
    have hlt : i < 2 := by have := of_decide_eq_true hlt; omega
    rcases (by omega : i = 0 ∨ i = 1) with rfl | rfl
    · repeat (first | apply n_stp | refine n_add (by omega) ?_ | refine n_sub (by omega) ?_ | apply n_nil | refine n_region ?_ | refine n_region1 ?_ | refine n_assoc ?_ | refine n_skip ?_ | refine n_block ?_ | refine n_block1 ?_ | apply d_stp | refine d_add (by omega) ?_ | refine d_sub (by omega) ?_ | (apply d_nil; refine ⟨?zd, ?_⟩; (case zd => apply dr_reads; first | rfl | (simp; done))) | refine n_draw rfl ?_ | refine n_draw1 rfl ?_)
      apply n_cond1 (decide (((sumL x y 0 : Nat) : Int) + x.length < 0)) inferInstance
      · intro h; have := of_decide_eq_true h; omega
      intro _
      refine n_skip1 (aft_next ?_)
      repeat (first | apply n_stp | refine n_add (by omega) ?_ | refine n_sub (by omega) ?_ | apply n_nil | refine n_region ?_ | refine n_region1 ?_ | refine n_assoc ?_ | refine n_skip ?_ | refine n_block ?_ | refine n_block1 ?_ | apply d_stp | refine d_add (by omega) ?_ | refine d_sub (by omega) ?_ | (apply d_nil; refine ⟨?zd, ?_⟩; (case zd => apply dr_reads; first | rfl | (simp; done))) | refine n_draw rfl ?_ | refine n_draw1 rfl ?_)
      refine rnd_next hlt ⟨inferInstance, rfl, inferInstance, inferInstance, inferInstance, inferInstance, inferInstance, ?_⟩
      rw [show ((sumL x y (0 + 1) : Nat) : Int) = ((sumL x y 0 : Nat) : Int) + x.length from by simp [sumL]]; infer_instance
    · repeat (first | apply n_stp | refine n_add (by omega) ?_ | refine n_sub (by omega) ?_ | apply n_nil | refine n_region ?_ | refine n_region1 ?_ | refine n_assoc ?_ | refine n_skip ?_ | refine n_block ?_ | refine n_block1 ?_ | apply d_stp | refine d_add (by omega) ?_ | refine d_sub (by omega) ?_ | (apply d_nil; refine ⟨?zd, ?_⟩; (case zd => apply dr_reads; first | rfl | (simp; done))) | refine n_draw rfl ?_ | refine n_draw1 rfl ?_)
      apply n_cond1 (decide (((sumL x y 1 : Nat) : Int) + y.length < 0)) inferInstance
      · intro h; have := of_decide_eq_true h; omega
      intro _
      refine n_skip1 (aft_next ?_)
      repeat (first | apply n_stp | refine n_add (by omega) ?_ | refine n_sub (by omega) ?_ | apply n_nil | refine n_region ?_ | refine n_region1 ?_ | refine n_assoc ?_ | refine n_skip ?_ | refine n_block ?_ | refine n_block1 ?_ | apply d_stp | refine d_add (by omega) ?_ | refine d_sub (by omega) ?_ | (apply d_nil; refine ⟨?zd, ?_⟩; (case zd => apply dr_reads; first | rfl | (simp; done))) | refine n_draw rfl ?_ | refine n_draw1 rfl ?_)
      refine rnd_next hlt ⟨inferInstance, rfl, inferInstance, inferInstance, inferInstance, inferInstance, inferInstance, ?_⟩
      rw [show ((sumL x y (1 + 1) : Nat) : Int) = ((sumL x y 1 : Nat) : Int) + y.length from by simp [sumL]]; infer_instance
  · intro hge
    have hi2 : i = 2 := by have := of_decide_eq_false hge; omega
    subst hi2
    refine n_exit (rnd_exit (aft_exit ?_))
    rw [hs2] at h3
    repeat (first | apply n_stp | refine n_add (by omega) ?_ | refine n_sub (by omega) ?_ | apply n_nil | refine n_region ?_ | refine n_region1 ?_ | refine n_assoc ?_ | refine n_skip ?_ | refine n_block ?_ | refine n_block1 ?_ | apply d_stp | refine d_add (by omega) ?_ | refine d_sub (by omega) ?_ | (apply d_nil; refine ⟨?zd, ?_⟩; (case zd => apply dr_reads; first | rfl | (simp; done))) | refine n_draw rfl ?_ | refine n_draw1 rfl ?_)
    by_cases hz : x.length + y.length = 0
    · have hx : x = [] := List.length_eq_zero_iff.1 (by omega)
      have hy : y = [] := List.length_eq_zero_iff.1 (by omega)
      obtain ⟨lowg, hg⟩ := grow1_nil
      (apply n_call ?zz; (case zz => (rw [hz]; exact hg)))
      repeat (first | apply n_stp | refine n_add (by omega) ?_ | refine n_sub (by omega) ?_ | apply n_nil | refine n_region ?_ | refine n_region1 ?_ | refine n_assoc ?_ | refine n_skip ?_ | refine n_block ?_ | refine n_block1 ?_ | apply d_stp | refine d_add (by omega) ?_ | refine d_sub (by omega) ?_ | (apply d_nil; refine ⟨?zd, ?_⟩; (case zd => apply dr_reads; first | rfl | (simp; done))) | refine n_draw rfl ?_ | refine n_draw1 rfl ?_)
      refine n_loop (fun i sl st => GL sl 36 ∧ GT sl 25 v ∧ GT sl 26 (I 2) ∧ GT sl 27 (I i) ∧ GT sl 6 .nils ∧ st = []) 2 (by decide) ?_ ?_
      · exact ⟨inferInstance, inferInstance, inferInstance, inferInstance, inferInstance, rfl⟩
      rintro i sl st low hi ⟨hlen, h25, h26, h27, h6, hst⟩
      subst hst
      repeat (first | apply n_stp | refine n_add (by omega) ?_ | refine n_sub (by omega) ?_ | apply n_nil | refine n_region ?_ | refine n_region1 ?_ | refine n_assoc ?_ | refine n_skip ?_ | refine n_block ?_ | refine n_block1 ?_ | apply d_stp | refine d_add (by omega) ?_ | refine d_sub (by omega) ?_ | (apply d_nil; refine ⟨?zd, ?_⟩; (case zd => apply dr_reads; first | rfl | (simp; done))) | refine n_draw rfl ?_ | refine n_draw1 rfl ?_)
      apply n_cond (decide ((i : Int) < 2)) inferInstance
      · intro hlt
        have hlt : i < 2 := by have := of_decide_eq_true hlt; omega
        subst hx hy
        rcases (by omega : i = 0 ∨ i = 1) with rfl | rfl
        · repeat (first | apply n_stp | refine n_add (by omega) ?_ | refine n_sub (by omega) ?_ | apply n_nil | refine n_region ?_ | refine n_region1 ?_ | refine n_assoc ?_ | refine n_skip ?_ | refine n_block ?_ | refine n_block1 ?_ | apply d_stp | refine d_add (by omega) ?_ | refine d_sub (by omega) ?_ | (apply d_nil; refine ⟨?zd, ?_⟩; (case zd => apply dr_reads; first | rfl | (simp; done))) | refine n_draw rfl ?_ | refine n_draw1 rfl ?_)
          apply n_app0 i33 i3 ⟨by decide, by decide⟩ ?a0 ?a1 ?a2 ?a3
          case a0 => exact wnt_go
          case a1 => infer_instance
          case a2 => infer_instance
          case a3 => exact irow_src ha
          repeat (first | apply n_stp | refine n_add (by omega) ?_ | refine n_sub (by omega) ?_ | apply n_nil | refine n_region ?_ | refine n_region1 ?_ | refine n_assoc ?_ | refine n_skip ?_ | refine n_block ?_ | refine n_block1 ?_ | apply d_stp | refine d_add (by omega) ?_ | refine d_sub (by omega) ?_ | (apply d_nil; refine ⟨?zd, ?_⟩; (case zd => apply dr_reads; first | rfl | (simp; done))) | refine n_draw rfl ?_ | refine n_draw1 rfl ?_)
          exact rnd_next hlt ⟨inferInstance, inferInstance, inferInstance, inferInstance, inferInstance, rfl⟩
        · repeat (first | apply n_stp | refine n_add (by omega) ?_ | refine n_sub (by omega) ?_ | apply n_nil | refine n_region ?_ | refine n_region1 ?_ | refine n_assoc ?_ | refine n_skip ?_ | refine n_block ?_ | refine n_block1 ?_ | apply d_stp | refine d_add (by omega) ?_ | refine d_sub (by omega) ?_ | (apply d_nil; refine ⟨?zd, ?_⟩; (case zd => apply dr_reads; first | rfl | (simp; done))) | refine n_draw rfl ?_ | refine n_draw1 rfl ?_)
          apply n_app0 i33 i3 ⟨by decide, by decide⟩ ?a0 ?a1 ?a2 ?a3
          case a0 => exact wnt_go
          case a1 => infer_instance
          case a2 => infer_instance
          case a3 => exact irow_src hb
          repeat (first | apply n_stp | refine n_add (by omega) ?_ | refine n_sub (by omega) ?_ | apply n_nil | refine n_region ?_ | refine n_region1 ?_ | refine n_assoc ?_ | refine n_skip ?_ | refine n_block ?_ | refine n_block1 ?_ | apply d_stp | refine d_add (by omega) ?_ | refine d_sub (by omega) ?_ | (apply d_nil; refine ⟨?zd, ?_⟩; (case zd => apply dr_reads; first | rfl | (simp; done))) | refine n_draw rfl ?_ | refine n_draw1 rfl ?_)
          exact rnd_next hlt ⟨inferInstance, inferInstance, inferInstance, inferInstance, inferInstance, rfl⟩
      · intro hge
        refine n_exit (rnd_exit (aft_exit ?_))
        repeat (first | apply n_stp | refine n_add (by omega) ?_ | refine n_sub (by omega) ?_ | apply n_nil | refine n_region ?_ | refine n_region1 ?_ | refine n_assoc ?_ | refine n_skip ?_ | refine n_block ?_ | refine n_block1 ?_ | apply d_stp | refine d_add (by omega) ?_ | refine d_sub (by omega) ?_ | (apply d_nil; refine ⟨?zd, ?_⟩; (case zd => apply dr_reads; first | rfl | (simp; done))) | refine n_draw rfl ?_ | refine n_draw1 rfl ?_)
        refine n_ret1 ?_
        subst hx hy
        (apply f_one rfl; rfl)
    · obtain ⟨lowg, hg⟩ := grow1_pos (n := x.length + y.length) (by omega) (by omega)
      (apply n_call ?zz; (case zz => exact hg))
      repeat (first | apply n_stp | refine n_add (by omega) ?_ | refine n_sub (by omega) ?_ | apply n_nil | refine n_region ?_ | refine n_region1 ?_ | refine n_assoc ?_ | refine n_skip ?_ | refine n_block ?_ | refine n_block1 ?_ | apply d_stp | refine d_add (by omega) ?_ | refine d_sub (by omega) ?_ | (apply d_nil; refine ⟨?zd, ?_⟩; (case zd => apply dr_reads; first | rfl | (simp; done))) | refine n_draw rfl ?_ | refine n_draw1 rfl ?_)
      refine n_loop (fun i sl st => GL sl 36 ∧ GT sl 25 v ∧ GT sl 26 (I 2) ∧ GT sl 27 (I i) ∧ GT sl 6 (.sl 0 0 (sumL x y i) 0 1) ∧ ∃ rest, st = [⟨1, 0, ((x ++ y).take (sumL x y i)).map I ++ rest⟩] ∧ rest.length = x.length + y.length - sumL x y i) 2 (by decide) ?_ ?_
      · exact ⟨inferInstance, inferInstance, inferInstance, inferInstance, inferInstance, _, rfl, by simp [repl_length, sumL]⟩
      rintro i sl st low hi ⟨hlen, h25, h26, h27, h6, rest, hst, hrest⟩
      subst hst
      repeat (first | apply n_stp | refine n_add (by omega) ?_ | refine n_sub (by omega) ?_ | apply n_nil | refine n_region ?_ | refine n_region1 ?_ | refine n_assoc ?_ | refine n_skip ?_ | refine n_block ?_ | refine n_block1 ?_ | apply d_stp | refine d_add (by omega) ?_ | refine d_sub (by omega) ?_ | (apply d_nil; refine ⟨?zd, ?_⟩; (case zd => apply dr_reads; first | rfl | (simp; done))) | refine n_draw rfl ?_ | refine n_draw1 rfl ?_)
      apply n_cond (decide ((i : Int) < 2)) inferInstance
      · intro hlt
        have hlt : i < 2 := by have := of_decide_eq_true hlt; omega
        rcases (by omega : i = 0 ∨ i = 1) with rfl | rfl
        · repeat (first | apply n_stp | refine n_add (by omega) ?_ | refine n_sub (by omega) ?_ | apply n_nil | refine n_region ?_ | refine n_region1 ?_ | refine n_assoc ?_ | refine n_skip ?_ | refine n_block ?_ | refine n_block1 ?_ | apply d_stp | refine d_add (by omega) ?_ | refine d_sub (by omega) ?_ | (apply d_nil; refine ⟨?zd, ?_⟩; (case zd => apply dr_reads; first | rfl | (simp; done))) | refine n_draw rfl ?_ | refine n_draw1 rfl ?_)
          apply n_room i33 i3 ⟨by decide, by decide⟩ ?a0 ?a1 ?a2 ?a3 ?a4 ?a5 ?a6 ?a7 ?a8
          case a0 => exact wnt_go
          case a1 => infer_instance
          case a2 => infer_instance
          case a4 => rfl
          case a3 => simp [sumL]
          case a5 => exact irow_src ha
          case a6 => exact map_one x
          case a7 => rw [List.length_map, hrest]; simp [sumL]
          case a8 => rw [List.length_map]; omega
          intro low'
          repeat (first | apply n_stp | refine n_add (by omega) ?_ | refine n_sub (by omega) ?_ | apply n_nil | refine n_region ?_ | refine n_region1 ?_ | refine n_assoc ?_ | refine n_skip ?_ | refine n_block ?_ | refine n_block1 ?_ | apply d_stp | refine d_add (by omega) ?_ | refine d_sub (by omega) ?_ | (apply d_nil; refine ⟨?zd, ?_⟩; (case zd => apply dr_reads; first | rfl | (simp; done))) | refine n_draw rfl ?_ | refine n_draw1 rfl ?_)
          refine rnd_next hlt ⟨inferInstance, inferInstance, inferInstance, inferInstance, ?_, rest.drop x.length, ?_, ?_⟩
          · rw [show sumL x y (0 + 1) = sumL x y 0 + (x.map I).length from by simp [sumL]]; infer_instance
          · simp [sumL]
          · rw [List.length_drop, hrest]; simp [sumL]
        · repeat (first | apply n_stp | refine n_add (by omega) ?_ | refine n_sub (by omega) ?_ | apply n_nil | refine n_region ?_ | refine n_region1 ?_ | refine n_assoc ?_ | refine n_skip ?_ | refine n_block ?_ | refine n_block1 ?_ | apply d_stp | refine d_add (by omega) ?_ | refine d_sub (by omega) ?_ | (apply d_nil; refine ⟨?zd, ?_⟩; (case zd => apply dr_reads; first | rfl | (simp; done))) | refine n_draw rfl ?_ | refine n_draw1 rfl ?_)
          apply n_room i33 i3 ⟨by decide, by decide⟩ ?a0 ?a1 ?a2 ?a3 ?a4 ?a5 ?a6 ?a7 ?a8
          case a0 => exact wnt_go
          case a1 => infer_instance
          case a2 => infer_instance
          case a4 => rfl
          case a3 => simp [sumL]
          case a5 => exact irow_src hb
          case a6 => exact map_one y
          case a7 => rw [List.length_map, hrest]; simp [sumL]
          case a8 => rw [List.length_map]; omega
          intro low'
          repeat (first | apply n_stp | refine n_add (by omega) ?_ | refine n_sub (by omega) ?_ | apply n_nil | refine n_region ?_ | refine n_region1 ?_ | refine n_assoc ?_ | refine n_skip ?_ | refine n_block ?_ | refine n_block1 ?_ | apply d_stp | refine d_add (by omega) ?_ | refine d_sub (by omega) ?_ | (apply d_nil; refine ⟨?zd, ?_⟩; (case zd => apply dr_reads; first | rfl | (simp; done))) | refine n_draw rfl ?_ | refine n_draw1 rfl ?_)
          refine rnd_next hlt ⟨inferInstance, inferInstance, inferInstance, inferInstance, ?_, rest.drop y.length, ?_, ?_⟩
          · rw [show sumL x y (1 + 1) = sumL x y 1 + (y.map I).length from by simp [sumL]]; infer_instance
          · rw [show sumL x y (1 + 1) = (x ++ y).length from by simp [sumL], List.take_length]; simp [sumL]
          · rw [List.length_drop, hrest]; simp [sumL]
      · intro hge
        have hi2 : i = 2 := by have := of_decide_eq_false hge; omega
        subst hi2
        refine n_exit (rnd_exit (aft_exit ?_))
        repeat (first | apply n_stp | refine n_add (by omega) ?_ | refine n_sub (by omega) ?_ | apply n_nil | refine n_region ?_ | refine n_region1 ?_ | refine n_assoc ?_ | refine n_skip ?_ | refine n_block ?_ | refine n_block1 ?_ | apply d_stp | refine d_add (by omega) ?_ | refine d_sub (by omega) ?_ | (apply d_nil; refine ⟨?zd, ?_⟩; (case zd => apply dr_reads; first | rfl | (simp; done))) | refine n_draw rfl ?_ | refine n_draw1 rfl ?_)
        refine n_ret1 ?_
        have hne : x ++ y ≠ [] := by intro h; have := congrArg List.length h; simp at this; simp [this] at hz
        apply fin1g rfl ?hv ?hf
        case hv => infer_instance
        case hf =>
          have hm : mapO (freshA [⟨1, 0, ((x ++ y).take (sumL x y 2)).map I ++ rest⟩] 11) ((x ++ y).map I) = some ((x ++ y).map I) := mapO_id fun z hz => by
            obtain ⟨q, _, rfl⟩ := List.mem_map.1 hz
            rfl
          rw [fresh_sl (cells := (x ++ y).map I) (rest := rest) (by rw [hs2, List.take_of_length_le (by simp)]; rfl) (by rw [hs2]; simp) hm, resI, if_neg hne, hs2, List.length_append]

end Go.Proofs.YteaifkpmfbgekaaGreatDoor

namespace Go.Proofs.YteaifkpmfbgekaaGreatDoor
open Go M
set_option maxRecDepth 100000
set_option maxHeartbeats 4000000
set_option synthInstance.maxHeartbeats 400000
set_option synthInstance.maxSize 4096
theorem frz_sl {st : List Blk} {b ver d n : Nat} {cells cs rest : List AV} (hb : st[b]? = some ⟨1, ver, cells ++ rest⟩) (hn : n = cells.length) (hm : mapO (frzA st 0 d) cells = some cs) : frzA st 0 (d + 1) (.sl b 0 n ver 1) = some (.imm n cs) := by
  subst hn
  have hcut : cut (cells ++ rest) 0 (cells.length * 1) = some cells := by unfold cut; simp
  simp only [frzA, Nat.zero_le, hb, if_true, hcut, hm]
def spec35 (f : FuncId) (cs : List AV) : Option AV :=
  if f = 35 then (match cs with
    | [.imm n [a, b]] => (match dI a, dI b with
      | some x, some y => if n = 2 ∧ x.length + y.length < 1000000 then some (resI (x ++ y)) else none
      | _, _ => none)
    | _ => none) else none
theorem spec35_ok (f : FuncId) (cs : List AV) (r : AV) (h : spec35 f cs = some r) : GoodK Tryz.prog ⟨f, cs, r⟩ := by
  unfold spec35 at h
  split at h
  · rename_i hf
    subst hf
    split at h
    · split at h
      · rename_i x y hx hy
        split at h
        · rename_i hc
          obtain ⟨rfl, hl⟩ := hc
          cases h
          exact good35 (.inr ⟨rfl, rfl⟩) (dI_row hx) (dI_row hy) hl
        · cases h
      · cases h
    · cases h
  · cases h
theorem spec35_eq {a b : AV} {x y : List Int} (ha : IRow a x) (hb : IRow b y) (hl : x.length + y.length < 1000000) : spec35 35 [.imm 2 [a, b]] = some (resI (x ++ y)) := by
  simp only [spec35, if_true, row_dI ha, row_dI hb, hl, and_self]
theorem bs28 {id : Nat} {v w : AV} (hv : AV.one v = true) (hw : AV.one w = true) : buildSliceA env1 id 28 2 [(0, v), (1, w)] = some ⟨.sl id 0 2 0 1, [], none, some ⟨1, 0, [v, w]⟩⟩ := by
  have cv : v.cells = [v] := by cases v <;> first | rfl | cases hv
  have cw : w.cells = [w] := by cases w <;> first | rfl | cases hw
  have ov : [v].all AV.one = true := by simp [hv]
  have ow : [w].all AV.one = true := by simp [hw]
  simp only [buildSliceA, i28, i33]
  rw [if_pos ⟨by decide, rfl, by decide⟩]
  simp only [fillA, cv, cw, ov, ow, repl]
  rfl
theorem parts2 {sl : List AV} {x y : Operand} {v w : AV} (h : OD sl x v) (h' : OD sl y w) : partsA sl [(0, x), (1, y)] = some [(0, v), (1, w)] := by simp only [partsA, h.eq, h'.eq]
theorem resI_bare (l : List Int) : (resI l).bare2 = true := by
  unfold resI
  split
  · rfl
  · simp only [AV.bare2, AV.bare1, List.all_eq_true]
    intro z hz
    obtain ⟨q, _, rfl⟩ := List.mem_map.1 hz
    rfl
theorem run17 {r : Int} {v w : AV} {x y : List Int} (st : List Blk) (hv : IRow v x) (hw : IRow w y) (hsm : x.length + y.length < 1000000) : callS env1 1 (lookF spec35) 17 [.agg [I r, v, w]] st = some (resI (x ++ y), st, st.length) := by
  have key : Yes (callS env1 1 (lookF spec35) 17 [.agg [I r, v, w]] st) fun r => r = (resI (x ++ y), st, st.length) := by
    have ho1 : One v := ⟨row_one hv⟩
    have ho2 : One w := ⟨row_one hw⟩
    refine callS_ev (fn := Tryz.f17) (by kernel_rfl) rfl rfl (EV.out ?_)
    show EV env1 _ _ (.seq _ (.seq _ _)) ⟨[.agg [I r, v, w]] ++ List.replicate 8 .undef, st, st.length⟩ _
    generalize hsl : ([.agg [I r, v, w]] ++ List.replicate 8 AV.undef) = sl
    have hlen : GL sl 9 := ⟨by rw [← hsl]; rfl⟩
    have h0 : GT sl 0 (.agg [I r, v, w]) := ⟨by rw [← hsl]; rfl⟩
    clear hsl
    repeat (first | apply n_stp | refine n_add (by omega) ?_ | refine n_sub (by omega) ?_ | apply n_nil | refine n_region ?_ | refine n_region1 ?_ | refine n_assoc ?_ | refine n_skip ?_ | refine n_block ?_ | refine n_block1 ?_ | apply d_stp | refine d_add (by omega) ?_ | refine d_sub (by omega) ?_ | (apply d_nil; refine ⟨?zd, ?_⟩; (case zd => apply dr_reads; first | rfl | (simp; done))) | refine n_draw rfl ?_ | refine n_draw1 rfl ?_)
    have hb0 : (st ++ [(⟨(AV.agg [I r, v, w]).cells.length, 0, (AV.agg [I r, v, w]).cells⟩ : Blk)])[st.length]? = some ⟨(AV.agg [I r, v, w]).cells.length, 0, (AV.agg [I r, v, w]).cells⟩ := by simp
    repeat (first | apply n_stp | refine n_add (by omega) ?_ | refine n_sub (by omega) ?_ | apply n_nil | refine n_region ?_ | refine n_region1 ?_ | refine n_assoc ?_ | refine n_skip ?_ | refine n_block ?_ | refine n_block1 ?_ | apply d_stp | refine d_add (by omega) ?_ | refine d_sub (by omega) ?_ | (apply d_nil; refine ⟨?zd, ?_⟩; (case zd => apply dr_reads; first | rfl | (simp; done))) | refine n_draw rfl ?_ | refine n_draw1 rfl ?_)
    (apply n_bs ?zz; (case zz => exact bs28 ho1.h ho2.h))
    repeat (first | apply n_stp | refine n_add (by omega) ?_ | refine n_sub (by omega) ?_ | apply n_nil | refine n_region ?_ | refine n_region1 ?_ | refine n_assoc ?_ | refine n_skip ?_ | refine n_block ?_ | refine n_block1 ?_ | apply d_stp | refine d_add (by omega) ?_ | refine d_sub (by omega) ?_ | (apply d_nil; refine ⟨?zd, ?_⟩; (case zd => apply dr_reads; first | rfl | (simp; done))) | refine n_draw rfl ?_ | refine n_draw1 rfl ?_)
    have hm : ∀ (st' : List Blk) (b : Nat), st'[b]? = some ⟨1, 0, [v, w]⟩ → mapO (frzA st' 0 12) ([.sl b 0 2 0 1] ++ []) = some [.imm 2 [v, w]] := by
      intro st' b hst
      have h1 : mapO (frzA st' 0 11) [v, w] = some [v, w] := mapO_id fun z hz => by
        rcases List.mem_cons.1 hz with rfl | hz
        · exact frz_irow hv
        · rw [List.mem_singleton.1 hz]; exact frz_irow hw
      have h2 := frz_sl (cells := [v, w]) (rest := []) (n := 2) hst rfl h1
      simp only [List.append_nil, mapO, h2]
    (apply n_call ?zz; (case zz => exact lookF_ok (hm _ _ (by simp)) (spec35_eq hv hw hsm)))
    repeat (first | apply n_stp | refine n_add (by omega) ?_ | refine n_sub (by omega) ?_ | apply n_nil | refine n_region ?_ | refine n_region1 ?_ | refine n_assoc ?_ | refine n_skip ?_ | refine n_block ?_ | refine n_block1 ?_ | apply d_stp | refine d_add (by omega) ?_ | refine d_sub (by omega) ?_ | (apply d_nil; refine ⟨?zd, ?_⟩; (case zd => apply dr_reads; first | rfl | (simp; done))) | refine n_draw rfl ?_ | refine n_draw1 rfl ?_)
    refine n_ret1 ?_
    apply fin1R rfl ?hv ?hR
    case hv => infer_instance
    case hR =>
      show leaveA false st.length (resI (x ++ y)) _ _ = _
      unfold leaveA
      rw [if_pos (by simp), if_pos (resI_bare _)]
      simp
  obtain ⟨q, h, rfl⟩ := key
  exact h
end Go.Proofs.YteaifkpmfbgekaaGreatDoor

namespace Go.Proofs.YteaifkpmfbgekaaGreatDoor
open Go M
set_option maxRecDepth 100000
set_option maxHeartbeats 4000000
set_option synthInstance.maxHeartbeats 400000
set_option synthInstance.maxSize 4096
theorem ia_sl {b n ver i : Nat} (hi : i < n) : IA env1 33 (.sl b 0 n ver 1) (I i) (.ptr b i ver) := by
  refine ⟨?_⟩
  simp only [indexAddrA, i33, i3]
  rw [if_pos ⟨by omega, by omega⟩]
  simp
theorem ia_sl' {b off n ver i : Nat} (hi : i < n) : IA env1 33 (.sl b off n ver 1) (I i) (.ptr b (off + i) ver) := by
  refine ⟨?_⟩
  simp only [indexAddrA, i33, i3]
  rw [if_pos ⟨by omega, by omega⟩]
  simp
theorem la_sl {b off n ver : Nat} : LA env1 33 (.sl b off n ver 1) (I n) := ⟨by simp only [lenA, i33]⟩
theorem cmp_len (l : List Int) : ∀ n, (cmp l n).length ≤ n
  | 0 => Nat.le_refl _
  | n + 1 => by
    have := cmp_len l n
    simp only [cmp, List.length_append]
    split <;> simp <;> omega
theorem cmp_same {l : List Int} : ∀ {n : Nat}, n ≤ l.length → (∀ j, 0 < j → j < n → l.getD j 0 ≠ l.getD (j - 1) 0) → cmp l n = l.take n
  | 0, _, _ => by simp [cmp]
  | n + 1, hn, h => by
    rw [cmp, cmp_same (by omega) (fun j h0 h1 => h j h0 (by omega))]
    have hc : n = 0 ∨ l.getD n 0 ≠ l.getD (n - 1) 0 := by
      rcases Nat.eq_zero_or_pos n with h0 | h0
      · exact .inl h0
      · exact .inr (h n h0 (by omega))
    rw [if_pos hc, List.take_add_one]
    simp [List.getD_eq_getElem?_getD, List.getElem?_eq_getElem (show n < l.length by omega)]
theorem leave_sl {n b off k v s low : Nat} {st : List Blk} : leaveA false n (.sl b off k v s) st low = (.sl b off k v s, st, low) := by
  unfold leaveA
  split
  · rfl
  · rfl
theorem rb_map {l : List Int} {i ver : Nat} (hi : i < l.length) : RB env1 3 ⟨1, ver, l.map I⟩ i ver (I (l.getD i 0)) := rb_one i3 rfl rfl (by simp [List.getElem?_map, hi, List.getD_eq_getElem?_getD])
theorem sl_from {b n ver k : Nat} (hk : k < n) : sliceA env1 33 (.sl b 0 n ver 1) (some (I k)) none none = some (.sl b (0 + k * 1) (n - k) ver 1) := by
  simp only [sliceA, i33, i3, bound]
  have h1 : (0 : Int) ≤ (k : Int) := by omega
  rw [if_pos h1]
  simp only [Int.toNat_natCast]
  rw [if_pos ⟨by omega, Nat.le_refl _, trivial⟩, if_pos (.inl hk)]
theorem sl_to {b n ver k : Nat} (hk : k ≤ n) : sliceA env1 33 (.sl b 0 n ver 1) none (some (I k)) none = some (.sl b 0 k ver 1) := by
  simp only [sliceA, i33, i3, bound]
  have h1 : (0 : Int) ≤ (k : Int) := by omega
  rw [if_pos h1]
  simp only [Int.toNat_natCast]
  rw [if_pos ⟨Nat.zero_le _, hk, trivial⟩, if_pos (.inr trivial)]
  simp
theorem st3 {k : Blk} {b off : Nat} {z : Int} (hf : off < k.cells.length) : storeA env1 (fun _ => some k) 3 (.ptr b off k.ver) (I z) = some ⟨.undef, [b], some (b, ⟨k.sz, k.ver, k.cells.set off (I z)⟩), none⟩ := by
  simp only [storeA, i3]
  rw [if_pos (by refine ⟨?_, ?_, ?_, ?_⟩ <;> first | rfl | trivial | (simp only [AV.cells, List.length_cons, List.length_nil]; omega))]
  rfl
theorem clr33 {lk : Nat → Option Blk} {b off n ver : Nat} {cells : List AV} (hn : 0 < n) (hk : lk b = some ⟨1, ver, cells⟩) (hf : off + n ≤ cells.length) : clearA env1 lk [33] [.sl b off n ver 1] = some ⟨.tup [], [b], some (b, ⟨1, ver, cells.take off ++ repl n [I 0] ++ cells.drop (off + n)⟩), none⟩ := by
  simp only [clearA, i33, i3, hk]
  rw [if_pos (by refine ⟨hn, ?_, ?_, ?_, ?_⟩ <;> first | rfl | trivial | omega), paste_eq _ _ _ (by rw [repl_length]; simp; omega), repl_length]
  simp
theorem cmp_len2 (l : List Int) (a : Nat) : ∀ t, (cmp l (a + t)).length ≤ (cmp l a).length + t
  | 0 => Nat.le_refl _
  | t + 1 => by
    have := cmp_len2 l a t
    rw [← Nat.add_assoc, cmp, List.length_append]
    split <;> simp <;> omega
theorem run19 {K : Nat} {st : List Blk} {b ver : Nat} {l : List Int} (hb : st[b]? = some ⟨1, ver, l.map I⟩) (hsm : l.length < 1000000) (hK : l.length < K) :
    ∃ st' low rest, callS env1 K (M.look []) 19 [.sl b 0 l.length ver 1] st = some (.sl b 0 (cmp l l.length).length ver 1, st', low) ∧ st' = st.set b ⟨1, ver, (cmp l l.length).map I ++ rest⟩ := by
  have key : Yes (callS env1 K (M.look []) 19 [.sl b 0 l.length ver 1] st) fun r => ∃ st' low rest, r = (.sl b 0 (cmp l l.length).length ver 1, st', low) ∧ st' = st.set b ⟨1, ver, (cmp l l.length).map I ++ rest⟩ := by
    refine callS_ev (fn := Tryz.f19) (by kernel_rfl) rfl rfl (EV.out ?_)
    show EV env1 _ _ (.seq _ (.seq _ _)) ⟨[.sl b 0 l.length ver 1] ++ List.replicate 60 .undef, st, st.length⟩ _
    generalize hsl : ([.sl b 0 l.length ver 1] ++ List.replicate 60 AV.undef) = sl
    have hlen : GL sl 61 := ⟨by rw [← hsl]; rfl⟩
    have h0 : GT sl 0 (.sl b 0 l.length ver 1) := ⟨by rw [← hsl]; rfl⟩
    clear hsl
    have hla : LA env1 33 (.sl b 0 l.length ver 1) (I l.length) := la_sl
    have hbk : BK st b ⟨1, ver, l.map I⟩ := ⟨hb⟩
    repeat (first | apply n_stp | refine n_add (by omega) ?_ | refine n_sub (by omega) ?_ | apply n_nil | refine n_region ?_ | refine n_region1 ?_ | refine n_assoc ?_ | refine n_skip ?_ | refine n_block ?_ | refine n_block1 ?_ | apply d_stp | refine d_add (by omega) ?_ | refine d_sub (by omega) ?_ | (apply d_nil; refine ⟨?zd, ?_⟩; (case zd => apply dr_reads; first | rfl | (simp; done))) | refine n_draw rfl ?_ | refine n_draw1 rfl ?_)
    apply n_cond (decide ((l.length : Int) < 2)) inferInstance
    · intro hlt
      have hlt := of_decide_eq_true hlt
      repeat (first | apply n_stp | refine n_add (by omega) ?_ | refine n_sub (by omega) ?_ | apply n_nil | refine n_region ?_ | refine n_region1 ?_ | refine n_assoc ?_ | refine n_skip ?_ | refine n_block ?_ | refine n_block1 ?_ | apply d_stp | refine d_add (by omega) ?_ | refine d_sub (by omega) ?_ | (apply d_nil; refine ⟨?zd, ?_⟩; (case zd => apply dr_reads; first | rfl | (simp; done))) | refine n_draw rfl ?_ | refine n_draw1 rfl ?_)
      refine n_ret ?_
      have hc : cmp l l.length = l := by rw [cmp_same (Nat.le_refl _) (fun j h0 h1 => by omega), List.take_length]
      apply fin1R rfl ?hv ?hR
      case hv => infer_instance
      case hR =>
        obtain ⟨h1, h2⟩ := List.getElem?_eq_some_iff.1 hb
        refine ⟨st, st.length, [], ?_, ?_⟩
        · rw [hc]; exact leave_sl
        · rw [hc, List.append_nil, ← h2]; simp
    intro hge
    have hge := of_decide_eq_false hge
    repeat (first | apply n_stp | refine n_add (by omega) ?_ | refine n_sub (by omega) ?_ | apply n_nil | refine n_region ?_ | refine n_region1 ?_ | refine n_assoc ?_ | refine n_skip ?_ | refine n_block ?_ | refine n_block1 ?_ | apply d_stp | refine d_add (by omega) ?_ | refine d_sub (by omega) ?_ | (apply d_nil; refine ⟨?zd, ?_⟩; (case zd => apply dr_reads; first | rfl | (simp; done))) | refine n_draw rfl ?_ | refine n_draw1 rfl ?_)
    refine n_loop (fun i sl st' => GL sl 61 ∧ st' = st ∧ GT sl 0 (.sl b 0 l.length ver 1) ∧ GT sl 3 (I ((i + 1 : Nat) : Int)) ∧ ∀ j, 0 < j → j < i + 1 → l.getD j 0 ≠ l.getD (j - 1) 0) (l.length - 1) (by omega) ?_ ?_
    · exact ⟨inferInstance, rfl, inferInstance, inferInstance, fun j h0 h1 => by omega⟩
    rintro i sl st' low hi ⟨hlen, hst, h0, h3, hne⟩
    subst hst
    repeat (first | apply n_stp | refine n_add (by omega) ?_ | refine n_sub (by omega) ?_ | apply n_nil | refine n_region ?_ | refine n_region1 ?_ | refine n_assoc ?_ | refine n_skip ?_ | refine n_block ?_ | refine n_block1 ?_ | apply d_stp | refine d_add (by omega) ?_ | refine d_sub (by omega) ?_ | (apply d_nil; refine ⟨?zd, ?_⟩; (case zd => apply dr_reads; first | rfl | (simp; done))) | refine n_draw rfl ?_ | refine n_draw1 rfl ?_)
    apply n_cond (decide (((i + 1 : Nat) : Int) < l.length)) inferInstance
    · intro hlt
      have hlt := of_decide_eq_true hlt
      have hlt : i + 1 < l.length := by omega
      have hia := ia_sl (b := b) (ver := ver) hlt
      have hib : IA env1 33 (.sl b 0 l.length ver 1) (I (((i + 1 : Nat) : Int) - 1)) (.ptr b i ver) := by
        have := ia_sl (b := b) (ver := ver) (show i < l.length by omega)
        rwa [show ((i : Nat) : Int) = ((i + 1 : Nat) : Int) - 1 from by omega] at this
      have hra := rb_map (l := l) (ver := ver) hlt
      have hrb := rb_map (l := l) (ver := ver) (show i < l.length by omega)
      repeat (first | apply n_stp | refine n_add (by omega) ?_ | refine n_sub (by omega) ?_ | apply n_nil | refine n_region ?_ | refine n_region1 ?_ | refine n_assoc ?_ | refine n_skip ?_ | refine n_block ?_ | refine n_block1 ?_ | apply d_stp | refine d_add (by omega) ?_ | refine d_sub (by omega) ?_ | (apply d_nil; refine ⟨?zd, ?_⟩; (case zd => apply dr_reads; first | rfl | (simp; done))) | refine n_draw rfl ?_ | refine n_draw1 rfl ?_)
      apply n_cond1 (l.getD (i + 1) 0 == l.getD i 0) inferInstance
      · intro heq
        have heq : l.getD (i + 1) 0 = l.getD i 0 := by simpa using heq
        repeat (first | apply n_stp | refine n_add (by omega) ?_ | refine n_sub (by omega) ?_ | apply n_nil | refine n_region ?_ | refine n_region1 ?_ | refine n_assoc ?_ | refine n_skip ?_ | refine n_block ?_ | refine n_block1 ?_ | apply d_stp | refine d_add (by omega) ?_ | refine d_sub (by omega) ?_ | (apply d_nil; refine ⟨?zd, ?_⟩; (case zd => apply dr_reads; first | rfl | (simp; done))) | refine n_draw rfl ?_ | refine n_draw1 rfl ?_)
        (apply n_step (q_slice ?a0 ?a1 ?a2 ?a3 ?a4 ?a5); (case a0 => exact wnt_go); (case a1 => infer_instance); (case a2 => (apply opt1; infer_instance)); (case a3 => rfl); (case a4 => rfl); (case a5 => exact sl_from hlt))
        repeat (first | apply n_stp | refine n_add (by omega) ?_ | refine n_sub (by omega) ?_ | apply n_nil | refine n_region ?_ | refine n_region1 ?_ | refine n_assoc ?_ | refine n_skip ?_ | refine n_block ?_ | refine n_block1 ?_ | apply d_stp | refine d_add (by omega) ?_ | refine d_sub (by omega) ?_ | (apply d_nil; refine ⟨?zd, ?_⟩; (case zd => apply dr_reads; first | rfl | (simp; done))) | refine n_draw rfl ?_ | refine n_draw1 rfl ?_)
        have hk1 : cmp l (i + 1) = l.take (i + 1) := cmp_same (by omega) hne
        have hk2 : cmp l (i + 1 + 0 + 1) = l.take (i + 1) := by
          rw [cmp, if_neg, List.append_nil]
          · exact hk1
          · intro h; rcases h with h | h
            · omega
            · exact h heq
        have hk3 : (cmp l (i + 1 + 0 + 1)).length = i + 1 := by rw [hk2, List.length_take]; omega
        refine n_loop (fun m sl st2 => GL sl 61 ∧ GT sl 0 (.sl b 0 l.length ver 1) ∧ GT sl 4 (.sl b (0 + (i + 1) * 1) (l.length - (i + 1)) ver 1) ∧ GT sl 5 (I ((m + 1 : Nat) : Int)) ∧ GT sl 3 (I ((cmp l (i + 1 + m + 1)).length : Nat)) ∧
          ∃ c : List Int, c.length = l.length ∧ st2 = st'.set b ⟨1, ver, c.map I⟩ ∧ c.take (cmp l (i + 1 + m + 1)).length = cmp l (i + 1 + m + 1) ∧ ∀ j, i + 1 + m ≤ j → j < l.length → c.getD j 0 = l.getD j 0) (l.length - (i + 1) - 1) (by omega) ?_ ?_
        · refine ⟨inferInstance, inferInstance, inferInstance, inferInstance, ?_, l, rfl, ?_, ?_, fun _ _ _ => rfl⟩
          · rw [hk3]; infer_instance
          · obtain ⟨h1, h2⟩ := List.getElem?_eq_some_iff.1 hb
            rw [← h2]; simp
          · rw [hk3, hk2]
        rintro m sl st2 low hm ⟨hlen, h0, h4, h5, h3, c, hcl, hst2, hct, hcj⟩
        have hbl : b < st'.length := (List.getElem?_eq_some_iff.1 hb).1
        have hb2 : st2[b]? = some ⟨1, ver, c.map I⟩ := by rw [hst2]; simp [hbl]
        have hbk2 : BK st2 b ⟨1, ver, c.map I⟩ := ⟨hb2⟩
        have hla2 : LA env1 33 (.sl b (0 + (i + 1) * 1) (l.length - (i + 1)) ver 1) (I (l.length - (i + 1) : Nat)) := la_sl
        have hcl2 : (cmp l (i + 1 + m + 1)).length ≤ i + 1 + m := by
          have := cmp_len2 l (i + 1 + 0 + 1) m
          rw [hk3] at this
          rw [show i + 1 + m + 1 = i + 1 + 0 + 1 + m from by omega]; omega
        repeat (first | apply n_stp | refine n_add (by omega) ?_ | refine n_sub (by omega) ?_ | apply n_nil | refine n_region ?_ | refine n_region1 ?_ | refine n_assoc ?_ | refine n_skip ?_ | refine n_block ?_ | refine n_block1 ?_ | apply d_stp | refine d_add (by omega) ?_ | refine d_sub (by omega) ?_ | (apply d_nil; refine ⟨?zd, ?_⟩; (case zd => apply dr_reads; first | rfl | (simp; done))) | refine n_draw rfl ?_ | refine n_draw1 rfl ?_)
        apply n_cond (decide (((m + 1 : Nat) : Int) < (l.length - (i + 1) : Nat))) inferInstance
        · intro hm2
          have hm2 := of_decide_eq_true hm2
          have hm2 : m + 1 < l.length - (i + 1) := by omega
          have hja := ia_sl' (b := b) (ver := ver) (off := 0 + (i + 1) * 1) hm2
          have hjb : IA env1 33 (.sl b (0 + (i + 1) * 1) (l.length - (i + 1)) ver 1) (I (((m + 1 : Nat) : Int) - 1)) (.ptr b (0 + (i + 1) * 1 + m) ver) := by
            have := ia_sl' (b := b) (ver := ver) (off := 0 + (i + 1) * 1) (show m < l.length - (i + 1) by omega)
            rwa [show ((m : Nat) : Int) = ((m + 1 : Nat) : Int) - 1 from by omega] at this
          have hga : c.getD (0 + (i + 1) * 1 + (m + 1)) 0 = l.getD (i + 1 + m + 1) 0 := by rw [hcj _ (by omega) (by omega)]; congr 1; omega
          have hgb : c.getD (0 + (i + 1) * 1 + m) 0 = l.getD (i + 1 + m) 0 := by rw [hcj _ (by omega) (by omega)]; congr 1; omega
          have hsa : RB env1 3 ⟨1, ver, c.map I⟩ (0 + (i + 1) * 1 + (m + 1)) ver (I (l.getD (i + 1 + m + 1) 0)) := by
            have := rb_map (l := c) (ver := ver) (i := 0 + (i + 1) * 1 + (m + 1)) (by omega)
            rwa [hga] at this
          have hsb : RB env1 3 ⟨1, ver, c.map I⟩ (0 + (i + 1) * 1 + m) ver (I (l.getD (i + 1 + m) 0)) := by
            have := rb_map (l := c) (ver := ver) (i := 0 + (i + 1) * 1 + m) (by omega)
            rwa [hgb] at this
          have hjc := ia_sl (b := b) (ver := ver) (n := l.length) (i := (cmp l (i + 1 + m + 1)).length) (by omega)
          repeat (first | apply n_stp | refine n_add (by omega) ?_ | refine n_sub (by omega) ?_ | apply n_nil | refine n_region ?_ | refine n_region1 ?_ | refine n_assoc ?_ | refine n_skip ?_ | refine n_block ?_ | refine n_block1 ?_ | apply d_stp | refine d_add (by omega) ?_ | refine d_sub (by omega) ?_ | (apply d_nil; refine ⟨?zd, ?_⟩; (case zd => apply dr_reads; first | rfl | (simp; done))) | refine n_draw rfl ?_ | refine n_draw1 rfl ?_)
          apply n_cond1 (l.getD (i + 1 + m + 1) 0 != l.getD (i + 1 + m) 0) inferInstance
          · intro hq
            have hq : l.getD (i + 1 + m + 1) 0 ≠ l.getD (i + 1 + m) 0 := by simpa using hq
            have hcs : cmp l (i + 1 + (m + 1) + 1) = cmp l (i + 1 + m + 1) ++ [l.getD (i + 1 + m + 1) 0] := by
              rw [show i + 1 + (m + 1) + 1 = (i + 1 + m + 1) + 1 from by omega, cmp, if_pos (.inr hq)]
            repeat (first | apply n_stp | refine n_add (by omega) ?_ | refine n_sub (by omega) ?_ | apply n_nil | refine n_region ?_ | refine n_region1 ?_ | refine n_assoc ?_ | refine n_skip ?_ | refine n_block ?_ | refine n_block1 ?_ | apply d_stp | refine d_add (by omega) ?_ | refine d_sub (by omega) ?_ | (apply d_nil; refine ⟨?zd, ?_⟩; (case zd => apply dr_reads; first | rfl | (simp; done))) | refine n_draw rfl ?_ | refine n_draw1 rfl ?_)
            (apply n_step (q_store ?a0 ?a1 ?a2 ?a3 ?a4 ?a5); (case a0 => rfl); (case a1 => exact wnt_go); (case a2 => infer_instance); (case a3 => infer_instance); (case a4 => exact hb2); (case a5 => exact st3 (k := ⟨1, ver, c.map I⟩) (by simp only [List.length_map]; omega)))
            repeat (first | apply n_stp | refine n_add (by omega) ?_ | refine n_sub (by omega) ?_ | apply n_nil | refine n_region ?_ | refine n_region1 ?_ | refine n_assoc ?_ | refine n_skip ?_ | refine n_block ?_ | refine n_block1 ?_ | apply d_stp | refine d_add (by omega) ?_ | refine d_sub (by omega) ?_ | (apply d_nil; refine ⟨?zd, ?_⟩; (case zd => apply dr_reads; first | rfl | (simp; done))) | refine n_draw rfl ?_ | refine n_draw1 rfl ?_)
            refine rnd_next (by omega) ⟨inferInstance, inferInstance, inferInstance, ?_, ?_, c.set (cmp l (i + 1 + m + 1)).length (l.getD (i + 1 + m + 1) 0), by simp [hcl], ?_, ?_, ?_⟩
            · rw [show ((m + 1 + 1 : Nat) : Int) = ((m + 1 : Nat) : Int) + 1 from rfl]; infer_instance
            · rw [hcs, show (((cmp l (i + 1 + m + 1) ++ [l.getD (i + 1 + m + 1) 0]).length : Nat) : Int) = ((cmp l (i + 1 + m + 1)).length : Int) + 1 from by simp]; infer_instance
            · rw [hst2]; simp [List.map_set]
            · rw [hcs, List.length_append, List.length_singleton, List.take_add_one, List.take_set_of_le (Nat.le_refl _), hct]
              simp [show (cmp l (i + 1 + m + 1)).length < c.length by omega]
            · intro j h1 h2
              rw [← hcj j (by omega) h2]
              simp only [List.getD_eq_getElem?_getD]
              rw [List.getElem?_set_ne (by omega)]
          · intro hq
            have hq : l.getD (i + 1 + m + 1) 0 = l.getD (i + 1 + m) 0 := by simpa using hq
            have hcs : cmp l (i + 1 + (m + 1) + 1) = cmp l (i + 1 + m + 1) := by
              rw [show i + 1 + (m + 1) + 1 = (i + 1 + m + 1) + 1 from by omega, cmp, if_neg, List.append_nil]
              intro h
              rcases h with h | h
              · omega
              · exact h hq
            refine n_skip1 (aft_next ?_)
            repeat (first | apply n_stp | refine n_add (by omega) ?_ | refine n_sub (by omega) ?_ | apply n_nil | refine n_region ?_ | refine n_region1 ?_ | refine n_assoc ?_ | refine n_skip ?_ | refine n_block ?_ | refine n_block1 ?_ | apply d_stp | refine d_add (by omega) ?_ | refine d_sub (by omega) ?_ | (apply d_nil; refine ⟨?zd, ?_⟩; (case zd => apply dr_reads; first | rfl | (simp; done))) | refine n_draw rfl ?_ | refine n_draw1 rfl ?_)
            refine rnd_next (by omega) ⟨inferInstance, inferInstance, inferInstance, ?_, ?_, c, hcl, hst2, ?_, fun j h1 h2 => hcj j (by omega) h2⟩
            · rw [show ((m + 1 + 1 : Nat) : Int) = ((m + 1 : Nat) : Int) + 1 from rfl]; infer_instance
            · rw [hcs]; infer_instance
            · rw [hcs]; exact hct
        · intro hm2
          have hm2 := of_decide_eq_false hm2
          have hml : i + 1 + m + 1 = l.length := by omega
          rw [hml] at h3 hct hcl2
          refine n_exit (rnd_exit (aft_exit ?_))
          repeat (first | apply n_stp | refine n_add (by omega) ?_ | refine n_sub (by omega) ?_ | apply n_nil | refine n_region ?_ | refine n_region1 ?_ | refine n_assoc ?_ | refine n_skip ?_ | refine n_block ?_ | refine n_block1 ?_ | apply d_stp | refine d_add (by omega) ?_ | refine d_sub (by omega) ?_ | (apply d_nil; refine ⟨?zd, ?_⟩; (case zd => apply dr_reads; first | rfl | (simp; done))) | refine n_draw rfl ?_ | refine n_draw1 rfl ?_)
          have hkl : (cmp l l.length).length < l.length := by omega
          have hseen : seeA [b] (fun b => st2[b]?) b = some ⟨1, ver, c.map I⟩ := by simp [seeA, hb2]
          have hbl2 : b < st2.length := (List.getElem?_eq_some_iff.1 hb2).1
          (apply n_step (q_slice ?a0 ?a1 ?a2 ?a3 ?a4 ?a5); (case a0 => exact wnt_go); (case a1 => infer_instance); (case a2 => (apply opt1; infer_instance)); (case a3 => rfl); (case a4 => rfl); (case a5 => exact sl_from hkl))
          repeat (first | apply n_stp | refine n_add (by omega) ?_ | refine n_sub (by omega) ?_ | apply n_nil | refine n_region ?_ | refine n_region1 ?_ | refine n_assoc ?_ | refine n_skip ?_ | refine n_block ?_ | refine n_block1 ?_ | apply d_stp | refine d_add (by omega) ?_ | refine d_sub (by omega) ?_ | (apply d_nil; refine ⟨?zd, ?_⟩; (case zd => apply dr_reads; first | rfl | (simp; done))) | refine n_draw rfl ?_ | refine n_draw1 rfl ?_)
          (apply n_step (q_clear ?a0 ?a1 ?a2 ?a3 ?a4 ?a5); (case a0 => rfl); (case a1 => exact wnt_go); (case a2 => infer_instance); (case a3 => rfl); (case a4 => exact clr33 (by omega) hseen (by rw [List.length_map]; omega)); (case a5 => (simp [wrOk, hbl2, leadA])))
          repeat (first | apply n_stp | refine n_add (by omega) ?_ | refine n_sub (by omega) ?_ | apply n_nil | refine n_region ?_ | refine n_region1 ?_ | refine n_assoc ?_ | refine n_skip ?_ | refine n_block ?_ | refine n_block1 ?_ | apply d_stp | refine d_add (by omega) ?_ | refine d_sub (by omega) ?_ | (apply d_nil; refine ⟨?zd, ?_⟩; (case zd => apply dr_reads; first | rfl | (simp; done))) | refine n_draw rfl ?_ | refine n_draw1 rfl ?_)
          (apply n_step (q_slice ?a0 ?a1 ?a2 ?a3 ?a4 ?a5); (case a0 => exact wnt_go); (case a1 => infer_instance); (case a2 => rfl); (case a3 => (apply opt1; infer_instance)); (case a4 => rfl); (case a5 => exact sl_to (Nat.le_of_lt hkl)))
          repeat (first | apply n_stp | refine n_add (by omega) ?_ | refine n_sub (by omega) ?_ | apply n_nil | refine n_region ?_ | refine n_region1 ?_ | refine n_assoc ?_ | refine n_skip ?_ | refine n_block ?_ | refine n_block1 ?_ | apply d_stp | refine d_add (by omega) ?_ | refine d_sub (by omega) ?_ | (apply d_nil; refine ⟨?zd, ?_⟩; (case zd => apply dr_reads; first | rfl | (simp; done))) | refine n_draw rfl ?_ | refine n_draw1 rfl ?_)
          refine n_ret1 (aft_ret (rnd_ret (aft_ret ?_)))
          apply fin1R rfl ?hv ?hR
          case hv => infer_instance
          case hR =>
            refine ⟨_, _, repl (l.length - (cmp l l.length).length) [I 0] ++ (c.map I).drop (0 + (cmp l l.length).length * 1 + (l.length - (cmp l l.length).length)), leave_sl, ?_⟩
            have ht : (c.map I).take (0 + (cmp l l.length).length * 1) = (cmp l l.length).map I := by
              rw [← List.map_take, show 0 + (cmp l l.length).length * 1 = (cmp l l.length).length from by omega, hct]
            simp only [effApply, hst2, ht, List.set_set, List.append_assoc]
      · intro hneq
        have hneq : l.getD (i + 1) 0 ≠ l.getD i 0 := by simpa using hneq
        refine n_skip1 (aft_next ?_)
        repeat (first | apply n_stp | refine n_add (by omega) ?_ | refine n_sub (by omega) ?_ | apply n_nil | refine n_region ?_ | refine n_region1 ?_ | refine n_assoc ?_ | refine n_skip ?_ | refine n_block ?_ | refine n_block1 ?_ | apply d_stp | refine d_add (by omega) ?_ | refine d_sub (by omega) ?_ | (apply d_nil; refine ⟨?zd, ?_⟩; (case zd => apply dr_reads; first | rfl | (simp; done))) | refine n_draw rfl ?_ | refine n_draw1 rfl ?_)
        refine rnd_next (by omega) ⟨inferInstance, rfl, inferInstance, ?_, ?_⟩
        · rw [show ((i + 1 + 1 : Nat) : Int) = ((i + 1 : Nat) : Int) + 1 from rfl]; infer_instance
        · intro j h0 h1
          rcases Nat.lt_or_ge j (i + 1) with h | h
          · exact hne j h0 h
          · have : j = i + 1 := by omega
            subst this; exact hneq
    · intro hge2
      have hge2 := of_decide_eq_false hge2
      have hil : i + 1 = l.length := by omega
      refine n_exit (rnd_exit (aft_exit ?_))
      repeat (first | apply n_stp | refine n_add (by omega) ?_ | refine n_sub (by omega) ?_ | apply n_nil | refine n_region ?_ | refine n_region1 ?_ | refine n_assoc ?_ | refine n_skip ?_ | refine n_block ?_ | refine n_block1 ?_ | apply d_stp | refine d_add (by omega) ?_ | refine d_sub (by omega) ?_ | (apply d_nil; refine ⟨?zd, ?_⟩; (case zd => apply dr_reads; first | rfl | (simp; done))) | refine n_draw rfl ?_ | refine n_draw1 rfl ?_)
      refine n_ret1 ?_
      have hc : cmp l l.length = l := by rw [cmp_same (Nat.le_refl _) (fun j h0 h1 => hne j h0 (by omega)), List.take_length]
      apply fin1R rfl ?hv ?hR
      case hv => infer_instance
      case hR =>
        obtain ⟨h1, h2⟩ := List.getElem?_eq_some_iff.1 hb
        refine ⟨st', low, [], ?_, ?_⟩
        · rw [hc]; exact leave_sl
        · rw [hc, List.append_nil, ← h2]; simp
  obtain ⟨q, h, st', low, rest, rfl, h1⟩ := key
  exact ⟨st', low, rest, h, h1⟩
end Go.Proofs.YteaifkpmfbgekaaGreatDoor
