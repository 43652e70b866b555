/- The small functions. -/
import Derived.Test.YteaifkpmfbgekaaGreatDoorC1
import Derived.Test.YteaifkpmfbgekaaGreatDoorB7
set_option linter.all false
set_option linter.deprecated false
namespace Go.Proofs.YteaifkpmfbgekaaGreatDoor
open Go M
set_option maxRecDepth 100000
set_option maxHeartbeats 4000000
set_option synthInstance.maxHeartbeats 400000
set_option synthInstance.maxSize 4096
theorem env1_ok : M.Env.Ok Tryz.prog env1 (fun ops => M.regionOk ops = true) := M.envOk fnT_fits fnT_list fnT_all tiT_ok (fun f h => by
  have : f = 18 := M.nat_beq h
  subst this; exact sorts18)

theorem good16 (a : Bool) (b c d e : Int) : GoodK Tryz.prog ⟨16, [.agg [.bool a, I b, I c, I d, I e]], .bool (decide (e < -1))⟩ := by
  refine n_run (E := env1) (K := 1) (call := (M.look [])) env1_ok follows look_nil (fn := Tryz.f16) (by kernel_rfl) rfl rfl rfl ?_
  show EV env1 _ _ (.seq _ (.seq _ _)) ⟨[.agg [.bool a, I b, I c, I d, I e]] ++ List.replicate 5 .undef, [], 0⟩ _
  generalize hsl : ([.agg [.bool a, I b, I c, I d, I e]] ++ List.replicate 5 AV.undef) = sl
  have hlen : GL sl 6 := ⟨by rw [← hsl]; rfl⟩
  have h0 : GT sl 0 (.agg [.bool a, I b, I c, I d, I e]) := ⟨by rw [← hsl]; rfl⟩
  clear hsl
  repeat (first | apply n_stp | refine n_add (by omega) ?_ | refine n_sub (by omega) ?_ | apply n_nil | refine n_region ?_ | refine n_region1 ?_ | refine n_assoc ?_ | refine n_skip ?_ | refine n_block ?_ | refine n_block1 ?_ | apply d_stp | refine d_add (by omega) ?_ | refine d_sub (by omega) ?_ | (apply d_nil; refine ⟨?zd, ?_⟩; (case zd => apply dr_reads; first | rfl | (simp; done))) | refine n_draw rfl ?_ | refine n_draw1 rfl ?_)
  repeat (first | apply n_stp | refine n_add (by omega) ?_ | refine n_sub (by omega) ?_ | apply n_nil | refine n_region ?_ | refine n_region1 ?_ | refine n_assoc ?_ | refine n_skip ?_ | refine n_block ?_ | refine n_block1 ?_ | apply d_stp | refine d_add (by omega) ?_ | refine d_sub (by omega) ?_ | (apply d_nil; refine ⟨?zd, ?_⟩; (case zd => apply dr_reads; first | rfl | (simp; done))) | refine n_draw rfl ?_ | refine n_draw1 rfl ?_)
  refine n_ret1 ?_
  (apply f_one rfl; rfl)

def p16 (x : El) : Bool := decide (x.ev < -1)
def idxR (E : List El) : Int := if E.findIdx p16 < E.length then (E.findIdx p16 : Int) else -1
def spec16 (f : FuncId) (cs : List AV) : Option AV :=
  if f = 16 then (match cs with | [.agg [.bool _, .int .i64 _, .int .i64 _, .int .i64 _, .int .i64 e]] => some (.bool (decide (e < -1))) | _ => none) else none
theorem spec16_ok (f : FuncId) (cs : List AV) (r : AV) (h : spec16 f cs = some r) : GoodK Tryz.prog ⟨f, cs, r⟩ := by
  unfold spec16 at h
  split at h
  · rename_i hf
    subst hf
    split at h
    · cases h; exact good16 ..
    · cases h
  · cases h

theorem good34 {els : AV} {E : List El} (hE : ERow els E) (hsm : E.length < 1000000000) : GoodK Tryz.prog ⟨34, [els, .fn 16 []], I (idxR E)⟩ := by
  refine n_run (E := env1) (K := (E.length+1)) (call := (lookF spec16)) env1_ok follows (lookF_sound spec16_ok) (fn := Tryz.f34) (by kernel_rfl) rfl rfl rfl ?_
  show EV env1 _ _ (.seq _ (.seq _ _)) ⟨[els, .fn 16 []] ++ List.replicate 17 .undef, [], 0⟩ _
  generalize hsl : ([els, .fn 16 []] ++ List.replicate 17 AV.undef) = sl
  have hlen : GL sl 19 := ⟨by rw [← hsl]; rfl⟩
  have h0 : GT sl 0 els := ⟨by rw [← hsl]; rfl⟩
  have h1 : GT sl 1 (.fn 16 []) := ⟨by rw [← hsl]; rfl⟩
  clear hsl
  have hla := la22 hE
  repeat (first | apply n_stp | refine n_add (by omega) ?_ | refine n_sub (by omega) ?_ | apply n_nil | refine n_region ?_ | refine n_region1 ?_ | refine n_assoc ?_ | refine n_skip ?_ | refine n_block ?_ | refine n_block1 ?_ | apply d_stp | refine d_add (by omega) ?_ | refine d_sub (by omega) ?_ | (apply d_nil; refine ⟨?zd, ?_⟩; (case zd => apply dr_reads; first | rfl | (simp; done))) | refine n_draw rfl ?_ | refine n_draw1 rfl ?_)
  refine n_loop (fun i sl st => GL sl 19 ∧ st = [] ∧ GT sl 0 els ∧ GT sl 1 (.fn 16 []) ∧ GT sl 7 (I E.length) ∧ GT sl 8 (I i) ∧ i ≤ E.findIdx p16) E.length (by omega) ?_ ?_
  · exact ⟨inferInstance, rfl, inferInstance, inferInstance, inferInstance, inferInstance, Nat.zero_le _⟩
  · rintro i sl st low hi ⟨hlen, hst, h0, h1, h7, h8, hfi⟩
    subst hst
    repeat (first | apply n_stp | refine n_add (by omega) ?_ | refine n_sub (by omega) ?_ | apply n_nil | refine n_region ?_ | refine n_region1 ?_ | refine n_assoc ?_ | refine n_skip ?_ | refine n_block ?_ | refine n_block1 ?_ | apply d_stp | refine d_add (by omega) ?_ | refine d_sub (by omega) ?_ | (apply d_nil; refine ⟨?zd, ?_⟩; (case zd => apply dr_reads; first | rfl | (simp; done))) | refine n_draw rfl ?_ | refine n_draw1 rfl ?_)
    apply n_cond (decide ((i : Int) < E.length)) inferInstance
    · intro hlt
      have hlt : i < E.length := by simpa using hlt
      have hia := ia22 hE hlt
      repeat (first | apply n_stp | refine n_add (by omega) ?_ | refine n_sub (by omega) ?_ | apply n_nil | refine n_region ?_ | refine n_region1 ?_ | refine n_assoc ?_ | refine n_skip ?_ | refine n_block ?_ | refine n_block1 ?_ | apply d_stp | refine d_add (by omega) ?_ | refine d_sub (by omega) ?_ | (apply d_nil; refine ⟨?zd, ?_⟩; (case zd => apply dr_reads; first | rfl | (simp; done))) | refine n_draw rfl ?_ | refine n_draw1 rfl ?_)
      (apply n_call ?zz; (case zz => exact lookF_ok rfl rfl))
      repeat (first | apply n_stp | refine n_add (by omega) ?_ | refine n_sub (by omega) ?_ | apply n_nil | refine n_region ?_ | refine n_region1 ?_ | refine n_assoc ?_ | refine n_skip ?_ | refine n_block ?_ | refine n_block1 ?_ | apply d_stp | refine d_add (by omega) ?_ | refine d_sub (by omega) ?_ | (apply d_nil; refine ⟨?zd, ?_⟩; (case zd => apply dr_reads; first | rfl | (simp; done))) | refine n_draw rfl ?_ | refine n_draw1 rfl ?_)
      apply n_cond1 (decide (E[i].ev < -1)) inferInstance
      · intro hp
        repeat (first | apply n_stp | refine n_add (by omega) ?_ | refine n_sub (by omega) ?_ | apply n_nil | refine n_region ?_ | refine n_region1 ?_ | refine n_assoc ?_ | refine n_skip ?_ | refine n_block ?_ | refine n_block1 ?_ | apply d_stp | refine d_add (by omega) ?_ | refine d_sub (by omega) ?_ | (apply d_nil; refine ⟨?zd, ?_⟩; (case zd => apply dr_reads; first | rfl | (simp; done))) | refine n_draw rfl ?_ | refine n_draw1 rfl ?_)
        refine n_ret1 (aft_ret (rnd_ret (aft_ret ?_)))
        have hr : idxR E = i := by
          have h2 : ¬ i < E.findIdx p16 := fun h => by
            have := List.not_of_lt_findIdx h
            rw [show p16 E[i] = true from hp] at this
            exact absurd this (by simp)
          have h3 : E.findIdx p16 = i := by omega
          unfold idxR; rw [h3, if_pos hlt]
        rw [hr]
        (apply f_one rfl; rfl)
      · intro hp
        refine n_skip1 (aft_next ?_)
        repeat (first | apply n_stp | refine n_add (by omega) ?_ | refine n_sub (by omega) ?_ | apply n_nil | refine n_region ?_ | refine n_region1 ?_ | refine n_assoc ?_ | refine n_skip ?_ | refine n_block ?_ | refine n_block1 ?_ | apply d_stp | refine d_add (by omega) ?_ | refine d_sub (by omega) ?_ | (apply d_nil; refine ⟨?zd, ?_⟩; (case zd => apply dr_reads; first | rfl | (simp; done))) | refine n_draw rfl ?_ | refine n_draw1 rfl ?_)
        refine rnd_next hlt ⟨inferInstance, rfl, inferInstance, inferInstance, inferInstance, ?_, ?_⟩
        · rw [show ((i + 1 : Nat) : Int) = (i : Int) + 1 from rfl]; infer_instance
        · rcases Nat.lt_or_ge i (E.findIdx p16) with h | h
          · exact h
          · exfalso
            have h3 : E.findIdx p16 = i := by omega
            have := List.findIdx_getElem (xs := E) (p := p16) (w := by omega)
            simp only [h3] at this
            rw [show p16 E[i] = false from hp] at this
            exact absurd this (by simp)
    · intro hge
      have hge : ¬ i < E.length := by simpa using hge
      refine n_exit ?_
      refine rnd_exit (aft_exit ?_)
      repeat (first | apply n_stp | refine n_add (by omega) ?_ | refine n_sub (by omega) ?_ | apply n_nil | refine n_region ?_ | refine n_region1 ?_ | refine n_assoc ?_ | refine n_skip ?_ | refine n_block ?_ | refine n_block1 ?_ | apply d_stp | refine d_add (by omega) ?_ | refine d_sub (by omega) ?_ | (apply d_nil; refine ⟨?zd, ?_⟩; (case zd => apply dr_reads; first | rfl | (simp; done))) | refine n_draw rfl ?_ | refine n_draw1 rfl ?_)
      refine n_ret1 ?_
      have hr : idxR E = -1 := by unfold idxR; rw [if_neg (by omega)]
      rw [hr]
      (apply f_one rfl; rfl)
end Go.Proofs.YteaifkpmfbgekaaGreatDoor

namespace Go.Proofs.YteaifkpmfbgekaaGreatDoor
open Go M
set_option maxRecDepth 100000
set_option maxHeartbeats 4000000
set_option synthInstance.maxHeartbeats 400000
set_option synthInstance.maxSize 4096
theorem good15 {els : AV} {E : List El} (hE : ERow els E) (hsm : E.length < 1000000000) : GoodK Tryz.prog ⟨15, [els, .fn 16 []], .bool (decide (idxR E ≥ 0))⟩ := by
  refine n_run (E := env1) (K := 1) (call := (lookK [⟨34, [els, .fn 16 []], I (idxR E)⟩])) env1_ok follows (lookK_sound (goods_one (good34 hE hsm))) (fn := Tryz.f15) (by kernel_rfl) rfl rfl rfl ?_
  show EV env1 _ _ (.seq _ (.seq _ _)) ⟨[els, .fn 16 []] ++ List.replicate 7 .undef, [], 0⟩ _
  generalize hsl : ([els, .fn 16 []] ++ List.replicate 7 AV.undef) = sl
  have hlen : GL sl 9 := ⟨by rw [← hsl]; rfl⟩
  have h0 : GT sl 0 els := ⟨by rw [← hsl]; rfl⟩
  have h1 : GT sl 1 (.fn 16 []) := ⟨by rw [← hsl]; rfl⟩
  clear hsl
  repeat (first | apply n_stp | refine n_add (by omega) ?_ | refine n_sub (by omega) ?_ | apply n_nil | refine n_region ?_ | refine n_region1 ?_ | refine n_assoc ?_ | refine n_skip ?_ | refine n_block ?_ | refine n_block1 ?_ | apply d_stp | refine d_add (by omega) ?_ | refine d_sub (by omega) ?_ | (apply d_nil; refine ⟨?zd, ?_⟩; (case zd => apply dr_reads; first | rfl | (simp; done))) | refine n_draw rfl ?_ | refine n_draw1 rfl ?_)
  (apply n_call ?zz; (case zz => exact lookK_ok anyF_head (by simp only [List.append_nil, mapO, frz_erow hE]; rfl) findK_head))
  repeat (first | apply n_stp | refine n_add (by omega) ?_ | refine n_sub (by omega) ?_ | apply n_nil | refine n_region ?_ | refine n_region1 ?_ | refine n_assoc ?_ | refine n_skip ?_ | refine n_block ?_ | refine n_block1 ?_ | apply d_stp | refine d_add (by omega) ?_ | refine d_sub (by omega) ?_ | (apply d_nil; refine ⟨?zd, ?_⟩; (case zd => apply dr_reads; first | rfl | (simp; done))) | refine n_draw rfl ?_ | refine n_draw1 rfl ?_)
  refine n_ret1 ?_
  (apply f_one rfl; rfl)

theorem good9 {a b : AV} {x : List Int} (ha : IRow a x) (hb : IRow b x) (hsm : x.length < 1000000000) : GoodK Tryz.prog ⟨9, [a, b], .bool true⟩ := by
  refine n_run (E := env1) (K := (x.length+1)) (call := (M.look [])) env1_ok follows look_nil (fn := Tryz.f9) (by kernel_rfl) rfl rfl rfl ?_
  show EV env1 _ _ (.seq _ (.seq _ _)) ⟨[a, b] ++ List.replicate 24 .undef, [], 0⟩ _
  generalize hsl : ([a, b] ++ List.replicate 24 AV.undef) = sl
  have hlen : GL sl 26 := ⟨by rw [← hsl]; rfl⟩
  have h0 : GT sl 0 a := ⟨by rw [← hsl]; rfl⟩
  have h1 : GT sl 1 b := ⟨by rw [← hsl]; rfl⟩
  clear hsl
  have hla := la33 ha
  have hlb := la33 hb
  repeat (first | apply n_stp | refine n_add (by omega) ?_ | refine n_sub (by omega) ?_ | apply n_nil | refine n_region ?_ | refine n_region1 ?_ | refine n_assoc ?_ | refine n_skip ?_ | refine n_block ?_ | refine n_block1 ?_ | apply d_stp | refine d_add (by omega) ?_ | refine d_sub (by omega) ?_ | (apply d_nil; refine ⟨?zd, ?_⟩; (case zd => apply dr_reads; first | rfl | (simp; done))) | refine n_draw rfl ?_ | refine n_draw1 rfl ?_)
  apply n_cond ((x.length : Int) != x.length) inferInstance
  · intro h; simp at h
  intro _
  repeat (first | apply n_stp | refine n_add (by omega) ?_ | refine n_sub (by omega) ?_ | apply n_nil | refine n_region ?_ | refine n_region1 ?_ | refine n_assoc ?_ | refine n_skip ?_ | refine n_block ?_ | refine n_block1 ?_ | apply d_stp | refine d_add (by omega) ?_ | refine d_sub (by omega) ?_ | (apply d_nil; refine ⟨?zd, ?_⟩; (case zd => apply dr_reads; first | rfl | (simp; done))) | refine n_draw rfl ?_ | refine n_draw1 rfl ?_)
  refine n_loop (fun i sl st => GL sl 26 ∧ st = [] ∧ GT sl 0 a ∧ GT sl 1 b ∧ GT sl 12 (I x.length) ∧ GT sl 13 (I i)) x.length (by omega) ?_ ?_
  · exact ⟨inferInstance, rfl, inferInstance, inferInstance, inferInstance, inferInstance⟩
  · rintro i sl st low hi ⟨hlen, hst, h0, h1, h7, h8⟩
    subst hst
    repeat (first | apply n_stp | refine n_add (by omega) ?_ | refine n_sub (by omega) ?_ | apply n_nil | refine n_region ?_ | refine n_region1 ?_ | refine n_assoc ?_ | refine n_skip ?_ | refine n_block ?_ | refine n_block1 ?_ | apply d_stp | refine d_add (by omega) ?_ | refine d_sub (by omega) ?_ | (apply d_nil; refine ⟨?zd, ?_⟩; (case zd => apply dr_reads; first | rfl | (simp; done))) | refine n_draw rfl ?_ | refine n_draw1 rfl ?_)
    apply n_cond (decide ((i : Int) < x.length)) inferInstance
    · intro hlt
      have hlt : i < x.length := by simpa using hlt
      have hia := ia33 ha hlt
      have hib := ia33 hb hlt
      repeat (first | apply n_stp | refine n_add (by omega) ?_ | refine n_sub (by omega) ?_ | apply n_nil | refine n_region ?_ | refine n_region1 ?_ | refine n_assoc ?_ | refine n_skip ?_ | refine n_block ?_ | refine n_block1 ?_ | apply d_stp | refine d_add (by omega) ?_ | refine d_sub (by omega) ?_ | (apply d_nil; refine ⟨?zd, ?_⟩; (case zd => apply dr_reads; first | rfl | (simp; done))) | refine n_draw rfl ?_ | refine n_draw1 rfl ?_)
      apply n_cond1 (x[i] != x[i]) inferInstance
      · intro h; simp at h
      · intro _
        refine n_skip1 (aft_next ?_)
        repeat (first | apply n_stp | refine n_add (by omega) ?_ | refine n_sub (by omega) ?_ | apply n_nil | refine n_region ?_ | refine n_region1 ?_ | refine n_assoc ?_ | refine n_skip ?_ | refine n_block ?_ | refine n_block1 ?_ | apply d_stp | refine d_add (by omega) ?_ | refine d_sub (by omega) ?_ | (apply d_nil; refine ⟨?zd, ?_⟩; (case zd => apply dr_reads; first | rfl | (simp; done))) | refine n_draw rfl ?_ | refine n_draw1 rfl ?_)
        refine rnd_next hlt ⟨inferInstance, rfl, inferInstance, inferInstance, inferInstance, ?_⟩
        rw [show ((i + 1 : Nat) : Int) = (i : Int) + 1 from rfl]; infer_instance
    · intro hge
      refine n_exit (rnd_exit (aft_exit ?_))
      repeat (first | apply n_stp | refine n_add (by omega) ?_ | refine n_sub (by omega) ?_ | apply n_nil | refine n_region ?_ | refine n_region1 ?_ | refine n_assoc ?_ | refine n_skip ?_ | refine n_block ?_ | refine n_block1 ?_ | apply d_stp | refine d_add (by omega) ?_ | refine d_sub (by omega) ?_ | (apply d_nil; refine ⟨?zd, ?_⟩; (case zd => apply dr_reads; first | rfl | (simp; done))) | refine n_draw rfl ?_ | refine n_draw1 rfl ?_)
      refine n_ret1 ?_
      (apply f_one rfl; rfl)
end Go.Proofs.YteaifkpmfbgekaaGreatDoor

namespace Go.Proofs.YteaifkpmfbgekaaGreatDoor
open Go M
set_option maxRecDepth 100000
set_option maxHeartbeats 4000000
set_option synthInstance.maxHeartbeats 400000
set_option synthInstance.maxSize 4096
def spec9 (f : FuncId) (cs : List AV) : Option AV :=
  if f = 9 then (match cs with
    | [a, b] => if AV.beq a b = true then (match dI a with | some x => if x.length < 1000000000 then some (.bool true) else none | none => none) else none
    | _ => none) else none
theorem spec9_ok (f : FuncId) (cs : List AV) (r : AV) (h : spec9 f cs = some r) : GoodK Tryz.prog ⟨f, cs, r⟩ := by
  unfold spec9 at h
  split at h
  · rename_i hf
    subst hf
    split at h
    · split at h
      · rename_i a b hb
        split at h
        · rename_i x hx
          split at h
          · rename_i hl
            cases h
            rw [← AV.eq_of_beq hb]
            exact good9 (dI_row hx) (dI_row hx) hl
          · cases h
        · cases h
      · cases h
    · cases h
  · cases h
theorem spec9_eq {a : AV} {x : List Int} (h : IRow a x) (hl : x.length < 1000000000) : spec9 9 [a, a] = some (.bool true) := by
  simp only [spec9, if_true, AV.beq_self, row_dI h, hl]

/-- A row of rows of integers. -/
def IIRow (v : AV) (L : List AV) : Prop := Row v 1 L.length L ∧ ∀ a ∈ L, ∃ x, IRow a x ∧ x.length < 1000000000
theorem la28 {v : AV} {L : List AV} (h : Row v 1 L.length L) : LA env1 28 v (I L.length) := la_of i28 h
theorem ia28 {v : AV} {L : List AV} (h : Row v 1 L.length L) {i : Nat} (hi : i < L.length) : IA env1 28 v (I i) (.iptr (L[i] :: L.drop (i + 1))) := by
  have := row_at i28 i33 (v := v) (n := L.length) (cells := L) h (by decide) (i := i) (by omega) (by omega)
  refine ⟨this.trans ?_⟩
  simp only [Int.toNat_natCast, Nat.mul_one]
  rw [List.drop_eq_getElem_cons hi]

theorem good8 {v : AV} {L : List AV} (h : IIRow v L) (hsm : L.length < 1000000000) : GoodK Tryz.prog ⟨8, [v, v, .fn 9 []], .bool true⟩ := by
  refine n_run (E := env1) (K := (L.length+1)) (call := (lookF spec9)) env1_ok follows (lookF_sound spec9_ok) (fn := Tryz.f8) (by kernel_rfl) rfl rfl rfl ?_
  show EV env1 _ _ (.seq _ (.seq _ _)) ⟨[v, v, .fn 9 []] ++ List.replicate 29 .undef, [], 0⟩ _
  generalize hsl : ([v, v, .fn 9 []] ++ List.replicate 29 AV.undef) = sl
  have hlen : GL sl 32 := ⟨by rw [← hsl]; rfl⟩
  have h0 : GT sl 0 v := ⟨by rw [← hsl]; rfl⟩
  have h1 : GT sl 1 v := ⟨by rw [← hsl]; rfl⟩
  have h2 : GT sl 2 (.fn 9 []) := ⟨by rw [← hsl]; rfl⟩
  clear hsl
  have hla := la28 h.1
  repeat (first | apply n_stp | refine n_add (by omega) ?_ | refine n_sub (by omega) ?_ | apply n_nil | refine n_region ?_ | refine n_region1 ?_ | refine n_assoc ?_ | refine n_skip ?_ | refine n_block ?_ | refine n_block1 ?_ | apply d_stp | refine d_add (by omega) ?_ | refine d_sub (by omega) ?_ | (apply d_nil; refine ⟨?zd, ?_⟩; (case zd => apply dr_reads; first | rfl | (simp; done))) | refine n_draw rfl ?_ | refine n_draw1 rfl ?_)
  apply n_cond ((L.length : Int) != L.length) inferInstance
  · intro h; simp at h
  intro _
  repeat (first | apply n_stp | refine n_add (by omega) ?_ | refine n_sub (by omega) ?_ | apply n_nil | refine n_region ?_ | refine n_region1 ?_ | refine n_assoc ?_ | refine n_skip ?_ | refine n_block ?_ | refine n_block1 ?_ | apply d_stp | refine d_add (by omega) ?_ | refine d_sub (by omega) ?_ | (apply d_nil; refine ⟨?zd, ?_⟩; (case zd => apply dr_reads; first | rfl | (simp; done))) | refine n_draw rfl ?_ | refine n_draw1 rfl ?_)
  refine n_loop (fun i sl st => GL sl 32 ∧ st = [] ∧ GT sl 0 v ∧ GT sl 1 v ∧ GT sl 2 (.fn 9 []) ∧ GT sl 15 v ∧ GT sl 16 (I L.length) ∧ GT sl 17 (I i)) L.length (by omega) ?_ ?_
  · exact ⟨inferInstance, rfl, inferInstance, inferInstance, inferInstance, inferInstance, inferInstance, inferInstance⟩
  · rintro i sl st low hi ⟨hlen, hst, h0, h1, h2, h15, h7, h8⟩
    subst hst
    repeat (first | apply n_stp | refine n_add (by omega) ?_ | refine n_sub (by omega) ?_ | apply n_nil | refine n_region ?_ | refine n_region1 ?_ | refine n_assoc ?_ | refine n_skip ?_ | refine n_block ?_ | refine n_block1 ?_ | apply d_stp | refine d_add (by omega) ?_ | refine d_sub (by omega) ?_ | (apply d_nil; refine ⟨?zd, ?_⟩; (case zd => apply dr_reads; first | rfl | (simp; done))) | refine n_draw rfl ?_ | refine n_draw1 rfl ?_)
    apply n_cond (decide ((i : Int) < L.length)) inferInstance
    · intro hlt
      have hlt : i < L.length := by simpa using hlt
      have hia := ia28 h.1 hlt
      obtain ⟨x, hx, hxl⟩ := h.2 L[i] (List.getElem_mem hlt)
      repeat (first | apply n_stp | refine n_add (by omega) ?_ | refine n_sub (by omega) ?_ | apply n_nil | refine n_region ?_ | refine n_region1 ?_ | refine n_assoc ?_ | refine n_skip ?_ | refine n_block ?_ | refine n_block1 ?_ | apply d_stp | refine d_add (by omega) ?_ | refine d_sub (by omega) ?_ | (apply d_nil; refine ⟨?zd, ?_⟩; (case zd => apply dr_reads; first | rfl | (simp; done))) | refine n_draw rfl ?_ | refine n_draw1 rfl ?_)
      (apply n_call ?zz; (case zz => exact lookF_ok (by simp only [List.append_nil, mapO, frz_irow hx] <;> rfl) (spec9_eq hx hxl)))
      repeat (first | apply n_stp | refine n_add (by omega) ?_ | refine n_sub (by omega) ?_ | apply n_nil | refine n_region ?_ | refine n_region1 ?_ | refine n_assoc ?_ | refine n_skip ?_ | refine n_block ?_ | refine n_block1 ?_ | apply d_stp | refine d_add (by omega) ?_ | refine d_sub (by omega) ?_ | (apply d_nil; refine ⟨?zd, ?_⟩; (case zd => apply dr_reads; first | rfl | (simp; done))) | refine n_draw rfl ?_ | refine n_draw1 rfl ?_)
      apply n_cond1 false inferInstance
      · intro h; simp at h
      · intro _
        refine n_skip1 (aft_next ?_)
        repeat (first | apply n_stp | refine n_add (by omega) ?_ | refine n_sub (by omega) ?_ | apply n_nil | refine n_region ?_ | refine n_region1 ?_ | refine n_assoc ?_ | refine n_skip ?_ | refine n_block ?_ | refine n_block1 ?_ | apply d_stp | refine d_add (by omega) ?_ | refine d_sub (by omega) ?_ | (apply d_nil; refine ⟨?zd, ?_⟩; (case zd => apply dr_reads; first | rfl | (simp; done))) | refine n_draw rfl ?_ | refine n_draw1 rfl ?_)
        refine rnd_next hlt ⟨inferInstance, rfl, inferInstance, inferInstance, inferInstance, inferInstance, inferInstance, ?_⟩
        rw [show ((i + 1 : Nat) : Int) = (i : Int) + 1 from rfl]; infer_instance
    · intro hge
      refine n_exit (rnd_exit (aft_exit ?_))
      repeat (first | apply n_stp | refine n_add (by omega) ?_ | refine n_sub (by omega) ?_ | apply n_nil | refine n_region ?_ | refine n_region1 ?_ | refine n_assoc ?_ | refine n_skip ?_ | refine n_block ?_ | refine n_block1 ?_ | apply d_stp | refine d_add (by omega) ?_ | refine d_sub (by omega) ?_ | (apply d_nil; refine ⟨?zd, ?_⟩; (case zd => apply dr_reads; first | rfl | (simp; done))) | refine n_draw rfl ?_ | refine n_draw1 rfl ?_)
      refine n_ret1 ?_
      (apply f_one rfl; rfl)
end Go.Proofs.YteaifkpmfbgekaaGreatDoor

namespace Go.Proofs.YteaifkpmfbgekaaGreatDoor
open Go M
set_option maxRecDepth 100000
set_option maxHeartbeats 4000000
set_option synthInstance.maxHeartbeats 400000
set_option synthInstance.maxSize 4096
abbrev Evt.ns (o : Evt) : List Int := o.2.1.getD []
abbrev Evt.es (o : Evt) : List Int := o.2.2.1.getD []
abbrev Evt.nv (o : Evt) : AV := (Ty.slice (.int .i64)).arg o.2.1
abbrev Evt.wv (o : Evt) : AV := (Ty.slice (.int .i64)).arg o.2.2.1
theorem row_one {v : AV} {k n : Nat} {c : List AV} (h : Row v k n c) : AV.one v = true := by
  rcases h with ⟨rfl, _⟩ | ⟨rfl, _⟩ <;> rfl
def few1 (n m : Int) : Prop := (n > 70 ∧ n ≤ 200) ∨ n > 260 ∨ (m > 14 ∧ m ≤ 30) ∨ m > 40
instance (n m : Int) : Decidable (few1 n m) := by unfold few1; infer_instance
def fewB (E : List El) (V : List Evt) : Bool := !decide (few1 E.length V.length) && V.all fun o => decide (((o.ns.length : Int) + o.es.length) ≤ 20)

theorem good5 {els evs : AV} {E : List El} {V : List Evt} (hE : ERow els E) (hV : VRow evs V) (hs2 : ∀ o ∈ V, o.ns.length + o.es.length < 4611686018427387904) : GoodK Tryz.prog ⟨5, [.agg [els, evs]], .bool (fewB E V)⟩ := by
  have ho1 : One els := ⟨row_one hE⟩
  have ho2 : One evs := ⟨row_one hV⟩
  refine n_run (E := env1) (K := (V.length+1)) (call := (M.look [])) env1_ok follows look_nil (fn := Tryz.f5) (by kernel_rfl) rfl rfl rfl ?_
  show EV env1 _ _ (.seq _ (.seq _ _)) ⟨[.agg [els, evs]] ++ List.replicate 54 .undef, [], 0⟩ _
  generalize hsl : ([.agg [els, evs]] ++ List.replicate 54 AV.undef) = sl
  have hlen : GL sl 55 := ⟨by rw [← hsl]; rfl⟩
  have h0 : GT sl 0 (.agg [els, evs]) := ⟨by rw [← hsl]; rfl⟩
  clear hsl
  have hlE := la22 hE
  have hlV := la23 hV
  repeat (first | apply n_stp | refine n_add (by omega) ?_ | refine n_sub (by omega) ?_ | apply n_nil | refine n_region ?_ | refine n_region1 ?_ | refine n_assoc ?_ | refine n_skip ?_ | refine n_block ?_ | refine n_block1 ?_ | apply d_stp | refine d_add (by omega) ?_ | refine d_sub (by omega) ?_ | (apply d_nil; refine ⟨?zd, ?_⟩; (case zd => apply dr_reads; first | rfl | (simp; done))) | refine n_draw rfl ?_ | refine n_draw1 rfl ?_)
  by_cases hf : few1 E.length V.length
  · have hr : fewB E V = false := by simp only [fewB, hf, decide_true, Bool.not_true, Bool.false_and]
    have h8 : ((Eqv (decide ((E.length : Int) > 70)) true ∧ Eqv (decide ((E.length : Int) ≤ 200)) true) ∨
        (Eqv (decide ((E.length : Int) > 70)) true ∧ Eqv (decide ((E.length : Int) ≤ 200)) false ∧ Eqv (decide ((E.length : Int) > 260)) true) ∨
        (Eqv (decide ((E.length : Int) > 70)) true ∧ Eqv (decide ((E.length : Int) ≤ 200)) false ∧ Eqv (decide ((E.length : Int) > 260)) false ∧ Eqv (decide ((V.length : Int) > 14)) true ∧ Eqv (decide ((V.length : Int) ≤ 30)) true) ∨
        (Eqv (decide ((E.length : Int) > 70)) false ∧ Eqv (decide ((E.length : Int) > 260)) false ∧ Eqv (decide ((V.length : Int) > 14)) true ∧ Eqv (decide ((V.length : Int) ≤ 30)) true)) ∨
        ((Eqv (decide ((E.length : Int) > 70)) true ∧ Eqv (decide ((E.length : Int) ≤ 200)) false ∧ Eqv (decide ((E.length : Int) > 260)) false ∧ Eqv (decide ((V.length : Int) > 14)) true ∧ Eqv (decide ((V.length : Int) ≤ 30)) false ∧ Eqv (decide ((V.length : Int) > 40)) true) ∨
        (Eqv (decide ((E.length : Int) > 70)) false ∧ Eqv (decide ((E.length : Int) > 260)) false ∧ Eqv (decide ((V.length : Int) > 14)) true ∧ Eqv (decide ((V.length : Int) ≤ 30)) false ∧ Eqv (decide ((V.length : Int) > 40)) true)) := by
      simp only [few1] at hf
      simp only [eqv_iff, decide_eq_true_eq, decide_eq_false_iff_not]
      omega
    rcases h8 with h8 | h8
    · rcases h8 with ⟨hA, hB⟩ | ⟨hA, hB, hC⟩ | ⟨hA, hB, hC, hD, hF⟩ | ⟨hA, hC, hD, hF⟩
      all_goals
        repeat (first | apply n_stp | refine n_add (by omega) ?_ | refine n_sub (by omega) ?_ | apply n_nil | refine n_region ?_ | refine n_region1 ?_ | refine n_assoc ?_ | refine n_skip ?_ | refine n_block ?_ | refine n_block1 ?_ | apply d_stp | refine d_add (by omega) ?_ | refine d_sub (by omega) ?_ | (apply d_nil; refine ⟨?zd, ?_⟩; (case zd => apply dr_reads; first | rfl | (simp; done))) | refine n_draw rfl ?_ | refine n_draw1 rfl ?_)
        apply n_cond true inferInstance
        · intro _
          repeat (first | apply n_stp | refine n_add (by omega) ?_ | refine n_sub (by omega) ?_ | apply n_nil | refine n_region ?_ | refine n_region1 ?_ | refine n_assoc ?_ | refine n_skip ?_ | refine n_block ?_ | refine n_block1 ?_ | apply d_stp | refine d_add (by omega) ?_ | refine d_sub (by omega) ?_ | (apply d_nil; refine ⟨?zd, ?_⟩; (case zd => apply dr_reads; first | rfl | (simp; done))) | refine n_draw rfl ?_ | refine n_draw1 rfl ?_)
          refine n_ret ?_
          rw [hr]
          (apply f_one rfl; rfl)
        · intro h; cases h
    · rcases h8 with ⟨hA, hB, hC, hD, hF, hG⟩ | ⟨hA, hC, hD, hF, hG⟩
      all_goals
        repeat (first | apply n_stp | refine n_add (by omega) ?_ | refine n_sub (by omega) ?_ | apply n_nil | refine n_region ?_ | refine n_region1 ?_ | refine n_assoc ?_ | refine n_skip ?_ | refine n_block ?_ | refine n_block1 ?_ | apply d_stp | refine d_add (by omega) ?_ | refine d_sub (by omega) ?_ | (apply d_nil; refine ⟨?zd, ?_⟩; (case zd => apply dr_reads; first | rfl | (simp; done))) | refine n_draw rfl ?_ | refine n_draw1 rfl ?_)
        apply n_cond (decide ((V.length : Int) > 40)) inferInstance
        · intro _
          repeat (first | apply n_stp | refine n_add (by omega) ?_ | refine n_sub (by omega) ?_ | apply n_nil | refine n_region ?_ | refine n_region1 ?_ | refine n_assoc ?_ | refine n_skip ?_ | refine n_block ?_ | refine n_block1 ?_ | apply d_stp | refine d_add (by omega) ?_ | refine d_sub (by omega) ?_ | (apply d_nil; refine ⟨?zd, ?_⟩; (case zd => apply dr_reads; first | rfl | (simp; done))) | refine n_draw rfl ?_ | refine n_draw1 rfl ?_)
          refine n_ret ?_
          rw [hr]
          (apply f_one rfl; rfl)
        · intro h; exact (tf_absurd hG.h h).elim
  · have h8 : (Eqv (decide ((E.length : Int) > 70)) true ∧ Eqv (decide ((E.length : Int) ≤ 200)) false ∧ Eqv (decide ((E.length : Int) > 260)) false ∧ Eqv (decide ((V.length : Int) > 14)) true ∧ Eqv (decide ((V.length : Int) ≤ 30)) false ∧ Eqv (decide ((V.length : Int) > 40)) false) ∨
        (Eqv (decide ((E.length : Int) > 70)) true ∧ Eqv (decide ((E.length : Int) ≤ 200)) false ∧ Eqv (decide ((E.length : Int) > 260)) false ∧ Eqv (decide ((V.length : Int) > 14)) false ∧ Eqv (decide ((V.length : Int) > 40)) false) ∨
        (Eqv (decide ((E.length : Int) > 70)) false ∧ Eqv (decide ((E.length : Int) > 260)) false ∧ Eqv (decide ((V.length : Int) > 14)) true ∧ Eqv (decide ((V.length : Int) ≤ 30)) false ∧ Eqv (decide ((V.length : Int) > 40)) false) ∨
        (Eqv (decide ((E.length : Int) > 70)) false ∧ Eqv (decide ((E.length : Int) > 260)) false ∧ Eqv (decide ((V.length : Int) > 14)) false ∧ Eqv (decide ((V.length : Int) > 40)) false) := by
      simp only [few1] at hf
      simp only [eqv_iff, decide_eq_true_eq, decide_eq_false_iff_not]
      omega
    have hsm : V.length < 1000000000 := by
      simp only [few1] at hf
      omega
    rcases h8 with ⟨hA, hB, hC, hD, hF, hG⟩ | ⟨hA, hB, hC, hD, hG⟩ | ⟨hA, hC, hD, hF, hG⟩ | ⟨hA, hC, hD, hG⟩
    all_goals
      repeat (first | apply n_stp | refine n_add (by omega) ?_ | refine n_sub (by omega) ?_ | apply n_nil | refine n_region ?_ | refine n_region1 ?_ | refine n_assoc ?_ | refine n_skip ?_ | refine n_block ?_ | refine n_block1 ?_ | apply d_stp | refine d_add (by omega) ?_ | refine d_sub (by omega) ?_ | (apply d_nil; refine ⟨?zd, ?_⟩; (case zd => apply dr_reads; first | rfl | (simp; done))) | refine n_draw rfl ?_ | refine n_draw1 rfl ?_)
      apply n_cond (decide ((V.length : Int) > 40)) inferInstance
      · intro h; exact (tf_absurd h hG.h).elim
      intro _
      repeat (first | apply n_stp | refine n_add (by omega) ?_ | refine n_sub (by omega) ?_ | apply n_nil | refine n_region ?_ | refine n_region1 ?_ | refine n_assoc ?_ | refine n_skip ?_ | refine n_block ?_ | refine n_block1 ?_ | apply d_stp | refine d_add (by omega) ?_ | refine d_sub (by omega) ?_ | (apply d_nil; refine ⟨?zd, ?_⟩; (case zd => apply dr_reads; first | rfl | (simp; done))) | refine n_draw rfl ?_ | refine n_draw1 rfl ?_)
      refine n_loop (fun i sl st => GL sl 55 ∧ st = [⟨2, 0, [els, evs]⟩] ∧ GT sl 1 (.ptr 0 0 0) ∧ GT sl 4 (I V.length) ∧ GT sl 5 (I i) ∧ ∀ j (hj : j < V.length), j < i → ((V[j].ns.length : Int) + V[j].es.length) ≤ 20) V.length (by omega) ?_ ?_
      · exact ⟨inferInstance, rfl, inferInstance, inferInstance, inferInstance, fun j hj h => by omega⟩
      rintro i sl st low hi ⟨hlen, hst, h1, h4, h5, hall⟩
      subst hst
      repeat (first | apply n_stp | refine n_add (by omega) ?_ | refine n_sub (by omega) ?_ | apply n_nil | refine n_region ?_ | refine n_region1 ?_ | refine n_assoc ?_ | refine n_skip ?_ | refine n_block ?_ | refine n_block1 ?_ | apply d_stp | refine d_add (by omega) ?_ | refine d_sub (by omega) ?_ | (apply d_nil; refine ⟨?zd, ?_⟩; (case zd => apply dr_reads; first | rfl | (simp; done))) | refine n_draw rfl ?_ | refine n_draw1 rfl ?_)
      apply n_cond (decide ((i : Int) < V.length)) inferInstance
      · intro hlt
        have hlt : i < V.length := by simpa using hlt
        have hia := ia23 hV hlt
        have hln := la33 (irow_arg V[i].2.1)
        have hle := la33 (irow_arg V[i].2.2.1)
        have hb : (V[i].2.1.getD []).length + (V[i].2.2.1.getD []).length < 4611686018427387904 := hs2 V[i] (List.getElem_mem hlt)
        repeat (first | apply n_stp | refine n_add (by omega) ?_ | refine n_sub (by omega) ?_ | apply n_nil | refine n_region ?_ | refine n_region1 ?_ | refine n_assoc ?_ | refine n_skip ?_ | refine n_block ?_ | refine n_block1 ?_ | apply d_stp | refine d_add (by omega) ?_ | refine d_sub (by omega) ?_ | (apply d_nil; refine ⟨?zd, ?_⟩; (case zd => apply dr_reads; first | rfl | (simp; done))) | refine n_draw rfl ?_ | refine n_draw1 rfl ?_)
        apply n_cond1 (decide (((V[i].ns.length : Int) + V[i].es.length) > 20)) inferInstance
        · intro hgt
          have hgt : ¬ ((V[i].ns.length : Int) + V[i].es.length) ≤ 20 := by simpa using hgt
          repeat (first | apply n_stp | refine n_add (by omega) ?_ | refine n_sub (by omega) ?_ | apply n_nil | refine n_region ?_ | refine n_region1 ?_ | refine n_assoc ?_ | refine n_skip ?_ | refine n_block ?_ | refine n_block1 ?_ | apply d_stp | refine d_add (by omega) ?_ | refine d_sub (by omega) ?_ | (apply d_nil; refine ⟨?zd, ?_⟩; (case zd => apply dr_reads; first | rfl | (simp; done))) | refine n_draw rfl ?_ | refine n_draw1 rfl ?_)
          refine n_ret1 (aft_ret (rnd_ret (aft_ret ?_)))
          have hr : fewB E V = false := by
            unfold fewB
            rw [Bool.and_eq_false_iff]
            refine .inr ?_
            rw [List.all_eq_false]
            exact ⟨V[i], List.getElem_mem hlt, by simpa using hgt⟩
          rw [hr]
          (apply f_one rfl; rfl)
        · intro hgt
          have hgt : ((V[i].ns.length : Int) + V[i].es.length) ≤ 20 := by simpa using hgt
          refine n_skip1 (aft_next ?_)
          repeat (first | apply n_stp | refine n_add (by omega) ?_ | refine n_sub (by omega) ?_ | apply n_nil | refine n_region ?_ | refine n_region1 ?_ | refine n_assoc ?_ | refine n_skip ?_ | refine n_block ?_ | refine n_block1 ?_ | apply d_stp | refine d_add (by omega) ?_ | refine d_sub (by omega) ?_ | (apply d_nil; refine ⟨?zd, ?_⟩; (case zd => apply dr_reads; first | rfl | (simp; done))) | refine n_draw rfl ?_ | refine n_draw1 rfl ?_)
          refine rnd_next hlt ⟨inferInstance, rfl, inferInstance, inferInstance, ?_, ?_⟩
          · rw [show ((i + 1 : Nat) : Int) = (i : Int) + 1 from rfl]; infer_instance
          · intro j hj hji
            rcases Nat.lt_or_ge j i with h | h
            · exact hall j hj h
            · have : j = i := by omega
              subst this; exact hgt
      · intro hge
        have hge : ¬ i < V.length := by simpa using hge
        refine n_exit (rnd_exit (aft_exit ?_))
        repeat (first | apply n_stp | refine n_add (by omega) ?_ | refine n_sub (by omega) ?_ | apply n_nil | refine n_region ?_ | refine n_region1 ?_ | refine n_assoc ?_ | refine n_skip ?_ | refine n_block ?_ | refine n_block1 ?_ | apply d_stp | refine d_add (by omega) ?_ | refine d_sub (by omega) ?_ | (apply d_nil; refine ⟨?zd, ?_⟩; (case zd => apply dr_reads; first | rfl | (simp; done))) | refine n_draw rfl ?_ | refine n_draw1 rfl ?_)
        refine n_ret1 ?_
        have hr : fewB E V = true := by
          unfold fewB
          rw [Bool.and_eq_true, List.all_eq_true]
          refine ⟨by simpa using hf, fun o ho => ?_⟩
          obtain ⟨j, hj, rfl⟩ := List.getElem_of_mem ho
          exact decide_eq_true (hall j hj (by omega))
        rw [hr]
        (apply f_one rfl; rfl)
end Go.Proofs.YteaifkpmfbgekaaGreatDoor
