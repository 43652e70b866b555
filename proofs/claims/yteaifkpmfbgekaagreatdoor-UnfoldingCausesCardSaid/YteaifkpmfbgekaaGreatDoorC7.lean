/- Proved: the card of UnfoldingCauses: for every input the law returns true, and its input reads afterwards as it did. Conditions: the row's own: the table of math/bits is as the program lays it, and each slice of the input takes at most 2^47 - 4096 bytes. -/
import Derived.Test.YteaifkpmfbgekaaGreatDoorRows
import Derived.JoinedCond
import Derived.KernelRfl
import Derived.Test.YteaifkpmfbgekaaGreatDoorC2
import Derived.Test.YteaifkpmfbgekaaGreatDoorK5
import Derived.Test.YteaifkpmfbgekaaGreatDoorC3
import Derived.Test.YteaifkpmfbgekaaGreatDoorC6
import Derived.Test.YteaifkpmfbgekaaGreatDoorB5
import Derived.Test.YteaifkpmfbgekaaGreatDoorCards
import Derived.Test.YteaifkpmfbgekaaGreatDoorTie
import Derived.WalkKit
import Derived.ProofKit
import Derived.OpenShut
import Derived.Deep.DeepHandedRow
import Derived.Lib.LaidTab
set_option linter.all false
set_option linter.deprecated false
namespace Go.Proofs.YteaifkpmfbgekaaGreatDoor.unfoldingCauses
open Go
set_option maxRecDepth 100000
theorem a1 : laidOutB Tryz.prog = true := by kernel_rfl
theorem a2 : mapsRowed Tryz.prog = true := by kernel_rfl
theorem a3 : Tryz.prog.stopsHeard = true := by kernel_rfl
theorem a4 : Tryz.prog.mayEnter = true := by kernel_rfl
theorem a5 : (Rows.unfoldingCausesRow.plainKeys == Tryz.prog.plainKeys) = true := by kernel_rfl
theorem a6 : (Rows.unfoldingCausesRow.lifted == Tryz.prog.liftsFinal) = true := by kernel_rfl
theorem a7 : (Rows.unfoldingCausesRow.inPlace == Tryz.prog.inPlace 3) = true := by kernel_rfl
theorem a8 : (Rows.unfoldingCausesRow.unfollowed == Tryz.prog.unfollowed 3) = true := by kernel_rfl
theorem a9 : (Rows.unfoldingCausesRow.recurses == Tryz.prog.recurses 3) = true := by kernel_rfl
theorem a10 : (Rows.unfoldingCausesRow.named == Tryz.prog.varsNamed 3) = true := by kernel_rfl
end Go.Proofs.YteaifkpmfbgekaaGreatDoor.unfoldingCauses

namespace Go.Proofs.YteaifkpmfbgekaaGreatDoor
open Go M
set_option maxRecDepth 100000
set_option maxHeartbeats 4000000
set_option synthInstance.maxHeartbeats 400000
set_option synthInstance.maxSize 4096
theorem frz_iirow {st : List Blk} {n d : Nat} {v : AV} {L : List AV} (h : IIRow v L) : frzA st n (d + 2) v = some v := frz_row h.1 fun a ha => by
  obtain ⟨x, hx, _⟩ := h.2 a ha
  exact frz_irow hx
theorem frz_u {st : List Blk} {n d : Nat} {els evs : AV} {E : List El} {V : List Evt} (hE : ERow els E) (hV : VRow evs V) : frzA st n (d + 3) (.agg [els, evs]) = some (.agg [els, evs]) :=
  frz_agg (mapO_id fun z hz => by
    rcases List.mem_cons.1 hz with rfl | hz
    · exact frz_erow hE
    · rw [List.mem_singleton.1 hz]; exact frz_vrow hV)
theorem frzs1 {st : List Blk} {v : AV} (h : frzA st 0 12 v = some v) : mapO (frzA st 0 12) ([v] ++ []) = some [v] := by simp only [List.append_nil, mapO, h]

theorem run3 {els evs x : AV} {e : Int} {L : List AV} {E : List El} {V : List Evt} (hE : ERow els E) (hV : VRow evs V) (hs2 : ∀ o ∈ V, o.ns.length + o.es.length < 4611686018427387904)
    (h67 : fewB E V = true → GoodK Tryz.prog ⟨6, [.agg [els, evs]], .tup [x, I e]⟩ ∧ GoodK Tryz.prog ⟨7, [.agg [els, evs]], .tup [x, I e]⟩ ∧ IIRow x L ∧ L.length < 1000000000) :
    ∃ call, SoundCall Tryz.prog call ∧ ∃ st low, call 3 [.agg [els, evs]] [] = some (.bool true, st, low) := by
  have g5 := good5 hE hV hs2
  have ho1 : One els := ⟨row_one hE⟩
  have ho2 : One evs := ⟨row_one hV⟩
  cases hf : fewB E V with
  | false =>
    rw [hf] at g5
    refine ⟨callS env1 1 (lookK [k428, ⟨5, [.agg [els, evs]], .bool false⟩]), callS_sound env1_ok (fun _ h => draw_sound h env1_ok.types follows) 1 (lookK_sound (goods_cons g428 (goods_one g5))), ?_⟩
    have key : Yes (callS env1 1 (lookK [k428, ⟨5, [.agg [els, evs]], .bool false⟩]) 3 [.agg [els, evs]] []) fun r => ∃ st low, r = (.bool true, st, low) := by
      refine callS_ev (fn := Tryz.f3) (by kernel_rfl) rfl rfl (EV.out ?_)
      show EV env1 _ _ (.seq _ (.seq _ _)) ⟨[.agg [els, evs]] ++ List.replicate 32 .undef, [], 0⟩ _
      generalize hsl : ([.agg [els, evs]] ++ List.replicate 32 AV.undef) = sl
      have hlen : GL sl 33 := ⟨by rw [← hsl]; rfl⟩
      have h0 : GT sl 0 (.agg [els, evs]) := ⟨by rw [← hsl]; rfl⟩
      clear hsl
      repeat (first | apply n_stp | refine n_add (by omega) ?_ | refine n_sub (by omega) ?_ | apply n_nil | refine n_region ?_ | refine n_region1 ?_ | refine n_assoc ?_ | refine n_skip ?_ | refine n_block ?_ | refine n_block1 ?_ | apply d_stp | refine d_add (by omega) ?_ | refine d_sub (by omega) ?_ | (apply d_nil; refine ⟨?zd, ?_⟩; (case zd => apply dr_reads; first | rfl | (simp; done))) | refine n_draw rfl ?_ | refine n_draw1 rfl ?_)
      repeat (first | apply n_stp | refine n_add (by omega) ?_ | refine n_sub (by omega) ?_ | apply n_nil | refine n_region ?_ | refine n_region1 ?_ | refine n_assoc ?_ | refine n_skip ?_ | refine n_block ?_ | refine n_block1 ?_ | apply d_stp | refine d_add (by omega) ?_ | refine d_sub (by omega) ?_ | (apply d_nil; refine ⟨?zd, ?_⟩; (case zd => apply dr_reads; first | rfl | (simp; done))) | refine n_draw rfl ?_ | refine n_draw1 rfl ?_)
      (apply n_call ?zz; (case zz => exact lookK_ok (r := .bool true) rfl rfl rfl))
      repeat (first | apply n_stp | refine n_add (by omega) ?_ | refine n_sub (by omega) ?_ | apply n_nil | refine n_region ?_ | refine n_region1 ?_ | refine n_assoc ?_ | refine n_skip ?_ | refine n_block ?_ | refine n_block1 ?_ | apply d_stp | refine d_add (by omega) ?_ | refine d_sub (by omega) ?_ | (apply d_nil; refine ⟨?zd, ?_⟩; (case zd => apply dr_reads; first | rfl | (simp; done))) | refine n_draw rfl ?_ | refine n_draw1 rfl ?_)
      (apply n_call ?zz; (case zz => exact lookK_ok rfl (frzs1 (frz_u hE hV)) ((findK_tail rfl).trans findK_head)))
      repeat (first | apply n_stp | refine n_add (by omega) ?_ | refine n_sub (by omega) ?_ | apply n_nil | refine n_region ?_ | refine n_region1 ?_ | refine n_assoc ?_ | refine n_skip ?_ | refine n_block ?_ | refine n_block1 ?_ | apply d_stp | refine d_add (by omega) ?_ | refine d_sub (by omega) ?_ | (apply d_nil; refine ⟨?zd, ?_⟩; (case zd => apply dr_reads; first | rfl | (simp; done))) | refine n_draw rfl ?_ | refine n_draw1 rfl ?_)
      apply n_cond true inferInstance
      · intro _
        repeat (first | apply n_stp | refine n_add (by omega) ?_ | refine n_sub (by omega) ?_ | apply n_nil | refine n_region ?_ | refine n_region1 ?_ | refine n_assoc ?_ | refine n_skip ?_ | refine n_block ?_ | refine n_block1 ?_ | apply d_stp | refine d_add (by omega) ?_ | refine d_sub (by omega) ?_ | (apply d_nil; refine ⟨?zd, ?_⟩; (case zd => apply dr_reads; first | rfl | (simp; done))) | refine n_draw rfl ?_ | refine n_draw1 rfl ?_)
        (apply n_call ?zz; (case zz => exact lookK_ok (r := .bool true) rfl rfl rfl))
        repeat (first | apply n_stp | refine n_add (by omega) ?_ | refine n_sub (by omega) ?_ | apply n_nil | refine n_region ?_ | refine n_region1 ?_ | refine n_assoc ?_ | refine n_skip ?_ | refine n_block ?_ | refine n_block1 ?_ | apply d_stp | refine d_add (by omega) ?_ | refine d_sub (by omega) ?_ | (apply d_nil; refine ⟨?zd, ?_⟩; (case zd => apply dr_reads; first | rfl | (simp; done))) | refine n_draw rfl ?_ | refine n_draw1 rfl ?_)
        refine n_ret ?_
        apply fin1R rfl ?hv ?hR
        case hv => infer_instance
        case hR => exact ⟨_, _, rfl⟩
      · intro h; cases h
    obtain ⟨r, h, st, low, rfl⟩ := key
    exact ⟨st, low, h⟩
  | true =>
    rw [hf] at g5
    obtain ⟨g6, g7, hx, hxl⟩ := h67 hf
    have g8 := good8 hx hxl
    refine ⟨callS env1 1 (lookK [k428, ⟨5, [.agg [els, evs]], .bool true⟩, ⟨6, [.agg [els, evs]], .tup [x, I e]⟩, ⟨7, [.agg [els, evs]], .tup [x, I e]⟩, ⟨8, [x, x, .fn 9 []], .bool true⟩]), callS_sound env1_ok (fun _ h => draw_sound h env1_ok.types follows) 1 (lookK_sound (goods_cons g428 (goods_cons g5 (goods_cons g6 (goods_cons g7 (goods_one g8)))))), ?_⟩
    have key : Yes (callS env1 1 (lookK [k428, ⟨5, [.agg [els, evs]], .bool true⟩, ⟨6, [.agg [els, evs]], .tup [x, I e]⟩, ⟨7, [.agg [els, evs]], .tup [x, I e]⟩, ⟨8, [x, x, .fn 9 []], .bool true⟩]) 3 [.agg [els, evs]] []) fun r => ∃ st low, r = (.bool true, st, low) := by
      refine callS_ev (fn := Tryz.f3) (by kernel_rfl) rfl rfl (EV.out ?_)
      show EV env1 _ _ (.seq _ (.seq _ _)) ⟨[.agg [els, evs]] ++ List.replicate 32 .undef, [], 0⟩ _
      generalize hsl : ([.agg [els, evs]] ++ List.replicate 32 AV.undef) = sl
      have hlen : GL sl 33 := ⟨by rw [← hsl]; rfl⟩
      have h0 : GT sl 0 (.agg [els, evs]) := ⟨by rw [← hsl]; rfl⟩
      clear hsl
      repeat (first | apply n_stp | refine n_add (by omega) ?_ | refine n_sub (by omega) ?_ | apply n_nil | refine n_region ?_ | refine n_region1 ?_ | refine n_assoc ?_ | refine n_skip ?_ | refine n_block ?_ | refine n_block1 ?_ | apply d_stp | refine d_add (by omega) ?_ | refine d_sub (by omega) ?_ | (apply d_nil; refine ⟨?zd, ?_⟩; (case zd => apply dr_reads; first | rfl | (simp; done))) | refine n_draw rfl ?_ | refine n_draw1 rfl ?_)
      repeat (first | apply n_stp | refine n_add (by omega) ?_ | refine n_sub (by omega) ?_ | apply n_nil | refine n_region ?_ | refine n_region1 ?_ | refine n_assoc ?_ | refine n_skip ?_ | refine n_block ?_ | refine n_block1 ?_ | apply d_stp | refine d_add (by omega) ?_ | refine d_sub (by omega) ?_ | (apply d_nil; refine ⟨?zd, ?_⟩; (case zd => apply dr_reads; first | rfl | (simp; done))) | refine n_draw rfl ?_ | refine n_draw1 rfl ?_)
      (apply n_call ?zz; (case zz => exact lookK_ok (r := .bool true) rfl rfl rfl))
      repeat (first | apply n_stp | refine n_add (by omega) ?_ | refine n_sub (by omega) ?_ | apply n_nil | refine n_region ?_ | refine n_region1 ?_ | refine n_assoc ?_ | refine n_skip ?_ | refine n_block ?_ | refine n_block1 ?_ | apply d_stp | refine d_add (by omega) ?_ | refine d_sub (by omega) ?_ | (apply d_nil; refine ⟨?zd, ?_⟩; (case zd => apply dr_reads; first | rfl | (simp; done))) | refine n_draw rfl ?_ | refine n_draw1 rfl ?_)
      (apply n_call ?zz; (case zz => exact lookK_ok rfl (frzs1 (frz_u hE hV)) ((findK_tail rfl).trans findK_head)))
      repeat (first | apply n_stp | refine n_add (by omega) ?_ | refine n_sub (by omega) ?_ | apply n_nil | refine n_region ?_ | refine n_region1 ?_ | refine n_assoc ?_ | refine n_skip ?_ | refine n_block ?_ | refine n_block1 ?_ | apply d_stp | refine d_add (by omega) ?_ | refine d_sub (by omega) ?_ | (apply d_nil; refine ⟨?zd, ?_⟩; (case zd => apply dr_reads; first | rfl | (simp; done))) | refine n_draw rfl ?_ | refine n_draw1 rfl ?_)
      apply n_cond false inferInstance
      · intro h; cases h
      intro _
      have hee : Eqv (e == e) true := ⟨by simp⟩
      repeat (first | apply n_stp | refine n_add (by omega) ?_ | refine n_sub (by omega) ?_ | apply n_nil | refine n_region ?_ | refine n_region1 ?_ | refine n_assoc ?_ | refine n_skip ?_ | refine n_block ?_ | refine n_block1 ?_ | apply d_stp | refine d_add (by omega) ?_ | refine d_sub (by omega) ?_ | (apply d_nil; refine ⟨?zd, ?_⟩; (case zd => apply dr_reads; first | rfl | (simp; done))) | refine n_draw rfl ?_ | refine n_draw1 rfl ?_)
      (apply n_call ?zz; (case zz => exact lookK_ok rfl (frzs1 (frz_u hE hV)) ((findK_tail rfl).trans ((findK_tail rfl).trans findK_head))))
      repeat (first | apply n_stp | refine n_add (by omega) ?_ | refine n_sub (by omega) ?_ | apply n_nil | refine n_region ?_ | refine n_region1 ?_ | refine n_assoc ?_ | refine n_skip ?_ | refine n_block ?_ | refine n_block1 ?_ | apply d_stp | refine d_add (by omega) ?_ | refine d_sub (by omega) ?_ | (apply d_nil; refine ⟨?zd, ?_⟩; (case zd => apply dr_reads; first | rfl | (simp; done))) | refine n_draw rfl ?_ | refine n_draw1 rfl ?_)
      (apply n_call ?zz; (case zz => exact lookK_ok rfl (frzs1 (frz_u hE hV)) ((findK_tail rfl).trans ((findK_tail rfl).trans ((findK_tail rfl).trans findK_head)))))
      repeat (first | apply n_stp | refine n_add (by omega) ?_ | refine n_sub (by omega) ?_ | apply n_nil | refine n_region ?_ | refine n_region1 ?_ | refine n_assoc ?_ | refine n_skip ?_ | refine n_block ?_ | refine n_block1 ?_ | apply d_stp | refine d_add (by omega) ?_ | refine d_sub (by omega) ?_ | (apply d_nil; refine ⟨?zd, ?_⟩; (case zd => apply dr_reads; first | rfl | (simp; done))) | refine n_draw rfl ?_ | refine n_draw1 rfl ?_)
      (apply n_call ?zz; (case zz => exact lookK_ok rfl (by simp only [List.append_nil, mapO, frz_iirow hx]; rfl) ((findK_tail rfl).trans ((findK_tail rfl).trans ((findK_tail rfl).trans ((findK_tail rfl).trans findK_head))))))
      repeat (first | apply n_stp | refine n_add (by omega) ?_ | refine n_sub (by omega) ?_ | apply n_nil | refine n_region ?_ | refine n_region1 ?_ | refine n_assoc ?_ | refine n_skip ?_ | refine n_block ?_ | refine n_block1 ?_ | apply d_stp | refine d_add (by omega) ?_ | refine d_sub (by omega) ?_ | (apply d_nil; refine ⟨?zd, ?_⟩; (case zd => apply dr_reads; first | rfl | (simp; done))) | refine n_draw rfl ?_ | refine n_draw1 rfl ?_)
      refine n_ret1 ?_
      apply fin1R rfl ?hv ?hR
      case hv => infer_instance
      case hR => exact ⟨_, _, rfl⟩
    obtain ⟨r, h, st, low, rfl⟩ := key
    exact ⟨st, low, h⟩
end Go.Proofs.YteaifkpmfbgekaaGreatDoor

namespace Go.Proofs.YteaifkpmfbgekaaGreatDoor.unfoldingCauses
open Go Go.ChangeShapes Go.WideShapes Go.ChangeAt Go.RowKit M
set_option maxRecDepth 100000
abbrev tyU : Ty := .fld (.fld (.slice tyEl) (.fld (.slice tyEv) .fin)) .fin
theorem tyU_chk : tyU.chks Tryz.prog Tryz.f3.params.toList = true := by kernel_rfl
theorem own : ownKnob Tryz.prog.godebug = none := by kernel_rfl
theorem gTab : Tryz.prog.globalNamed "math/bits.deBruijn64tab" = some 0 := by kernel_rfl
theorem gTabType : (Tryz.prog.globals[0]?).map (·.type) = some 189 := by kernel_rfl
theorem cells189 : Tryz.prog.cellsOf 189 = 64 := by kernel_rfl
theorem cells5 : Tryz.prog.cellsOf 5 = 1 := by kernel_rfl
def tab64 : List Int := [0, 1, 56, 2, 57, 49, 28, 3, 61, 58, 42, 50, 38, 29, 17, 4, 62, 47, 59, 36, 45, 43, 51, 22, 53, 39, 33, 30, 24, 18, 12, 5,
    63, 55, 48, 27, 60, 41, 37, 16, 46, 35, 44, 21, 52, 32, 23, 11, 54, 26, 40, 15, 34, 20, 31, 10, 25, 14, 19, 9, 13, 8, 7, 6]
theorem table {W : World} (h : laidMetH Tryz.prog Rows.unfoldingCausesRow.laid W) : Lib.TabIs Tryz.prog W "math/bits.deBruijn64tab" .u8 tab64 :=
  Lib.tabIs_of_head (rest := []) gTab gTabType (by kernel_rfl) (by kernel_rfl) cells5 cells189 h
theorem globs_rel {W : World} (h : laidMetH Tryz.prog Rows.unfoldingCausesRow.laid W) (g : Nat) (l : List AV) (hg : globs g = some l) : Rel noT noM W (.iptr l) (.pointer (some ⟨g, 0, Option.none⟩)) := by
  unfold globs at hg
  split at hg
  · rename_i h0
    subst h0
    cases hg
    exact glob_of_tab (table h) gTab
  · cases hg

theorem few_small {E : List El} {V : List Evt} (h : fewB E V = true) : E.length < 1000000 ∧ V.length < 1000 ∧ ∀ o ∈ V, (Evt.ns o).length + (Evt.es o).length < 900 := by
  unfold fewB at h
  rw [Bool.and_eq_true, List.all_eq_true] at h
  obtain ⟨h1, h2⟩ := h
  have h1 : ¬ few1 E.length V.length := by simpa using h1
  unfold few1 at h1
  refine ⟨by omega, by omega, fun o ho => ?_⟩
  have := of_decide_eq_true (h2 o ho)
  omega
theorem causes_rows (E : List El) (V : List Evt) (hV : V.length < 1000) : ∃ L, IIRow (causesR E V).1 L ∧ L.length < 1000000000 := by
  unfold causesR
  split
  · refine ⟨(rowsN E V V.length).map resI, ⟨?_, fun a ha => ?_⟩, by rw [List.length_map, rowsN_len]; omega⟩
    · simp only [resL]
      split
      · rename_i h
        rw [h]
        exact .inl ⟨rfl, rfl, rfl⟩
      · exact .inr ⟨rfl, by simp⟩
    · obtain ⟨l, hl, rfl⟩ := List.mem_map.1 ha
      obtain ⟨j, hj, rfl⟩ := List.getElem_of_mem hl
      refine ⟨_, irow_res _, ?_⟩
      have := row_len E V V.length j
      rw [List.getD_eq_getElem?_getD, List.getElem?_eq_getElem hj] at this
      simp only [Option.getD_some] at this
      omega
  · exact ⟨[], ⟨.inl ⟨rfl, rfl, rfl⟩, fun a ha => by cases ha⟩, by decide⟩
theorem row_sl {t : Ty} (x : Option (List t.den)) : Row ((Ty.slice t).arg x) t.size (x.getD []).length ((x.getD []).flatMap t.enc) := by
  cases x with
  | none => exact .inl ⟨rfl, rfl, rfl⟩
  | some l => exact .inr ⟨rfl, Ty.encs_len l⟩
/-- What the law comes to at every reading of no more than so many values. -/
theorem heval (y : tyU.den) (_ : tyU.ok y) (hw : tyU.wi reachBytes y) : ∃ call, SoundCall Tryz.prog call ∧ ∃ st low, call 3 (tyU.args y) [] = some (.bool true, st, low) := by
  obtain ⟨⟨oe, ov, ⟨⟩⟩, ⟨⟩⟩ := y
  obtain ⟨⟨hwe, hwv, _⟩, _⟩ := hw
  have hE : ERow ((Ty.slice tyEl).arg oe) (oe.getD []) := row_sl oe
  have hV : VRow ((Ty.slice tyEv).arg ov) (ov.getD []) := row_sl ov
  have hVe : ∀ o ∈ ov.getD [], (Evt.ns o).length + (Evt.es o).length ≤ 2 * reachBytes := fun o ho => by
    cases ov with
    | none => cases ho
    | some l =>
      have h := hwv.2 o ho
      obtain ⟨r, a, b, u⟩ := o
      obtain ⟨_, ha, hb, _⟩ := h
      have h1 : (a.getD []).length ≤ reachBytes := by
        cases a with
        | none => exact Nat.zero_le _
        | some l => exact ha.1
      have h2 : (b.getD []).length ≤ reachBytes := by
        cases b with
        | none => exact Nat.zero_le _
        | some l => exact hb.1
      show (a.getD []).length + (b.getD []).length ≤ 2 * reachBytes
      omega
  generalize oe.getD [] = E at hE
  generalize ov.getD [] = V at hV hVe
  have hs2 : ∀ o ∈ V, (Evt.ns o).length + (Evt.es o).length < 4611686018427387904 := fun o ho => Nat.lt_of_le_of_lt (hVe o ho) (by decide)
  have hargs : tyU.args ((oe, ov, ()), ()) = [.agg [(Ty.slice tyEl).arg oe, (Ty.slice tyEv).arg ov]] := by
    cases oe <;> cases ov <;> rfl
  rw [hargs]
  generalize (Ty.slice tyEl).arg oe = els at hE
  generalize (Ty.slice tyEv).arg ov = evs at hV
  by_cases hf : fewB E V = true
  · obtain ⟨h1, h2, h3⟩ := few_small hf
    obtain ⟨L, hL, hLl⟩ := causes_rows E V h2
    exact run3 (L := L) hE hV hs2 fun _ =>
      ⟨good6 hE hV h1 h2 h3, good7 hE hV h1 (by omega) (fun o ho => Nat.lt_trans (h3 o ho) (by decide)), hL, hLl⟩
  · exact run3 (x := .nils) (e := 0) (L := []) hE hV hs2 fun h => absurd h hf
theorem weights_app {H : Type} {P : Program} {z : Nat} : ∀ {ts : List TypeId} {ds : List (DataW H)} (us : List TypeId) (gs : List (DataW H)), z ∈ DataW.weightsEach P ts ds → z ∈ DataW.weightsEach P (ts ++ us) (ds ++ gs)
  | [], ds, us, gs, h => by cases ds <;> cases h
  | _ :: _, [], us, gs, h => by cases h
  | t :: ts, d :: ds, us, gs, h => by
    simp only [List.cons_append, DataW.weightsEach, List.mem_append] at h ⊢
    exact h.imp_right (weights_app us gs)
theorem contract (H : Type) (enc : TypeId × Value → H) (W : World) (base : Nat) (args : Array Value) (ds gs : List (DataW H)) (before : List MemPlace)
    (hval : ∀ (j : Nat) t v, Tryz.f3.params[j]? = some t → args[j]? = some v → Value.okWide Tryz.prog W .any base t v)
    (hW : DataW.Whole enc Tryz.prog Tryz.f3.params.toList Rows.unfoldingCausesSpec.vars false W args.toList ds gs before) (hL : laidMetH Tryz.prog Rows.unfoldingCausesRow.laid W) (hN : ∀ z ∈ DataW.weightsEach Tryz.prog Tryz.f3.params.toList ds, z ≤ reachBytes) :
    Calls Tryz.prog 3 args W fun e W' => ∃ v, e = .returned v ∧ Rows.unfoldingCausesSpec.post enc Tryz.prog Tryz.f3 false true false false W args v W' := by
  have hspec : ∀ (H : Type) (ds : List (DataW H)), ds.length = Tryz.f3.params.toList.length → Rows.unfoldingCausesSpec.fn H ds = { results := [.lit (.bool true)], args := ds } := by
    intro H ds hl
    have h1 : Tryz.f3.params.toList.length = 1 := by kernel_rfl
    rw [h1] at hl
    match ds, hl with
    | [d], _ => rfl
  exact law_contractE laid_out tyU tyU_chk (tb := 4) (by kernel_rfl) (by kernel_rfl) rfl hspec heval hval hW hN (globs_rel hL)

noncomputable def laidWorld (os : Os) : World :=
  { World.holding Tryz.prog os ⟨#[], #[], []⟩ with heap := (World.holding Tryz.prog os ⟨#[], #[], []⟩).heap.modify 0 fun
      | .cells _ t frozen => .cells (tab64.map fun n => Value.int .u8 n).toArray t frozen
      | o => o }
def wit : Array Value := #[.agg #[.slice none 0 0, .slice none 0 0]]
theorem laid_met (os : Os) : laidMet Tryz.prog Rows.unfoldingCausesRow.laid ((laidWorld os).forCall (fun _ _ => 0) ⟨#[], wit, []⟩).memory :=
  laidMet_of_run' 80 (by kernel_rfl) (by kernel_rfl)
theorem reads (os : Os) {H : Type} (enc : TypeId × Value → H) : ∃ places, DataW.whole enc Tryz.prog ((laidWorld os).forCall (fun _ _ => 0) ⟨#[], wit, []⟩).memory Tryz.f3.params.toList Rows.unfoldingCausesSpec.vars false wit.toList 8 = some ([.agg [.nil, .nil]], [], places) :=
  ⟨[], by kernel_rfl⟩

theorem lifted (os : Os) (started : os.Started) (H : Type) (enc : TypeId × Value → H) (F : Stop.Interp) :
    ReturnsInHanded {} Tryz.checked os 3 .any ((OpenSpec.ofChange Rows.unfoldingCausesSpec).preRow enc Tryz.prog Tryz.f3 Rows.unfoldingCausesRow.domain false Rows.unfoldingCausesRow.laid) (((OpenSpec.ofChange Rows.unfoldingCausesSpec).at F).post enc Tryz.prog Tryz.f3 false true false false) := by
  obtain ⟨places, hx⟩ := reads os enc
  refine returnsInHanded_of_row (C := Tryz.checked) (s := OpenSpec.ofChange Rows.unfoldingCausesSpec) own started (by kernel_rfl) Tryz.func3
    (witness_row_at (enc := enc) (C := Tryz.checked) false (laidWorld os) wit rfl (by kernel_rfl) (by kernel_rfl) (by kernel_rfl)
      (OpenSpec.preRow_of_cond 8 hx (by kernel_rfl) (fun k hk => by cases hk) (by kernel_rfl) (laid_met os))) ?_
  intro W base args ds gs before hval hW _ _ hwt hL _ _
  exact contract H enc W base args ds gs before hval hW hL fun z hz => of_decide_eq_true (List.all_eq_true.1 hwt z (weights_app _ _ hz))

theorem named3 : Tryz.pinned.checked.prog.funcNamed Rows.unfoldingCausesRow.func = some 3 := by kernel_rfl
theorem facts3 : joinedFacts Tryz.prog 3 Tryz.f3 (OpenSpec.ofChange Rows.unfoldingCausesSpec).bare Rows.unfoldingCausesRow = true := by
  simp only [joinedFacts, a1, a2, a3, a4, a5, a6, a7, a8, a9, a10, Bool.true_and, Bool.and_true]
  kernel_rfl
theorem inst3 : Tryz.f3.isInstance Tryz.pinned.checked.prog Rows.unfoldingCausesRow.origin Rows.unfoldingCausesRow.targs := of_decide_eq_true (by kernel_rfl)
theorem wrap3 : Tryz.f3.isWrapper Tryz.pinned.checked.prog Rows.unfoldingCausesRow.wrapper Rows.unfoldingCausesRow.mainSum := by
  unfold Func.isWrapper; first | (rw [if_pos (by decide +kernel)]; kernel_rfl) | (rw [if_neg (by decide +kernel)]; exact ⟨rfl, rfl⟩)
theorem said : Rows.UnfoldingCausesSaid :=
  OpenClaim.holds_of_cond 3 Tryz.f3 rfl rfl rfl rfl rfl rfl rfl ⟨rfl, rfl, rfl, rfl, rfl⟩ rfl rfl rfl rfl rfl named3 Tryz.func3 facts3 inst3 wrap3
    (fun os started H enc _ F => by rw [OpenClaim.pre_eq_preRow]; exact lifted os started H enc F)
theorem plain (f : FuncId) (fn : Func) (hf : Tryz.pinned.checked.prog.funcNamed "scarfjoint/scarfjointlaw51.UnfoldingCauses" = some f) (hfn : Tryz.pinned.checked.prog.funcs[f]? = some fn) :
    false = Tryz.pinned.checked.prog.looks [] ∧ ∀ (j : Nat) t, fn.params[j]? = some t → Tryz.pinned.checked.prog.wantsStandIn t = false := by
  obtain rfl : f = 3 := Option.some.inj ((show Tryz.prog.funcNamed "scarfjoint/scarfjointlaw51.UnfoldingCauses" = some 3 by kernel_rfl).symm.trans hf) |>.symm
  obtain rfl : fn = Tryz.f3 := (Option.some.inj (Tryz.func3.symm.trans hfn)).symm
  refine ⟨by kernel_rfl, fun j t ht => ?_⟩
  have hp : Tryz.f3.params = #[25] := by kernel_rfl
  rw [hp] at ht
  obtain rfl : t = 25 := by simpa using Array.mem_of_getElem? ht
  exact (show Tryz.prog.wantsStandIn 25 = false by kernel_rfl)
theorem card : Rows.UnfoldingCausesCardSaid :=
  Claim7.holds_tied_plain_at .later [] _ _ _ _ said (fun _ h => by cases h) (by kernel_rfl) (fun _ h => by cases h) unfoldingCauses_row_tie rfl ⟨rfl, rfl⟩ (by kernel_rfl) rfl plain (by kernel_rfl)
end Go.Proofs.YteaifkpmfbgekaaGreatDoor.unfoldingCauses
