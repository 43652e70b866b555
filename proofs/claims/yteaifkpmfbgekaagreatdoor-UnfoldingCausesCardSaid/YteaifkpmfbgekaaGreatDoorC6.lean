/- The program's causes: sorting, compacting, the closure that looks for a false event. -/
import Derived.Test.YteaifkpmfbgekaaGreatDoorC5
import Derived.Test.YteaifkpmfbgekaaGreatDoorC4
set_option linter.all false
set_option linter.deprecated false
namespace Go.Proofs.YteaifkpmfbgekaaGreatDoor
open Go M
set_option maxRecDepth 100000
set_option maxHeartbeats 4000000
set_option synthInstance.maxHeartbeats 400000
set_option synthInstance.maxSize 4096
theorem goodNil18 : GoodK Tryz.prog ⟨18, [.nils], .tup []⟩ := known_of_chkB (K := 100) (n := 6) env1_ok follows look_nil (by kernel_rfl)
noncomputable def call18 : CallR := orC (lookK [⟨18, [.nils], .tup []⟩]) (callS env1 1 (M.look []))
noncomputable def call6 (els : AV) (c : Bool) : CallR := dispC 15 (lookK [⟨15, [els, .fn 16 []], .bool c⟩]) (dispC 17 (callS env1 1 (lookF spec35)) (dispC 18 call18 (callS env1 1000000 (M.look []))))
theorem call6_sound {els : AV} {E : List El} (hE : ERow els E) (hsm : E.length < 1000000000) : SoundCall Tryz.prog (call6 els (decide (idxR E ≥ 0))) :=
  have cs : ∀ K (b : CallR), SoundCall Tryz.prog b → SoundCall Tryz.prog (callS env1 K b) := fun K b hb => callS_sound env1_ok (fun _ h => draw_sound h env1_ok.types follows) K hb
  dispC_sound (lookK_sound (goods_one (good15 hE hsm))) (dispC_sound (cs _ _ (lookF_sound spec35_ok)) (dispC_sound (orC_sound (lookK_sound (goods_one goodNil18)) (cs _ _ look_nil)) (cs _ _ look_nil)))
theorem dispC_eq {g : FuncId} {a b : CallR} {args : List AV} {st : List Blk} : dispC g a b g args st = a g args st := by unfold dispC; rw [Nat.beq_refl]; rfl
theorem dispC_ne {f g : FuncId} {a b : CallR} {args : List AV} {st : List Blk} (h : Nat.beq f g = false) : dispC g a b f args st = b f args st := by unfold dispC; rw [h]; rfl
theorem call6_e18 {els : AV} {c : Bool} {args : List AV} {st : List Blk} : call6 els c 18 args st = call18 18 args st := by unfold call6; rw [dispC_ne rfl, dispC_ne rfl, dispC_eq]
theorem call6_e19 {els : AV} {c : Bool} {args : List AV} {st : List Blk} : call6 els c 19 args st = callS env1 1000000 (M.look []) 19 args st := by unfold call6; rw [dispC_ne rfl, dispC_ne rfl, dispC_ne rfl]
theorem call6_15 {els : AV} {E : List El} {c : Bool} (hE : ERow els E) {st : List Blk} : call6 els c 15 ([els, .fn 16 []] ++ []) st = some (.bool c, st, st.length) := by
  unfold call6
  rw [dispC_eq]
  exact lookK_ok anyF_head (by simp only [List.append_nil, mapO, frz_erow hE]; rfl) findK_head
theorem call6_17 {els : AV} {c : Bool} {st : List Blk} {o : Evt} (h : o.ns.length + o.es.length < 1000000) : call6 els c 17 ([.agg [I o.1, o.nv, o.wv]] ++ []) st = some (resI (usedE o), st, st.length) := by
  unfold call6
  rw [dispC_ne rfl, dispC_eq]
  exact run17 st (irow_arg _) (irow_arg _) h
theorem run19n {st : List Blk} : callS env1 1000000 (M.look []) 19 [.nils] st = some (.nils, st, st.length) := by
  have key : Yes (callS env1 1000000 (M.look []) 19 [.nils] st) fun r => r = (.nils, st, st.length) := by
    refine callS_ev (fn := Tryz.f19) (by kernel_rfl) rfl rfl (EV.out ?_)
    show EV env1 _ _ (.seq _ (.seq _ _)) ⟨[.nils] ++ List.replicate 60 .undef, st, st.length⟩ _
    generalize hsl : ([.nils] ++ List.replicate 60 AV.undef) = sl
    have hlen : GL sl 61 := ⟨by rw [← hsl]; rfl⟩
    have h0 : GT sl 0 .nils := ⟨by rw [← hsl]; rfl⟩
    clear hsl
    have hla : LA env1 33 .nils (I 0) := la33 (l := []) (.inl ⟨rfl, rfl, rfl⟩)
    repeat (first | apply n_stp | refine n_add (by omega) ?_ | refine n_sub (by omega) ?_ | apply n_nil | refine n_region ?_ | refine n_region1 ?_ | refine n_assoc ?_ | refine n_skip ?_ | refine n_block ?_ | refine n_block1 ?_ | apply d_stp | refine d_add (by omega) ?_ | refine d_sub (by omega) ?_ | (apply d_nil; refine ⟨?zd, ?_⟩; (case zd => apply dr_reads; first | rfl | (simp; done))) | refine n_draw rfl ?_ | refine n_draw1 rfl ?_)
    apply n_cond true inferInstance
    · intro _
      repeat (first | apply n_stp | refine n_add (by omega) ?_ | refine n_sub (by omega) ?_ | apply n_nil | refine n_region ?_ | refine n_region1 ?_ | refine n_assoc ?_ | refine n_skip ?_ | refine n_block ?_ | refine n_block1 ?_ | apply d_stp | refine d_add (by omega) ?_ | refine d_sub (by omega) ?_ | (apply d_nil; refine ⟨?zd, ?_⟩; (case zd => apply dr_reads; first | rfl | (simp; done))) | refine n_draw rfl ?_ | refine n_draw1 rfl ?_)
      refine n_ret ?_
      apply f_one rfl
      show leaveA false st.length .nils st st.length = _
      unfold leaveA
      rw [if_pos (Nat.le_refl _), if_pos (by rfl : AV.nils.bare2 = true), List.take_length]
    · intro h; cases h
  obtain ⟨q, h, rfl⟩ := key
  exact h
theorem run18 {K : Nat} {call : CallR} {st : List Blk} {b ver : Nat} {l : List Int} (hb : st[b]? = some ⟨1, ver, l.map I⟩) (hsm : l.length < 1000000) : callS env1 K call 18 [.sl b 0 l.length ver 1] st = some (.tup [], st.set b ⟨1, ver, (isort l).map I⟩, b) := by
  have hcut : cut (l.map I) 0 l.length = some (l.map I) := by
    unfold cut
    simp only [List.drop_zero]
    rw [List.take_of_length_le (by simp)]
    simp
  have hf : env1.func 18 = some Tryz.f18 := by kernel_rfl
  have hs : env1.srt 18 = true := by kernel_rfl
  have hbd : ∃ c, Tryz.f18.body = some c := ⟨_, rfl⟩
  obtain ⟨c, hbd⟩ := hbd
  have hsort : sortA st [.sl b 0 l.length ver 1] = some (.tup [], st.set b ⟨1, ver, (isort l).map I⟩, b) := by
    simp only [sortA, hb]
    rw [if_pos (by refine ⟨?_, ?_, ?_⟩ <;> first | rfl | trivial | omega)]
    simp only [hcut, intsA_map]
    rw [paste_eq _ _ _ (by simp [isort_length])]
    have hd : List.drop (0 + ((isort l).map I).length) (l.map I) = [] := List.drop_eq_nil_of_le (by simp [isort_length])
    rw [hd, List.take_zero, List.nil_append, List.append_nil]
  simp only [callS, hf, hbd, hs, if_true, hsort]
theorem frz_slI {st : List Blk} {b ver d : Nat} {l : List Int} (hb : st[b]? = some ⟨1, ver, l.map I⟩) : frzA st 0 (d + 2) (.sl b 0 l.length ver 1) = some (.imm l.length (l.map I)) := by
  refine frz_sl (cells := l.map I) (rest := []) (by rw [List.append_nil]; exact hb) (by simp) (mapO_id fun x hx => ?_)
  obtain ⟨z, _, rfl⟩ := List.mem_map.1 hx
  exact frz_bare rfl
theorem cmp_ne {l : List Int} (h : l ≠ []) : cmp (isort l) (isort l).length ≠ [] := by
  obtain ⟨_, h2⟩ := cmp_props (isort_sorted l) _ (Nat.le_refl _)
  intro e
  rw [e] at h2
  obtain ⟨x, hx⟩ := List.exists_mem_of_ne_nil l h
  have := (h2 x).2 (by rw [List.take_length, (isort_perm l).mem_iff]; exact hx)
  cases this
/-- Sorting, then compacting. -/
theorem sortcompact {els : AV} {c : Bool} {st : List Blk} {v : AV} {l : List Int} (hv : OutG st v (l.map I)) (hn : v = .nils ∨ l ≠ []) (hsm : l.length < 1000000) :
    ∃ st2 low2 x st4 low4, call6 els c 18 ([v] ++ []) st = some (.tup [], st2, low2) ∧ call6 els c 19 ([v] ++ []) st2 = some (x, st4, low4) ∧ st4.length = st.length ∧ (∀ c, c ∉ leadA (some v) → st4[c]? = st[c]?) ∧
      CellG st4 x (cmp (isort l) (isort l).length) ∧ ∀ c ∈ leadA (some x), c ∈ leadA (some v) := by
  rcases hv with ⟨rfl, h⟩ | ⟨b, ver, rfl, hb⟩
  · have hl : l = [] := List.map_eq_nil_iff.1 h
    subst hl
    refine ⟨st, st.length, .nils, st, st.length, ?_, call6_e19.trans run19n, rfl, fun _ _ => rfl, .inl ⟨rfl, rfl⟩, fun c h => h⟩
    rw [call6_e18]
    unfold call18 orC
    rw [lookK_ok (r := .tup []) (cs := [.nils]) rfl rfl rfl]
  · have hne : l ≠ [] := hn.resolve_left (by simp)
    rw [List.length_map] at *
    have hbl := (List.getElem?_eq_some_iff.1 hb).1
    have h18 := run18 (K := 1) (call := M.look []) hb hsm
    have hb2 : (st.set b ⟨1, ver, (isort l).map I⟩)[b]? = some ⟨1, ver, (isort l).map I⟩ := by simp [hbl]
    obtain ⟨st4, low4, rest, h19, hst4⟩ := run19 (K := 1000000) hb2 (by rw [isort_length]; exact hsm) (by rw [isort_length]; exact hsm)
    rw [isort_length] at h19
    have hnone : lookK [⟨18, [.nils], .tup []⟩] 18 ([.sl b 0 l.length ver 1] ++ []) st = none := by
      simp only [lookK, anyF, List.append_nil, mapO, frz_slI hb, findK]
      rfl
    refine ⟨_, b, _, _, _, ?_, call6_e19.trans h19, ?_, fun c hc => ?_, ?_, fun c hc => hc⟩
    · rw [call6_e18]
      unfold call18 orC
      rw [hnone]
      exact h18
    · rw [hst4]; simp
    · have hcb : b ≠ c := by simpa [leadA, eq_comm] using hc
      rw [hst4, List.set_set, List.getElem?_set_ne hcb]
    · refine .inr ⟨cmp_ne hne, b, ver, rest, by rw [isort_length], ?_⟩
      rw [hst4, List.set_set, isort_length]
      simp [hbl]
end Go.Proofs.YteaifkpmfbgekaaGreatDoor

namespace Go.Proofs.YteaifkpmfbgekaaGreatDoor
open Go M
set_option maxRecDepth 100000
set_option maxHeartbeats 4000000
set_option synthInstance.maxHeartbeats 400000
set_option synthInstance.maxSize 4096
theorem idxR_evs {E : List El} : decide (idxR E ≥ 0) = !evsOk E := by
  have hev : evsOk E = !E.any p16 := by
    unfold evsOk
    rw [List.not_any_eq_all_not]
    congr 1
    funext x
    unfold p16
    by_cases h : x.ev < -1
    · simp [h] <;> omega
    · simp [h] <;> omega
  rw [hev, Bool.not_not]
  unfold idxR
  by_cases h : E.findIdx p16 < E.length
  · rw [if_pos h]
    have : E.any p16 = true := by
      rw [List.any_eq_true]
      exact ⟨E[E.findIdx p16], List.getElem_mem h, List.findIdx_getElem (w := h)⟩
    rw [this]; simp <;> omega
  · rw [if_neg h]
    have : E.any p16 = false := by
      rw [List.any_eq_false]
      intro x hx
      obtain ⟨j, hj, rfl⟩ := List.getElem_of_mem hx
      rw [List.not_of_lt_findIdx (p := p16) (xs := E) (i := j) (by omega)]
      simp
    rw [this]; rfl
theorem evs_all {E : List El} (h : evsOk E = true) : ∀ j (h : j < E.length), -1 ≤ E[j].ev := by
  unfold evsOk at h
  rw [List.all_eq_true] at h
  exact fun j hj => of_decide_eq_true (h _ (List.getElem_mem hj))
theorem irowR (l : List Int) : One (resI l) := ⟨row_one (irow_res l)⟩
theorem lead_sl {st : List Blk} {v : AV} {cells : List AV} (h : OutG st v cells) {P : Nat → Prop} (hp : ∀ b, (∃ o n ve s, v = .sl b o n ve s) → P b) : ∀ b ∈ leadA (some v), P b := by
  intro b hb
  rcases h with ⟨rfl, _⟩ | ⟨c, ver, rfl, _⟩
  · cases hb
  · simp only [leadA, List.mem_singleton] at hb
    subst hb
    exact hp b ⟨_, _, _, _, rfl⟩
theorem app_new {st st' : List Blk} {x x' y : AV} {cells cs : List AV} {f : Foot} (ha : AppG st st' x x' y cells cs f) : ∀ b ∈ leadA (some x'), b = st.length ∨ b ∈ leadA (some x) :=
  lead_sl ha.out fun b ⟨o, n, ve, s, h⟩ => (ha.new b o n ve s h).imp_right fun ⟨_, _, _, _, h⟩ => by rw [h]; simp [leadA]
theorem app_frame {st st' : List Blk} {x x' y : AV} {cells cs : List AV} {f : Foot} (ha : AppG st st' x x' y cells cs f) {b : Nat} (hb : b < st.length) (hn : b ∉ leadA (some x)) : st'[b]? = st[b]? :=
  ha.frame b hb (by rintro o n v s rfl; simp [leadA] at hn)
theorem good6 {els evs : AV} {E : List El} {V : List Evt} (hE : ERow els E) (hV : VRow evs V) (hEl : E.length < 1000000) (hVl : V.length < 1000) (hs : ∀ o ∈ V, o.ns.length + o.es.length < 900) :
    GoodK Tryz.prog ⟨6, [.agg [els, evs]], .tup [(causesR E V).1, I (causesR E V).2]⟩ := by
  refine n_run (E := env1) (K := 2000000) (call := (call6 els (decide (idxR E ≥ 0)))) env1_ok follows (call6_sound hE (by omega)) (fn := Tryz.f6) (by kernel_rfl) rfl rfl rfl ?_
  rw [idxR_evs]
  show EV env1 _ _ (.seq _ (.seq _ _)) ⟨[.agg [els, evs]] ++ List.replicate 74 .undef, [], 0⟩ _
  generalize hsl : ([.agg [els, evs]] ++ List.replicate 74 AV.undef) = sl
  have hlen : GL sl 75 := ⟨by rw [← hsl]; rfl⟩
  have h0 : GT sl 0 (.agg [els, evs]) := ⟨by rw [← hsl]; rfl⟩
  clear hsl
  have ho1 : One els := ⟨row_one hE⟩
  have ho2 : One evs := ⟨row_one hV⟩
  have hla := la22 hE
  have hlv := la23 hV
  repeat (first | apply n_stp | refine n_add (by omega) ?_ | refine n_sub (by omega) ?_ | apply n_nil | refine n_region ?_ | refine n_region1 ?_ | refine n_assoc ?_ | refine n_skip ?_ | refine n_block ?_ | refine n_block1 ?_ | apply d_stp | refine d_add (by omega) ?_ | refine d_sub (by omega) ?_ | (apply d_nil; refine ⟨?zd, ?_⟩; (case zd => apply dr_reads; first | rfl | (simp; done))) | refine n_draw rfl ?_ | refine n_draw1 rfl ?_)
  (apply n_call ?zz; (case zz => exact call6_15 hE))
  repeat (first | apply n_stp | refine n_add (by omega) ?_ | refine n_sub (by omega) ?_ | apply n_nil | refine n_region ?_ | refine n_region1 ?_ | refine n_assoc ?_ | refine n_skip ?_ | refine n_block ?_ | refine n_block1 ?_ | apply d_stp | refine d_add (by omega) ?_ | refine d_sub (by omega) ?_ | (apply d_nil; refine ⟨?zd, ?_⟩; (case zd => apply dr_reads; first | rfl | (simp; done))) | refine n_draw rfl ?_ | refine n_draw1 rfl ?_)
  apply n_cond (!evsOk E) inferInstance
  · intro hb
    have hb : evsOk E = false := by simpa using hb
    repeat (first | apply n_stp | refine n_add (by omega) ?_ | refine n_sub (by omega) ?_ | apply n_nil | refine n_region ?_ | refine n_region1 ?_ | refine n_assoc ?_ | refine n_skip ?_ | refine n_block ?_ | refine n_block1 ?_ | apply d_stp | refine d_add (by omega) ?_ | refine d_sub (by omega) ?_ | (apply d_nil; refine ⟨?zd, ?_⟩; (case zd => apply dr_reads; first | rfl | (simp; done))) | refine n_draw rfl ?_ | refine n_draw1 rfl ?_)
    refine n_ret ?_
    have : causesR E V = (.nils, 1) := by simp only [causesR, hb, Bool.false_eq_true, false_and, if_false]
    rw [this]
    apply f_two rfl
    rfl
  intro hb
  have hev : evsOk E = true := by simpa using hb
  have hall1 := evs_all hev
  clear hb
  repeat (first | apply n_stp | refine n_add (by omega) ?_ | refine n_sub (by omega) ?_ | apply n_nil | refine n_region ?_ | refine n_region1 ?_ | refine n_assoc ?_ | refine n_skip ?_ | refine n_block ?_ | refine n_block1 ?_ | apply d_stp | refine d_add (by omega) ?_ | refine d_sub (by omega) ?_ | (apply d_nil; refine ⟨?zd, ?_⟩; (case zd => apply dr_reads; first | rfl | (simp; done))) | refine n_draw rfl ?_ | refine n_draw1 rfl ?_)
  refine n_loop (fun i sl st => GL sl 75 ∧ GT sl 1 (.ptr 0 0 0) ∧ BK st 0 ⟨2, 0, [els, evs]⟩ ∧ GT sl 15 evs ∧ GT sl 16 (I V.length) ∧ GT sl 17 (I i) ∧ (∀ j, j < i → (uAt V j).all (okK E j) = true) ∧ ∃ out cs, GT sl 4 out ∧ CellsG st out cs (rowsN E V i) ∧ (out = .nils ∨ rowsN E V i ≠ [])) V.length (by omega) ?_ ?_
  · exact ⟨inferInstance, inferInstance, ⟨rfl⟩, inferInstance, inferInstance, inferInstance, fun j h => by omega, .nils, [], inferInstance, .nil, .inl rfl⟩
  rintro i sl st low hi ⟨hlen, h1, hbk, h15, h16, h17, hall2, out, cs, h4, hc, hn⟩
  repeat (first | apply n_stp | refine n_add (by omega) ?_ | refine n_sub (by omega) ?_ | apply n_nil | refine n_region ?_ | refine n_region1 ?_ | refine n_assoc ?_ | refine n_skip ?_ | refine n_block ?_ | refine n_block1 ?_ | apply d_stp | refine d_add (by omega) ?_ | refine d_sub (by omega) ?_ | (apply d_nil; refine ⟨?zd, ?_⟩; (case zd => apply dr_reads; first | rfl | (simp; done))) | refine n_draw rfl ?_ | refine n_draw1 rfl ?_)
  apply n_cond (decide ((i : Int) < V.length)) inferInstance
  · intro hlt
    have hlt : i < V.length := by simpa using hlt
    have hia := ia23 hV hlt
    have hul : V[i].ns.length + V[i].es.length < 1000000 := Nat.lt_trans (hs _ (List.getElem_mem hlt)) (by decide)
    have hon : One V[i].nv := ⟨row_one (irow_arg _)⟩
    have how : One V[i].wv := ⟨row_one (irow_arg _)⟩
    repeat (first | apply n_stp | refine n_add (by omega) ?_ | refine n_sub (by omega) ?_ | apply n_nil | refine n_region ?_ | refine n_region1 ?_ | refine n_assoc ?_ | refine n_skip ?_ | refine n_block ?_ | refine n_block1 ?_ | apply d_stp | refine d_add (by omega) ?_ | refine d_sub (by omega) ?_ | (apply d_nil; refine ⟨?zd, ?_⟩; (case zd => apply dr_reads; first | rfl | (simp; done))) | refine n_draw rfl ?_ | refine n_draw1 rfl ?_)
    (apply n_call ?zz; (case zz => exact call6_17 hul))
    have huu := uAt_eq hlt
    have hul9 : (usedE V[i]).length < 900 := by simpa using hs _ (List.getElem_mem hlt)
    generalize hU : usedE V[i] = U at huu hul9
    have hlu := la33 (irow_res U)
    generalize hR : rowsN E V i = R at hc hn
    have hRl : R.length = i := by rw [← hR, rowsN_len]
    have h00 := (List.getElem?_eq_some_iff.1 hbk.h).1
    have hol := hc.out.lt
    repeat (first | apply n_stp | refine n_add (by omega) ?_ | refine n_sub (by omega) ?_ | apply n_nil | refine n_region ?_ | refine n_region1 ?_ | refine n_assoc ?_ | refine n_skip ?_ | refine n_block ?_ | refine n_block1 ?_ | apply d_stp | refine d_add (by omega) ?_ | refine d_sub (by omega) ?_ | (apply d_nil; refine ⟨?zd, ?_⟩; (case zd => apply dr_reads; first | rfl | (simp; done))) | refine n_draw rfl ?_ | refine n_draw1 rfl ?_)
    refine n_loop (fun k sl st' => GL sl 75 ∧ GT sl 1 (.ptr 0 0 0) ∧ GT sl 15 evs ∧ GT sl 16 (I V.length) ∧ GT sl 17 (I i) ∧ GT sl 4 out ∧ GT sl 5 (I i) ∧ GT sl 23 (resI U) ∧ GT sl 24 (I U.length) ∧ GT sl 25 (I k) ∧ (∀ m, m < k → okK E i (U.getD m 0) = true) ∧ st.length ≤ st'.length ∧ (∀ c, c < st.length → st'[c]? = st[c]?) ∧
      ∃ l, GT sl 7 l ∧ OutG st' l ((raw E R (U.take k)).map I) ∧ (l = .nils ∨ raw E R (U.take k) ≠ []) ∧ ∀ c ∈ leadA (some l), st.length ≤ c) U.length (by omega) ?_ ?_
    · refine ⟨inferInstance, inferInstance, inferInstance, inferInstance, inferInstance, inferInstance, inferInstance, inferInstance, inferInstance, inferInstance, fun m h => by omega, by simp, fun c hc => ?_, .nils, inferInstance, .inl ⟨rfl, rfl⟩, .inl rfl, fun c h => by cases h⟩
      rw [set_last, List.getElem?_append_left hc]
    · rintro k sl st' low hk ⟨hlen, h1, h15, h16, h17, h4, h5, h23, h24, h25, hok, hle, hfr, l, h7, hl, hln, hlnew⟩
      have hbk' : BK st' 0 ⟨2, 0, [els, evs]⟩ := ⟨by rw [hfr 0 h00]; exact hbk.h⟩
      repeat (first | apply n_stp | refine n_add (by omega) ?_ | refine n_sub (by omega) ?_ | apply n_nil | refine n_region ?_ | refine n_region1 ?_ | refine n_assoc ?_ | refine n_skip ?_ | refine n_block ?_ | refine n_block1 ?_ | apply d_stp | refine d_add (by omega) ?_ | refine d_sub (by omega) ?_ | (apply d_nil; refine ⟨?zd, ?_⟩; (case zd => apply dr_reads; first | rfl | (simp; done))) | refine n_draw rfl ?_ | refine n_draw1 rfl ?_)
      apply n_cond (decide ((k : Int) < U.length)) inferInstance
      · intro hkl
        have hkl : k < U.length := by simpa using hkl
        obtain ⟨rest, hiu⟩ := ia33k (irow_res U) hkl
        have hzm : U.getD k 0 ∈ uAt V i := by rw [huu]; exact getD_mem hkl
        have hrs := raw_succ (E := E) (R := R) hkl
        generalize hz : U.getD k 0 = z at hiu hzm hrs
        by_cases hz0 : z < 0
        · have e1 : Eqv (decide (z < 0)) true := ⟨decide_eq_true hz0⟩
          repeat (first | apply n_stp | refine n_add (by omega) ?_ | refine n_sub (by omega) ?_ | apply n_nil | refine n_region ?_ | refine n_region1 ?_ | refine n_assoc ?_ | refine n_skip ?_ | refine n_block ?_ | refine n_block1 ?_ | apply d_stp | refine d_add (by omega) ?_ | refine d_sub (by omega) ?_ | (apply d_nil; refine ⟨?zd, ?_⟩; (case zd => apply dr_reads; first | rfl | (simp; done))) | refine n_draw rfl ?_ | refine n_draw1 rfl ?_)
          apply n_cond true inferInstance
          · intro _
            repeat (first | apply n_stp | refine n_add (by omega) ?_ | refine n_sub (by omega) ?_ | apply n_nil | refine n_region ?_ | refine n_region1 ?_ | refine n_assoc ?_ | refine n_skip ?_ | refine n_block ?_ | refine n_block1 ?_ | apply d_stp | refine d_add (by omega) ?_ | refine d_sub (by omega) ?_ | (apply d_nil; refine ⟨?zd, ?_⟩; (case zd => apply dr_reads; first | rfl | (simp; done))) | refine n_draw rfl ?_ | refine n_draw1 rfl ?_)
            refine n_ret (aft_ret (rnd_ret (aft_ret (aft_ret (rnd_ret (aft_ret ?_))))))
            rw [causes_bad2 hlt hzm (okK_no (by omega))]
            apply f_two rfl
            rfl
          · intro h; cases h
        have e1 : Eqv (decide (z < 0)) false := ⟨decide_eq_false hz0⟩
        by_cases hz1 : z ≥ E.length
        · have e2 : Eqv (decide (z ≥ (E.length : Int))) true := ⟨decide_eq_true hz1⟩
          repeat (first | apply n_stp | refine n_add (by omega) ?_ | refine n_sub (by omega) ?_ | apply n_nil | refine n_region ?_ | refine n_region1 ?_ | refine n_assoc ?_ | refine n_skip ?_ | refine n_block ?_ | refine n_block1 ?_ | apply d_stp | refine d_add (by omega) ?_ | refine d_sub (by omega) ?_ | (apply d_nil; refine ⟨?zd, ?_⟩; (case zd => apply dr_reads; first | rfl | (simp; done))) | refine n_draw rfl ?_ | refine n_draw1 rfl ?_)
          apply n_cond true inferInstance
          · intro _
            repeat (first | apply n_stp | refine n_add (by omega) ?_ | refine n_sub (by omega) ?_ | apply n_nil | refine n_region ?_ | refine n_region1 ?_ | refine n_assoc ?_ | refine n_skip ?_ | refine n_block ?_ | refine n_block1 ?_ | apply d_stp | refine d_add (by omega) ?_ | refine d_sub (by omega) ?_ | (apply d_nil; refine ⟨?zd, ?_⟩; (case zd => apply dr_reads; first | rfl | (simp; done))) | refine n_draw rfl ?_ | refine n_draw1 rfl ?_)
            refine n_ret (aft_ret (rnd_ret (aft_ret (aft_ret (rnd_ret (aft_ret ?_))))))
            rw [causes_bad2 hlt hzm (okK_no (by omega))]
            apply f_two rfl
            rfl
          · intro h; cases h
        have e2 : Eqv (decide (z ≥ (E.length : Int))) false := ⟨decide_eq_false hz1⟩
        obtain ⟨a, b, c, d, rest2, hie⟩ := ia22k hE (k := z) (by omega) (by omega)
        repeat (first | apply n_stp | refine n_add (by omega) ?_ | refine n_sub (by omega) ?_ | apply n_nil | refine n_region ?_ | refine n_region1 ?_ | refine n_assoc ?_ | refine n_skip ?_ | refine n_block ?_ | refine n_block1 ?_ | apply d_stp | refine d_add (by omega) ?_ | refine d_sub (by omega) ?_ | (apply d_nil; refine ⟨?zd, ?_⟩; (case zd => apply dr_reads; first | rfl | (simp; done))) | refine n_draw rfl ?_ | refine n_draw1 rfl ?_)
        apply n_cond (decide (evK E z ≥ i)) inferInstance
        · intro hp
          have hp : evK E z ≥ i := by simpa using hp
          repeat (first | apply n_stp | refine n_add (by omega) ?_ | refine n_sub (by omega) ?_ | apply n_nil | refine n_region ?_ | refine n_region1 ?_ | refine n_assoc ?_ | refine n_skip ?_ | refine n_block ?_ | refine n_block1 ?_ | apply d_stp | refine d_add (by omega) ?_ | refine d_sub (by omega) ?_ | (apply d_nil; refine ⟨?zd, ?_⟩; (case zd => apply dr_reads; first | rfl | (simp; done))) | refine n_draw rfl ?_ | refine n_draw1 rfl ?_)
          refine n_ret (aft_ret (rnd_ret (aft_ret (aft_ret (rnd_ret (aft_ret ?_))))))
          rw [causes_bad2 hlt hzm (okK_no (by omega))]
          apply f_two rfl
          rfl
        intro hp
        have hp : ¬ evK E z ≥ i := by simpa using hp
        have hok' : ∀ m, m < k + 1 → okK E i (U.getD m 0) = true := fun m hm => by
          rcases Nat.lt_or_ge m k with h' | h'
          · exact hok m h'
          · have : m = k := by omega
            subst this; rw [hz]; exact okK_iff.2 (by omega)
        repeat (first | apply n_stp | refine n_add (by omega) ?_ | refine n_sub (by omega) ?_ | apply n_nil | refine n_region ?_ | refine n_region1 ?_ | refine n_assoc ?_ | refine n_skip ?_ | refine n_block ?_ | refine n_block1 ?_ | apply d_stp | refine d_add (by omega) ?_ | refine d_sub (by omega) ?_ | (apply d_nil; refine ⟨?zd, ?_⟩; (case zd => apply dr_reads; first | rfl | (simp; done))) | refine n_draw rfl ?_ | refine n_draw1 rfl ?_)
        apply n_cond1 (decide (evK E z ≥ 0)) inferInstance
        · intro he
          have he : 0 ≤ evK E z := by simpa using he
          have hz2 : evK E z < i := by omega
          rw [raw1_pos he] at hrs
          generalize hev' : evK E z = e at he hz2 hrs hie
          have hCl : (raw E R (U.take k)).length ≤ 900 * 1000 := by
            have h1 := raw_len (E := E) (V := V) (i := i) (U.take k)
            rw [hR] at h1
            refine Nat.le_trans h1 (Nat.mul_le_mul ?_ (by omega))
            rw [List.length_take]; omega
          generalize hC : raw E R (U.take k) = C at hrs hl hln hCl
          have hel : e.toNat < R.length := by omega
          have hel2 : e.toNat < cs.length := by rw [hc.len]; exact hel
          obtain ⟨ob, over, hout, hob⟩ := hc.out.sl (by omega)
          have hcell := hc.cell e.toNat _ _ (List.getElem?_eq_getElem hel2) (List.getElem?_eq_getElem hel)
          have hRe : R.getD e.toNat [] = R[e.toNat] := by simp [List.getD_eq_getElem?_getD, hel]
          have hRlen : R[e.toNat].length ≤ i := by
            have := row_len E V i e.toNat
            rw [hR, hRe] at this; exact this
          rw [hRe] at hrs
          generalize R[e.toNat] = Re at hrs hcell hRe hRlen
          have hrbv : RB env1 33 ⟨1, over, cs⟩ e.toNat over cs[e.toNat] := rb28 (k := ⟨1, over, cs⟩) (List.getElem?_eq_getElem hel2)
          generalize cs[e.toNat] = v at hcell hrbv
          subst hout
          have hobl : ob < st.length := hol ob (by simp [leadA])
          have hi28 : IA env1 28 (.sl ob 0 cs.length over 1) (I e) (.ptr ob e.toNat over) := ia28s he (by omega)
          repeat (first | apply n_stp | refine n_add (by omega) ?_ | refine n_sub (by omega) ?_ | apply n_nil | refine n_region ?_ | refine n_region1 ?_ | refine n_assoc ?_ | refine n_skip ?_ | refine n_block ?_ | refine n_block1 ?_ | apply d_stp | refine d_add (by omega) ?_ | refine d_sub (by omega) ?_ | (apply d_nil; refine ⟨?zd, ?_⟩; (case zd => apply dr_reads; first | rfl | (simp; done))) | (first | refine n_draw (by simp only [orderA, earlyA, List.zipIdx_cons, List.zipIdx_nil, List.map_cons, List.map_nil, List.filter_cons, List.filter_nil, Bool.false_and, Bool.true_and, Bool.and_true, Bool.and_self, Bool.and_false, Bool.not_true, Bool.not_false, Bool.false_eq_true, if_false, if_true, List.nil_append, List.cons_append, Nat.zero_add, Option.isNone_none, Array.all_empty, List.all_toArray, List.all_cons, List.all_nil, Region.binds]; rfl) ?_ | refine n_draw1 (by simp only [orderA, earlyA, List.zipIdx_cons, List.zipIdx_nil, List.map_cons, List.map_nil, List.filter_cons, List.filter_nil, Bool.false_and, Bool.true_and, Bool.and_true, Bool.and_self, Bool.and_false, Bool.not_true, Bool.not_false, Bool.false_eq_true, if_false, if_true, List.nil_append, List.cons_append, Nat.zero_add, Option.isNone_none, Array.all_empty, List.all_toArray, List.all_cons, List.all_nil, Region.binds]; rfl) ?_))
          (apply d_bs ?zz; (case zz => exact bs33))
          repeat (first | apply n_stp | refine n_add (by omega) ?_ | refine n_sub (by omega) ?_ | apply n_nil | refine n_region ?_ | refine n_region1 ?_ | refine n_assoc ?_ | refine n_skip ?_ | refine n_block ?_ | refine n_block1 ?_ | apply d_stp | refine d_add (by omega) ?_ | refine d_sub (by omega) ?_ | (apply d_nil; refine ⟨?zd, ?_⟩; (case zd => apply dr_reads; first | rfl | (simp; done))) | (first | refine n_draw (by simp only [orderA, earlyA, List.zipIdx_cons, List.zipIdx_nil, List.map_cons, List.map_nil, List.filter_cons, List.filter_nil, Bool.false_and, Bool.true_and, Bool.and_true, Bool.and_self, Bool.and_false, Bool.not_true, Bool.not_false, Bool.false_eq_true, if_false, if_true, List.nil_append, List.cons_append, Nat.zero_add, Option.isNone_none, Array.all_empty, List.all_toArray, List.all_cons, List.all_nil, Region.binds]; rfl) ?_ | refine n_draw1 (by simp only [orderA, earlyA, List.zipIdx_cons, List.zipIdx_nil, List.map_cons, List.map_nil, List.filter_cons, List.filter_nil, Bool.false_and, Bool.true_and, Bool.and_true, Bool.and_self, Bool.and_false, Bool.not_true, Bool.not_false, Bool.false_eq_true, if_false, if_true, List.nil_append, List.cons_append, Nat.zero_add, Option.isNone_none, Array.all_empty, List.all_toArray, List.all_cons, List.all_nil, Region.binds]; rfl) ?_))
          apply d_app i33 i3 ⟨by decide, by decide⟩ ?a0 ?a1 ?a2 ?a3 ?a4 ?a5 ?a6
          case a0 => exact wnt_go
          case a1 => infer_instance
          case a2 => infer_instance
          case a3 => exact hl.app _
          case a4 => exact SrcG.one
          case a5 => rfl
          case a6 => simp only [List.length_map, List.length_cons, List.length_nil]; omega
          intro l1 st1 low1 f1 ha1
          have hfr1 : ∀ c, c < st.length → st1[c]? = st[c]? := fun c hc => by
            rw [app_frame ha1 (by simp; omega) (fun h => by have := hlnew c h; omega), List.getElem?_append_left (by omega), hfr c hc]
          have hbo : BK st1 ob ⟨1, over, cs⟩ := ⟨by rw [hfr1 ob hobl]; exact hob⟩
          repeat (first | apply n_stp | refine n_add (by omega) ?_ | refine n_sub (by omega) ?_ | apply n_nil | refine n_region ?_ | refine n_region1 ?_ | refine n_assoc ?_ | refine n_skip ?_ | refine n_block ?_ | refine n_block1 ?_ | apply d_stp | refine d_add (by omega) ?_ | refine d_sub (by omega) ?_ | (apply d_nil; refine ⟨?zd, ?_⟩; (case zd => apply dr_reads; first | rfl | (simp; done))) | (first | refine n_draw (by simp only [orderA, earlyA, List.zipIdx_cons, List.zipIdx_nil, List.map_cons, List.map_nil, List.filter_cons, List.filter_nil, Bool.false_and, Bool.true_and, Bool.and_true, Bool.and_self, Bool.and_false, Bool.not_true, Bool.not_false, Bool.false_eq_true, if_false, if_true, List.nil_append, List.cons_append, Nat.zero_add, Option.isNone_none, Array.all_empty, List.all_toArray, List.all_cons, List.all_nil, Region.binds]; rfl) ?_ | refine n_draw1 (by simp only [orderA, earlyA, List.zipIdx_cons, List.zipIdx_nil, List.map_cons, List.map_nil, List.filter_cons, List.filter_nil, Bool.false_and, Bool.true_and, Bool.and_true, Bool.and_self, Bool.and_false, Bool.not_true, Bool.not_false, Bool.false_eq_true, if_false, if_true, List.nil_append, List.cons_append, Nat.zero_add, Option.isNone_none, Array.all_empty, List.all_toArray, List.all_cons, List.all_nil, Region.binds]; rfl) ?_))
          apply d_app i33 i3 ⟨by decide, by decide⟩ ?a0 ?a1 ?a2 ?a3 ?a4 ?a5 ?a6
          case a0 => exact wnt_go
          case a1 => infer_instance
          case a2 => infer_instance
          case a3 => exact ha1.out
          case a4 => exact (hcell.frame fun b hb => hfr1 b (hcell.lt b hb)).src
          case a5 => exact map_one Re
          case a6 => simp only [List.length_append, List.length_map, List.length_cons, List.length_nil]; omega
          intro l2 st2 low2 f2 ha2
          repeat (first | apply n_stp | refine n_add (by omega) ?_ | refine n_sub (by omega) ?_ | apply n_nil | refine n_region ?_ | refine n_region1 ?_ | refine n_assoc ?_ | refine n_skip ?_ | refine n_block ?_ | refine n_block1 ?_ | apply d_stp | refine d_add (by omega) ?_ | refine d_sub (by omega) ?_ | (apply d_nil; refine ⟨?zd, ?_⟩; (case zd => apply dr_reads; first | rfl | (simp; done))) | (first | refine n_draw (by simp only [orderA, earlyA, List.zipIdx_cons, List.zipIdx_nil, List.map_cons, List.map_nil, List.filter_cons, List.filter_nil, Bool.false_and, Bool.true_and, Bool.and_true, Bool.and_self, Bool.and_false, Bool.not_true, Bool.not_false, Bool.false_eq_true, if_false, if_true, List.nil_append, List.cons_append, Nat.zero_add, Option.isNone_none, Array.all_empty, List.all_toArray, List.all_cons, List.all_nil, Region.binds]; rfl) ?_ | refine n_draw1 (by simp only [orderA, earlyA, List.zipIdx_cons, List.zipIdx_nil, List.map_cons, List.map_nil, List.filter_cons, List.filter_nil, Bool.false_and, Bool.true_and, Bool.and_true, Bool.and_self, Bool.and_false, Bool.not_true, Bool.not_false, Bool.false_eq_true, if_false, if_true, List.nil_append, List.cons_append, Nat.zero_add, Option.isNone_none, Array.all_empty, List.all_toArray, List.all_cons, List.all_nil, Region.binds]; rfl) ?_))
          apply d_nil
          refine ⟨?_, ?_⟩
          · constructor
            rw [ha1.foot, ha2.foot]
            have hlead1 := app_new ha1
            have hvl : ∀ b ∈ leadA (some v), b < st.length := hcell.lt
            have hw1 : ∀ b, f1.wr = some b → st.length ≤ b := fun b h => by
              obtain ⟨o, n, ve, s, h⟩ := ha1.wr b h
              exact hlnew b (by rw [h]; simp [leadA])
            unfold drawA
            rw [Bool.or_eq_true]
            refine .inr ?_
            simp only [apartA, allPairs, aheadA, Region.binds, List.flatMap_cons, List.flatMap_nil, if_true, List.lookup_cons, List.lookup_nil, List.nil_append, List.cons_append, List.append_nil, List.zip_cons_cons, List.zip_nil_right, List.map_cons, List.map_nil, List.all_cons, List.all_nil]
            simp [Foot.clash, Foot.hits, Foot.made, Foot.touches]
            refine ⟨by omega, by omega, ?_, ?_, by omega⟩
            · cases f1.wr <;> rfl
            · cases h : f1.wr with
              | none => rfl
              | some b => have := hw1 b h; simp; omega
          have hlead1 := app_new ha1
          have hlead2 := app_new ha2
          have hlen1 := ha1.len
          have hlen2 := ha2.len
          simp only [List.length_append, List.length_singleton] at hlen1 hlead1
          repeat (first | apply n_stp | refine n_add (by omega) ?_ | refine n_sub (by omega) ?_ | apply n_nil | refine n_region ?_ | refine n_region1 ?_ | refine n_assoc ?_ | refine n_skip ?_ | refine n_block ?_ | refine n_block1 ?_ | apply d_stp | refine d_add (by omega) ?_ | refine d_sub (by omega) ?_ | (apply d_nil; refine ⟨?zd, ?_⟩; (case zd => apply dr_reads; first | rfl | (simp; done))) | refine n_draw rfl ?_ | refine n_draw1 rfl ?_)
          refine rnd_next hkl ⟨inferInstance, inferInstance, inferInstance, inferInstance, inferInstance, inferInstance, inferInstance, inferInstance, inferInstance, inferInstance, hok', by omega, fun c hc => ?_, l2, inferInstance, ?_, .inr ?_, fun c hc => ?_⟩
          · rw [app_frame ha2 (by omega) (fun h => ?_), hfr1 c hc]
            rcases hlead1 c h with h' | h'
            · omega
            · have := hlnew c h'; omega
          · have := ha2.out
            rw [hrs]
            simpa using this
          · rw [hrs]; simp
          · rcases hlead2 c hc with h' | h'
            · omega
            · rcases hlead1 c h' with h'' | h''
              · omega
              · exact hlnew c h''
        · intro he
          have he : ¬ 0 ≤ evK E z := by simpa using he
          rw [raw1_neg he, List.append_nil] at hrs
          refine n_skip1 (aft_next ?_)
          repeat (first | apply n_stp | refine n_add (by omega) ?_ | refine n_sub (by omega) ?_ | apply n_nil | refine n_region ?_ | refine n_region1 ?_ | refine n_assoc ?_ | refine n_skip ?_ | refine n_block ?_ | refine n_block1 ?_ | apply d_stp | refine d_add (by omega) ?_ | refine d_sub (by omega) ?_ | (apply d_nil; refine ⟨?zd, ?_⟩; (case zd => apply dr_reads; first | rfl | (simp; done))) | refine n_draw rfl ?_ | refine n_draw1 rfl ?_)
          refine rnd_next hkl ⟨inferInstance, inferInstance, inferInstance, inferInstance, inferInstance, inferInstance, inferInstance, inferInstance, inferInstance, inferInstance, hok', hle, hfr, l, inferInstance, ?_, ?_, hlnew⟩
          · rw [hrs]; exact hl
          · rw [hrs]; exact hln
      · intro hge
        have hge : ¬ k < U.length := by simpa using hge
        have hkU : k = U.length := by omega
        subst hkU
        rw [List.take_length] at hl hln
        have hUok : (uAt V i).all (okK E i) = true := by rw [huu]; exact all_getD fun m hm => hok m hm
        have hCl : (raw E R U).length ≤ 900 * 1000 := by
          have h1 := raw_len (E := E) (V := V) (i := i) U
          rw [hR] at h1
          exact Nat.le_trans h1 (Nat.mul_le_mul (by omega) (by omega))
        have hrm := raw_mem (E := E) (V := V) (i := i) (l := U) (by
          rw [huu, List.all_eq_true] at hUok
          exact fun z hz => (okK_iff.1 (hUok z hz)).2.2)
        rw [hR] at hrm
        obtain ⟨st2, low2, x, st4, low4, h18, h19, hl4, hf4, hcx, hxl⟩ := sortcompact (els := els) (c := !evsOk E) hl hln (by omega)
        rw [cmp_mks hrm] at hcx
        have hfr4 : ∀ c, c < st.length → st4[c]? = st[c]? := fun c hc => by
          rw [hf4 c (fun h => by have := hlnew c h; omega), hfr c hc]
        refine n_exit (rnd_exit (aft_exit ?_))
        repeat (first | apply n_stp | refine n_add (by omega) ?_ | refine n_sub (by omega) ?_ | apply n_nil | refine n_region ?_ | refine n_region1 ?_ | refine n_assoc ?_ | refine n_skip ?_ | refine n_block ?_ | refine n_block1 ?_ | apply d_stp | refine d_add (by omega) ?_ | refine d_sub (by omega) ?_ | (apply d_nil; refine ⟨?zd, ?_⟩; (case zd => apply dr_reads; first | rfl | (simp; done))) | refine n_draw rfl ?_ | refine n_draw1 rfl ?_)
        (apply n_call ?zz; (case zz => exact h18))
        repeat (first | apply n_stp | refine n_add (by omega) ?_ | refine n_sub (by omega) ?_ | apply n_nil | refine n_region ?_ | refine n_region1 ?_ | refine n_assoc ?_ | refine n_skip ?_ | refine n_block ?_ | refine n_block1 ?_ | apply d_stp | refine d_add (by omega) ?_ | refine d_sub (by omega) ?_ | (apply d_nil; refine ⟨?zd, ?_⟩; (case zd => apply dr_reads; first | rfl | (simp; done))) | refine n_draw rfl ?_ | refine n_draw1 rfl ?_)
        (apply n_call ?zz; (case zz => exact h19))
        repeat (first | apply n_stp | refine n_add (by omega) ?_ | refine n_sub (by omega) ?_ | apply n_nil | refine n_region ?_ | refine n_region1 ?_ | refine n_assoc ?_ | refine n_skip ?_ | refine n_block ?_ | refine n_block1 ?_ | apply d_stp | refine d_add (by omega) ?_ | refine d_sub (by omega) ?_ | (apply d_nil; refine ⟨?zd, ?_⟩; (case zd => apply dr_reads; first | rfl | (simp; done))) | refine n_draw rfl ?_ | refine n_draw1 rfl ?_)
        (apply n_bs ?zz; (case zz => exact bs28a hcx.one))
        repeat (first | apply n_stp | refine n_add (by omega) ?_ | refine n_sub (by omega) ?_ | apply n_nil | refine n_region ?_ | refine n_region1 ?_ | refine n_assoc ?_ | refine n_skip ?_ | refine n_block ?_ | refine n_block1 ?_ | apply d_stp | refine d_add (by omega) ?_ | refine d_sub (by omega) ?_ | (apply d_nil; refine ⟨?zd, ?_⟩; (case zd => apply dr_reads; first | rfl | (simp; done))) | refine n_draw rfl ?_ | refine n_draw1 rfl ?_)
        have hout4 : OutG st4 out cs := hc.out.frame fun b hb => hfr4 b (hol b hb)
        apply n_app i28 i33 ⟨by decide, by decide⟩ ?a0 ?a1 ?a2 ?a3 ?a4 ?a5 ?a6
        case a0 => exact wnt_go
        case a1 => infer_instance
        case a2 => infer_instance
        case a3 => exact hout4.app _
        case a4 => exact SrcG.one
        case a5 => simp [hcx.one.h]
        case a6 => rw [hc.len, hRl]; simp; omega
        intro out' st5 low5 f ha
        have hc' := hc.push hcx hfr4 (by omega) (fun b hb => hlnew b (hxl b hb)) ha
        have h0o : (0 : Nat) ∉ leadA (some out) := fun h => by
          rcases hc.out with ⟨rfl, _⟩ | ⟨b, ver, rfl, hb⟩
          · cases h
          · simp only [leadA, List.mem_singleton] at h
            subst h
            have := hbk.h
            rw [hb] at this; cases this
        have hbk5 : BK st5 0 ⟨2, 0, [els, evs]⟩ := ⟨by rw [app_frame ha (by simp) h0o, List.getElem?_append_left (by omega), hfr4 0 h00]; exact hbk.h⟩
        repeat (first | apply n_stp | refine n_add (by omega) ?_ | refine n_sub (by omega) ?_ | apply n_nil | refine n_region ?_ | refine n_region1 ?_ | refine n_assoc ?_ | refine n_skip ?_ | refine n_block ?_ | refine n_block1 ?_ | apply d_stp | refine d_add (by omega) ?_ | refine d_sub (by omega) ?_ | (apply d_nil; refine ⟨?zd, ?_⟩; (case zd => apply dr_reads; first | rfl | (simp; done))) | refine n_draw rfl ?_ | refine n_draw1 rfl ?_)
        refine rnd_next hlt ⟨inferInstance, inferInstance, inferInstance, inferInstance, inferInstance, inferInstance, fun j hj => ?_, out', cs ++ [x], inferInstance, ?_, .inr ?_⟩
        · rcases Nat.lt_or_ge j i with h' | h'
          · exact hall2 j h'
          · have : j = i := by omega
            subst this; exact hUok
        · rw [rowsN_eq, hR, huu]; exact hc'
        · rw [rowsN_eq]; simp
  · intro hge
    have hge : ¬ i < V.length := by simpa using hge
    have hiV : i = V.length := by omega
    subst hiV
    rw [causes_good hall1 hall2]
    refine n_exit (rnd_exit (aft_exit ?_))
    repeat (first | apply n_stp | refine n_add (by omega) ?_ | refine n_sub (by omega) ?_ | apply n_nil | refine n_region ?_ | refine n_region1 ?_ | refine n_assoc ?_ | refine n_skip ?_ | refine n_block ?_ | refine n_block1 ?_ | apply d_stp | refine d_add (by omega) ?_ | refine d_sub (by omega) ?_ | (apply d_nil; refine ⟨?zd, ?_⟩; (case zd => apply dr_reads; first | rfl | (simp; done))) | refine n_draw rfl ?_ | refine n_draw1 rfl ?_)
    refine n_ret1 ?_
    apply f_two rfl
    exact fresh_tup2 (hc.fresh hn) rfl
end Go.Proofs.YteaifkpmfbgekaaGreatDoor
