/- Tables that are asked by number. -/
import Derived.Test.YteaifkpmfbgekaaGreatDoorB5
import Derived.Test.YteaifkpmfbgekaaGreatDoorB4
set_option linter.all false
set_option linter.deprecated false
namespace Go.Proofs.YteaifkpmfbgekaaGreatDoor.M
open Go

inductive Tree (α : Type) where
  | leaf
  | one (a : α)
  | node (k : Nat) (l r : Tree α)

def Tree.get {α : Type} : Tree α → Nat → Option α
  | .leaf, _ => none
  | .one a, n => (match n with | 0 => some a | _ + 1 => none)
  | .node k l r, n => bif Nat.blt n k then l.get n else r.get (n - k)

def Tree.toList {α : Type} : Tree α → List α
  | .leaf => []
  | .one a => [a]
  | .node _ l r => l.toList ++ r.toList

/-- A property of each entry, with its number. -/
def Tree.All {α : Type} (p : Nat → α → Prop) : Nat → Tree α → Prop
  | _, .leaf => True
  | o, .one a => p o a
  | o, .node k l r => l.All p o ∧ r.All p (o + k)

def Tree.fits {α : Type} : Tree α → Nat → Bool
  | .leaf, n => n == 0
  | .one _, n => n == 1
  | .node k l r, n => l.fits k && Nat.ble k n && r.fits (n - k)

def Tree.all {α : Type} (p : α → Bool) : Tree α → Bool
  | .leaf => true
  | .one a => p a
  | .node _ l r => l.all p && r.all p

theorem Tree.get_all {α : Type} {p : Nat → α → Prop} : ∀ {t : Tree α} {o : Nat}, t.All p o → ∀ {n : Nat} {a : α}, t.get n = some a → p (o + n) a
  | .leaf, _, _, n, a, h => by simp [Tree.get] at h
  | .one b, o, hp, n, a, h => by
    cases n with
    | zero => simp only [Tree.get] at h; cases h; exact hp
    | succ n => simp [Tree.get] at h
  | .node k l r, o, hp, n, a, h => by
    simp only [Tree.get] at h
    cases hc : Nat.blt n k
    · rw [hc] at h
      have := r.get_all hp.2 h
      have hk : k ≤ n := by
        rcases Nat.lt_or_ge n k with h' | h'
        · have : Nat.blt n k = true := by simpa [Nat.blt_eq] using h'
          rw [hc] at this; cases this
        · exact h'
      have e : o + k + (n - k) = o + n := by omega
      rw [e] at this; exact this
    · rw [hc] at h
      exact l.get_all hp.1 h

theorem Tree.toList_len {α : Type} : ∀ {t : Tree α} {n : Nat}, t.fits n = true → t.toList.length = n
  | .leaf, n, h => by simp [Tree.fits] at h; simp [Tree.toList, h]
  | .one _, n, h => by simp [Tree.fits] at h; simp [Tree.toList, h]
  | .node k l r, n, h => by
    simp only [Tree.fits, Bool.and_eq_true] at h
    have h1 : k ≤ n := Nat.le_of_ble_eq_true h.1.2
    simp only [Tree.toList, List.length_append, l.toList_len h.1.1, r.toList_len h.2]
    omega

theorem Tree.get_list {α : Type} : ∀ {t : Tree α} {n : Nat}, t.fits n = true → ∀ {i : Nat} {a : α}, t.get i = some a → t.toList[i]? = some a
  | .leaf, _, _, i, a, h => by simp [Tree.get] at h
  | .one b, _, _, i, a, h => by
    cases i with
    | zero => simp only [Tree.get] at h; cases h; rfl
    | succ i => simp [Tree.get] at h
  | .node k l r, n, hf, i, a, h => by
    simp only [Tree.fits, Bool.and_eq_true] at hf
    simp only [Tree.get] at h
    simp only [Tree.toList]
    rw [List.getElem?_append, l.toList_len hf.1.1]
    cases hc : Nat.blt i k
    · rw [hc] at h
      have hk : ¬ i < k := by
        intro h'
        have : Nat.blt i k = true := by simpa [Nat.blt_eq] using h'
        rw [hc] at this; cases this
      rw [if_neg hk]
      exact r.get_list hf.2 h
    · rw [hc] at h
      have hk : i < k := by simpa [Nat.blt_eq] using hc
      rw [if_pos hk]
      exact l.get_list hf.1.1 h

theorem Tree.all_mem {α : Type} {p : α → Bool} : ∀ {t : Tree α}, t.all p = true → ∀ {i : Nat} {a : α}, t.get i = some a → p a = true
  | .leaf, _, i, a, h => by simp [Tree.get] at h
  | .one b, hp, i, a, h => by
    cases i with
    | zero => simp only [Tree.get] at h; cases h; exact hp
    | succ i => simp [Tree.get] at h
  | .node k l r, hp, i, a, h => by
    simp only [Tree.all, Bool.and_eq_true] at hp
    simp only [Tree.get] at h
    cases hc : Nat.blt i k
    · rw [hc] at h; exact r.all_mem hp.2 h
    · rw [hc] at h; exact l.all_mem hp.1 h

/-- The check of a function's code. -/
def codeOkB : Code → Bool
  | .region _ ops true => regionOk ops
  | .seq a b => codeOkB a && codeOkB b
  | .cond _ a b => codeOkB a && codeOkB b
  | .block _ a => codeOkB a
  | .loop a => codeOkB a
  | _ => true

theorem codeOkB_spec : ∀ {c : Code}, codeOkB c = true → CodeOk (fun ops => regionOk ops = true) c := by
  intro c
  induction c with
  | region id ops d => intro h; cases d <;> first | exact h | trivial
  | seq a b iha ihb => intro h; simp only [codeOkB, Bool.and_eq_true] at h; exact ⟨iha h.1, ihb h.2⟩
  | cond c a b iha ihb => intro h; simp only [codeOkB, Bool.and_eq_true] at h; exact ⟨iha h.1, ihb h.2⟩
  | block id a ih => intro h; exact ih h
  | loop a ih => intro h; exact ih h
  | _ => intro _; trivial

def fnOk (fn : Func) : Bool := !(fn.name == "runtime.NumGoroutine") && (match fn.body with | some c => codeOkB c | none => true)

/-- The tables of a program. -/
theorem envOk {P : Program} {fT : Tree Func} {tT : Tree TI} {srt frz : FuncId → Bool} {n : Nat} (hf : fT.fits n = true) (hl : fT.toList = P.funcs.toList) (ha : fT.All (fun _ fn => fnOk fn = true) 0) (ht : tT.All (TI.Ok P) 0) (hs : ∀ f, srt f = true → Sorts P f) :
    Env.Ok P ⟨fT.get, tT.get, srt, frz⟩ (fun ops => regionOk ops = true) where
  types := ⟨fun t i h => by have := Tree.get_all ht h; rwa [Nat.zero_add] at this⟩
  func f fn h := by
    have h1 := Tree.get_list hf h
    rw [hl, Array.getElem?_toList] at h1
    have h2 := Tree.get_all ha h
    unfold fnOk at h2
    simp only [Bool.and_eq_true, Bool.not_eq_true'] at h2
    refine ⟨h1, h2.1, fun c hc => ?_⟩
    rw [hc] at h2
    exact codeOkB_spec h2.2
  sort := hs
end Go.Proofs.YteaifkpmfbgekaaGreatDoor.M

namespace Go.Proofs.YteaifkpmfbgekaaGreatDoor.M
open Go
section
variable {E : Env} {call : CallR} {K : Nat}

/-- The evaluator comes to an end, and what it comes to. -/
def Ev (E : Env) (call : CallR) (K : Nat) (c : Code) (s : S) (Q : Ctl → S → Prop) : Prop := ∃ ctl s', codeA E call K c s = some (ctl, s') ∧ Q ctl s'

def Yes {α : Type} (o : Option α) (Q : α → Prop) : Prop := ∃ x, o = some x ∧ Q x
theorem Yes.some {α : Type} {x : α} {Q : α → Prop} : Yes (some x) Q ↔ Q x := ⟨fun ⟨_, h, q⟩ => (Option.some.inj h) ▸ q, fun q => ⟨x, rfl, q⟩⟩
theorem Yes.none {α : Type} {Q : α → Prop} : Yes (none : Option α) Q ↔ False := ⟨fun ⟨_, h, _⟩ => (nomatch h), False.elim⟩

theorem Ev.mono {c : Code} {s : S} {Q Q' : Ctl → S → Prop} (h : Ev E call K c s Q) (hq : ∀ ctl s, Q ctl s → Q' ctl s) : Ev E call K c s Q' := by
  obtain ⟨a, b, h1, h2⟩ := h
  exact ⟨a, b, h1, hq _ _ h2⟩

theorem Ev.skip {s : S} {Q : Ctl → S → Prop} (h : Q .next s) : Ev E call K .skip s Q := ⟨_, _, rfl, h⟩
theorem Ev.ret {s : S} {Q : Ctl → S → Prop} (h : Q .ret s) : Ev E call K .ret s Q := ⟨_, _, rfl, h⟩
theorem Ev.exit {id : Nat} {s : S} {Q : Ctl → S → Prop} (h : Q (.exit id) s) : Ev E call K (.exit id) s Q := ⟨_, _, rfl, h⟩

theorem Ev.seq {a b : Code} {s : S} {Q : Ctl → S → Prop} (h : Ev E call K a s fun ctl s' => match ctl with | .next => Ev E call K b s' Q | c => Q c s') : Ev E call K (.seq a b) s Q := by
  obtain ⟨ctl, s', h1, h2⟩ := h
  cases ctl with
  | next =>
    obtain ⟨c2, s2, h3, h4⟩ := h2
    exact ⟨c2, s2, by simp only [codeA, h1, h3], h4⟩
  | exit id => exact ⟨_, s', by simp only [codeA, h1], h2⟩
  | ret => exact ⟨_, s', by simp only [codeA, h1], h2⟩

theorem Ev.region {id : Nat} {ops : Array Oper} {s : S} {Q : Ctl → S → Prop} (h : Yes (opsA E call ops ops.toList s) fun s' => Q .next s') : Ev E call K (.region id ops false) s Q := by
  obtain ⟨s', h1, h2⟩ := h
  exact ⟨.next, s', by simp only [codeA, h1], h2⟩

theorem Ev.draw {id : Nat} {ops : Array Oper} {s : S} {Q : Ctl → S → Prop} (h : Yes (opsTA E call ops (orderA ops) s) fun x => drawA (orderA ops) x.2 = true ∧ Q .next x.1) : Ev E call K (.region id ops true) s Q := by
  obtain ⟨⟨s', fs⟩, h1, h2, h3⟩ := h
  exact ⟨.next, s', by simp only [codeA, h1, h2, if_true], h3⟩

theorem Ev.cond {c : Operand} {a b : Code} {s : S} {Q : Ctl → S → Prop} (t : Bool) (hc : opdA s.sl c = some (.bool t)) (h1 : t = true → Ev E call K a s Q) (h2 : t = false → Ev E call K b s Q) : Ev E call K (.cond c a b) s Q := by
  cases t with
  | true =>
    obtain ⟨x, y, e, q⟩ := h1 rfl
    exact ⟨x, y, by simp only [codeA, hc, if_true]; exact e, q⟩
  | false =>
    obtain ⟨x, y, e, q⟩ := h2 rfl
    exact ⟨x, y, by simp only [codeA, hc, Bool.false_eq_true, if_false]; exact e, q⟩

theorem Ev.block {id : Nat} {a : Code} {s : S} {Q : Ctl → S → Prop} (h : Ev E call K a s fun ctl s' => match ctl with | .exit i => if i = id then Q .next s' else Q (.exit i) s' | c => Q c s') : Ev E call K (.block id a) s Q := by
  obtain ⟨ctl, s', h1, h2⟩ := h
  cases ctl with
  | next => exact ⟨_, s', by simp only [codeA, h1], h2⟩
  | ret => exact ⟨_, s', by simp only [codeA, h1], h2⟩
  | exit i =>
    by_cases he : i = id
    · simp only [he, if_true] at h2
      exact ⟨.next, s', by simp only [codeA, h1, he, if_true], h2⟩
    · simp only [he, if_false] at h2
      exact ⟨.exit i, s', by simp only [codeA, h1, he, if_false], h2⟩

theorem iter_ev {body : S → Option (Ctl × S)} (P : Nat → S → Prop) (R : Ctl → S → Prop) (n : Nat) (hstep : ∀ i s, i ≤ n → P i s → ∃ ctl s', body s = some (ctl, s') ∧ ((ctl = .next ∧ i < n ∧ P (i + 1) s') ∨ (ctl ≠ .next ∧ R ctl s'))) :
    ∀ (k i : Nat) (s : S), i ≤ n → n - i < k → P i s → ∃ ctl s', iterA body k s = some (ctl, s') ∧ ctl ≠ .next ∧ R ctl s'
  | 0, i, s, _, h, _ => by omega
  | k + 1, i, s, hi, hk, hp => by
    obtain ⟨ctl, s', h1, h2⟩ := hstep i s hi hp
    rcases h2 with ⟨rfl, hlt, hp'⟩ | ⟨hne, hr⟩
    · obtain ⟨c, s2, h3, h4⟩ := iter_ev P R n hstep k (i + 1) s' hlt (by omega) hp'
      exact ⟨c, s2, by simp only [iterA, h1, h3], h4⟩
    · refine ⟨ctl, s', ?_, hne, hr⟩
      simp only [iterA, h1]
      cases ctl with
      | next => exact absurd rfl hne
      | _ => rfl

/-- A loop: what holds at each round; it ends by an exit or a return. -/
theorem Ev.loop {a : Code} {s : S} {Q : Ctl → S → Prop} (P : Nat → S → Prop) (n : Nat) (hn : n < K) (h0 : P 0 s)
    (hstep : ∀ i s, i ≤ n → P i s → Ev E call K a s fun ctl s' => (ctl = .next ∧ i < n ∧ P (i + 1) s') ∨ (ctl ≠ .next ∧ Q ctl s')) : Ev E call K (.loop a) s Q := by
  obtain ⟨c, s', h1, _, h3⟩ := iter_ev P Q n hstep K 0 s (Nat.zero_le _) (by omega) h0
  exact ⟨c, s', h1, h3⟩

/-- A call. -/
theorem call_ev {n : Nat} {f : FuncId} {fn : Func} {c : Code} {args : List AV} {st : List Blk} {R : AV × List Blk × Nat → Prop} (hf : E.func f = some fn) (hb : fn.body = some c) (hs : E.srt f = false)
    (h : Ev E (callA E K n) K c ⟨args ++ List.replicate (fn.ntmps - args.length) .undef, st, st.length⟩ fun ctl s => (ctl = .next ∨ ctl = .ret) ∧ Yes (resultsA E s fn.results.toList) fun vs => R (leaveA (E.frz f) st.length (oneA vs) s.st s.low)) :
    Yes (callA E K (n + 1) f args st) R := by
  obtain ⟨ctl, s, h1, h2, vs, h3, h4⟩ := h
  refine ⟨_, ?_, h4⟩
  simp only [callA, callS, hf, hb, hs, Bool.false_eq_true, if_false, h1, h2, if_true, h3]
end
end Go.Proofs.YteaifkpmfbgekaaGreatDoor.M

namespace Go.Proofs.YteaifkpmfbgekaaGreatDoor.M
open Go
abbrev I (n : Int) : AV := .int .i64 n

section
variable {E : Env} {call : CallR} {K : Nat} {s : S} {Q : Ctl → S → Prop}
theorem ev_seq {a b : Code} : Ev E call K (.seq a b) s Q ↔ Ev E call K a s fun ctl s' => match ctl with | .next => Ev E call K b s' Q | c => Q c s' := by
  refine ⟨fun ⟨ctl, s2, h, q⟩ => ?_, Ev.seq⟩
  simp only [codeA] at h
  cases h1 : codeA E call K a s with
  | none => rw [h1] at h; cases h
  | some x =>
    obtain ⟨c, s'⟩ := x
    rw [h1] at h
    cases c with
    | next => exact ⟨_, _, h1, ⟨ctl, s2, h, q⟩⟩
    | exit id => cases h; exact ⟨_, _, h1, q⟩
    | ret => cases h; exact ⟨_, _, h1, q⟩
theorem ev_region {id : Nat} {ops : Array Oper} : Ev E call K (.region id ops false) s Q ↔ Yes (opsA E call ops ops.toList s) fun s' => Q .next s' := by
  refine ⟨fun ⟨ctl, s2, h, q⟩ => ?_, Ev.region⟩
  simp only [codeA] at h
  split at h
  · rename_i hx; cases h; exact ⟨_, hx, q⟩
  · cases h
theorem ev_draw {id : Nat} {ops : Array Oper} : Ev E call K (.region id ops true) s Q ↔ Yes (opsTA E call ops (orderA ops) s) fun x => drawA (orderA ops) x.2 = true ∧ Q .next x.1 := by
  refine ⟨fun ⟨ctl, s2, h, q⟩ => ?_, Ev.draw⟩
  simp only [codeA] at h
  split at h
  · rename_i s3 fs hx
    split at h
    · rename_i hd; cases h; exact ⟨_, hx, hd, q⟩
    · cases h
  · cases h
theorem ev_skip : Ev E call K .skip s Q ↔ Q .next s := ⟨fun ⟨_, _, h, q⟩ => by cases h; exact q, Ev.skip⟩
theorem ev_ret : Ev E call K .ret s Q ↔ Q .ret s := ⟨fun ⟨_, _, h, q⟩ => by cases h; exact q, Ev.ret⟩
theorem ev_exit {id : Nat} : Ev E call K (.exit id) s Q ↔ Q (.exit id) s := ⟨fun ⟨_, _, h, q⟩ => by cases h; exact q, Ev.exit⟩
theorem ev_block {id : Nat} {a : Code} : Ev E call K (.block id a) s Q ↔ Ev E call K a s fun ctl s' => match ctl with | .exit i => if i = id then Q .next s' else Q (.exit i) s' | c => Q c s' := by
  refine ⟨fun ⟨ctl, s2, h, q⟩ => ?_, Ev.block⟩
  simp only [codeA] at h
  split at h
  · rename_i i s3 hx
    split at h
    · rename_i he; cases h; exact ⟨_, _, hx, by simp only [he, if_true]; exact q⟩
    · rename_i he; cases h; exact ⟨_, _, hx, by simp only [he, if_false]; exact q⟩
  · rename_i hx
    cases ctl with
    | exit i => exact absurd h (hx i s2)
    | next => exact ⟨_, _, h, q⟩
    | ret => exact ⟨_, _, h, q⟩
theorem ev_cond {c : Operand} {a b : Code} : Ev E call K (.cond c a b) s Q ↔ ∃ t, opdA s.sl c = some (.bool t) ∧ (if t = true then Ev E call K a s Q else Ev E call K b s Q) := by
  constructor
  · rintro ⟨ctl, s2, h, q⟩
    simp only [codeA] at h
    split at h
    · rename_i t ht
      refine ⟨t, ht, ?_⟩
      cases t with
      | true => exact ⟨_, _, h, q⟩
      | false => exact ⟨_, _, h, q⟩
    · cases h
  · rintro ⟨t, ht, h⟩
    refine Ev.cond t ht (fun e => ?_) (fun e => ?_)
    · subst e; exact h
    · subst e; exact h
theorem yes_some {α : Type} {x : α} {R : α → Prop} : Yes (some x) R ↔ R x := Yes.some
end

/-- Known calls as a function. -/
def lookF (spec : FuncId → List AV → Option AV) : CallR := fun f args st =>
  match mapO (frzA st 0 12) args with
  | none => none
  | some cs => match spec f cs with
    | some r => some (r, st, st.length)
    | none => none

theorem lookF_spec {spec : FuncId → List AV → Option AV} {f : FuncId} {args : List AV} {st : List Blk} {x : AV × List Blk × Nat} (hx : lookF spec f args st = some x) :
    ∃ cs r, spec f cs = some r ∧ lookK [⟨f, cs, r⟩] f args st = some x := by
  unfold lookF at hx
  split at hx
  · cases hx
  · rename_i cs hcs
    split at hx
    · rename_i r' hr
      cases hx
      refine ⟨cs, r', hr, ?_⟩
      have hb : Nat.beq f f = true := Nat.beq_refl f
      have hc : AV.beqs cs cs = true := AV.beqs_self cs
      simp only [lookK, anyF, findK, hb, Bool.true_or, if_true, hcs, hc, Bool.and_self]
    · cases hx

theorem lookF_sound {P : Program} {spec : FuncId → List AV → Option AV} (h : ∀ f cs r, spec f cs = some r → GoodK P ⟨f, cs, r⟩) : SoundCall P (lookF spec) := by
  have key : ∀ f cs r, spec f cs = some r → SoundCall P (lookK [⟨f, cs, r⟩]) := fun f cs r hs => lookK_sound (T := [⟨f, cs, r⟩]) fun e he => by
    simp only [List.mem_singleton] at he; subst he; exact h f cs r hs
  refine ⟨fun f args st r st' low hx => ?_, fun f args st r st' low hx => ?_, fun f args st r st' low hx => ?_⟩
  · obtain ⟨cs, r', hs, hl⟩ := lookF_spec hx
    exact (key _ _ _ hs).fn _ _ _ _ _ _ hl
  · obtain ⟨cs, r', hs, hl⟩ := lookF_spec hx
    exact (key _ _ _ hs).len _ _ _ _ _ _ hl
  · obtain ⟨cs, r', hs, hl⟩ := lookF_spec hx
    exact (key _ _ _ hs).calls _ _ _ _ _ _ hl
end Go.Proofs.YteaifkpmfbgekaaGreatDoor.M

namespace Go.Proofs.YteaifkpmfbgekaaGreatDoor.M
open Go

theorem mapO_congr {f g : AV → Option AV} : ∀ {l : List AV}, (∀ x ∈ l, f x = g x) → mapO f l = mapO g l
  | [], _ => rfl
  | x :: l, h => by simp only [mapO, h x (List.mem_cons_self ..), mapO_congr fun y hy => h y (List.mem_cons_of_mem _ hy)]

theorem fresh_bare (st st' : List Blk) : ∀ (d : Nat) (v : AV), v.bare = true → freshA st d v = freshA st' d v
  | 0, v, _ => rfl
  | d + 1, v, h => by cases v <;> first | rfl | simp [AV.bare] at h
theorem fresh_bare1 (st st' : List Blk) : ∀ (d : Nat) (v : AV), v.bare1 = true → freshA st d v = freshA st' d v
  | 0, v, _ => rfl
  | d + 1, v, h => by
    cases v with
    | agg l =>
      simp only [AV.bare1, List.all_eq_true] at h
      simp only [freshA, mapO_congr fun x hx => fresh_bare st st' d x (h x hx)]
    | sl => simp [AV.bare1, AV.bare] at h
    | tup => simp [AV.bare1, AV.bare] at h
    | _ => rfl
theorem fresh_bare2 (st st' : List Blk) : ∀ (d : Nat) (v : AV), v.bare2 = true → freshA st d v = freshA st' d v
  | 0, v, _ => rfl
  | d + 1, v, h => by
    cases v with
    | tup l =>
      simp only [AV.bare2, List.all_eq_true] at h
      simp only [freshA, mapO_congr fun x hx => fresh_bare1 st st' d x (h x hx)]
    | agg l => exact fresh_bare1 st st' (d + 1) (.agg l) (by simpa [AV.bare2] using h)
    | sl => simp [AV.bare2, AV.bare1, AV.bare] at h
    | _ => rfl

section
variable {P : Program} {E : Env} {K : Nat} {call : CallR} {f : FuncId} {fn : Func} {c : Code} {args : List AV}

theorem callS_ev {st : List Blk} {R : AV × List Blk × Nat → Prop} (hf : E.func f = some fn) (hb : fn.body = some c) (hs : E.srt f = false)
    (h : Ev E call K c ⟨args ++ List.replicate (fn.ntmps - args.length) .undef, st, st.length⟩ fun ctl s => (ctl = .next ∨ ctl = .ret) ∧ Yes (resultsA E s fn.results.toList) fun vs => R (leaveA (E.frz f) st.length (oneA vs) s.st s.low)) :
    Yes (callS E K call f args st) R := by
  obtain ⟨ctl, s, h1, h2, vs, h3, h4⟩ := h
  refine ⟨_, ?_, h4⟩
  simp only [callS, hf, hb, hs, Bool.false_eq_true, if_false, h1, h2, if_true, h3]

/-- A function's run from the empty store, its result all new: a known call. -/
theorem good_run (hE : Env.Ok P E (fun ops => regionOk ops = true)) (hm : P.follows .mixedOrders = true) (hc : SoundCall P call) (hf : E.func f = some fn) (hb : fn.body = some c) (hs : E.srt f = false) (hz : E.frz f = false) {r : AV}
    (h : Ev E call K c ⟨args ++ List.replicate (fn.ntmps - args.length) .undef, [], 0⟩ fun ctl s => (ctl = .next ∨ ctl = .ret) ∧ Yes (resultsA E s fn.results.toList) fun vs => freshA s.st 12 (oneA vs) = some r) :
    GoodK P ⟨f, args, r⟩ := by
  obtain ⟨⟨r', st', low⟩, h1, h2⟩ := callS_ev (R := fun x => freshA x.2.1 12 x.1 = some r) (st := []) hf hb hs (h.mono fun ctl s ⟨q1, vs, q2, q3⟩ => ⟨q1, vs, q2, by
    rw [hz]
    unfold leaveA
    simp only [List.length_nil, Nat.zero_le, if_true]
    split
    · rename_i hb2
      rw [← q3]; exact fresh_bare2 _ _ 12 _ hb2
    · simp only [Bool.false_eq_true, if_false]; exact q3⟩)
  exact good_known (callS_sound hE (fun _ h => draw_sound h hE.types hm) K hc) (e := ⟨f, args, r⟩) h1 h2
end
end Go.Proofs.YteaifkpmfbgekaaGreatDoor.M

namespace Go.Proofs.YteaifkpmfbgekaaGreatDoor.M
open Go
section
variable {E : Env} {call : CallR} {K : Nat} {s : S} {Q : Ctl → S → Prop}

/-- What one operation comes to (as a relation, so that it is never unfolded). -/
inductive Stp (E : Env) (call : CallR) (ops : Array Oper) (o : Oper) (s s' : S) (f : Foot) : Prop
  | mk (h : stepA E call ops o s = some (s', f))
theorem Stp.eq {ops : Array Oper} {o : Oper} {s' : S} {f : Foot} (h : Stp E call ops o s s' f) : stepA E call ops o s = some (s', f) := by cases h; assumption

theorem y_step {ops : Array Oper} {o : Oper} {l : List Oper} {s' : S} {f : Foot} {R : S → Prop} (h : Stp E call ops o s s' f) (k : Yes (opsA E call ops l s') R) : Yes (opsA E call ops (o :: l) s) R := by
  obtain ⟨x, h1, h2⟩ := k
  exact ⟨x, by simp only [opsA, h.eq, h1], h2⟩
theorem y_nil {ops : Array Oper} {R : S → Prop} (h : R s) : Yes (opsA E call ops [] s) R := ⟨s, rfl, h⟩
/-- A drawn region, step by step: what each operation has touched is kept. -/
theorem t_step {ops : Array Oper} {i : Nat} {o : Oper} {l : List (Nat × Oper)} {s' : S} {f : Foot} {R : S × List Foot → Prop} (h : Stp E call ops o s s' f) (k : Yes (opsTA E call ops l s') fun x => R (x.1, f :: x.2)) : Yes (opsTA E call ops ((i, o) :: l) s) R := by
  obtain ⟨x, h1, h2⟩ := k
  exact ⟨(x.1, f :: x.2), by simp only [opsTA, h.eq, h1], h2⟩
theorem t_nil {ops : Array Oper} {R : S × List Foot → Prop} (h : R (s, [])) : Yes (opsTA E call ops [] s) R := ⟨(s, []), rfl, h⟩

theorem s_region {id : Nat} {ops : Array Oper} {b : Code} (h : Yes (opsA E call ops ops.toList s) fun s' => Ev E call K b s' Q) : Ev E call K (.seq (.region id ops false) b) s Q := ev_seq.2 (ev_region.2 h)
theorem e_region {id : Nat} {ops : Array Oper} (h : Yes (opsA E call ops ops.toList s) fun s' => Q .next s') : Ev E call K (.region id ops false) s Q := ev_region.2 h
theorem s_draw {id : Nat} {ops : Array Oper} {b : Code} (h : Yes (opsTA E call ops (orderA ops) s) fun x => drawA (orderA ops) x.2 = true ∧ Ev E call K b x.1 Q) : Ev E call K (.seq (.region id ops true) b) s Q := ev_seq.2 (ev_draw.2 h)
theorem e_draw {id : Nat} {ops : Array Oper} (h : Yes (opsTA E call ops (orderA ops) s) fun x => drawA (orderA ops) x.2 = true ∧ Q .next x.1) : Ev E call K (.region id ops true) s Q := ev_draw.2 h
theorem s_assoc {a b c : Code} (h : Ev E call K (.seq a (.seq b c)) s Q) : Ev E call K (.seq (.seq a b) c) s Q := by
  refine ev_seq.2 (ev_seq.2 ?_)
  refine (ev_seq.1 h).mono fun ctl s' h' => ?_
  cases ctl with
  | next => exact ev_seq.1 h'
  | exit id => exact h'
  | ret => exact h'
theorem s_cond {c : Operand} {a b k : Code} (t : Bool) (hc : opdA s.sl c = some (.bool t)) (h1 : t = true → Ev E call K (.seq a k) s Q) (h2 : t = false → Ev E call K (.seq b k) s Q) : Ev E call K (.seq (.cond c a b) k) s Q := by
  refine ev_seq.2 (Ev.cond t hc (fun e => ev_seq.1 (h1 e)) fun e => ev_seq.1 (h2 e))
theorem s_skip {k : Code} (h : Ev E call K k s Q) : Ev E call K (.seq .skip k) s Q := ev_seq.2 (ev_skip.2 h)
theorem s_ret {k : Code} (h : Q .ret s) : Ev E call K (.seq .ret k) s Q := ev_seq.2 (ev_ret.2 h)
theorem s_exit {id : Nat} {k : Code} (h : Q (.exit id) s) : Ev E call K (.seq (.exit id) k) s Q := ev_seq.2 (ev_exit.2 h)
/-- After a block: where its code ends of itself or by the block's own exit, the rest goes on. -/
def aft (id : Nat) (R : S → Prop) (Q : Ctl → S → Prop) : Ctl → S → Prop := fun ctl s' => match ctl with
  | .next => R s'
  | .exit i => if i = id then R s' else Q (.exit i) s'
  | .ret => Q .ret s'
theorem s_block {id : Nat} {a k : Code} (h : Ev E call K a s (aft id (fun s' => Ev E call K k s' Q) Q)) : Ev E call K (.seq (.block id a) k) s Q := by
  refine ev_seq.2 (ev_block.2 (h.mono fun ctl s' h' => ?_))
  cases ctl with
  | next => exact h'
  | ret => exact h'
  | exit i =>
    simp only [aft] at h' ⊢
    split
    · rename_i e; rw [if_pos e] at h'; exact h'
    · rename_i e; rw [if_neg e] at h'; exact h'
theorem e_block {id : Nat} {a : Code} (h : Ev E call K a s (aft id (fun s' => Q .next s') Q)) : Ev E call K (.block id a) s Q := by
  refine ev_block.2 (h.mono fun ctl s' h' => ?_)
  cases ctl with
  | next => exact h'
  | ret => exact h'
  | exit i => exact h'
theorem aft_exit {id : Nat} {R : S → Prop} (h : R s) : aft id R Q (.exit id) s := by simp only [aft, if_true]; exact h
theorem aft_next {id : Nat} {R : S → Prop} (h : R s) : aft id R Q .next s := h
theorem aft_ret {id : Nat} {R : S → Prop} (h : Q .ret s) : aft id R Q .ret s := h
theorem aft_other {id i : Nat} {R : S → Prop} (hne : i ≠ id) (h : Q (.exit i) s) : aft id R Q (.exit i) s := by simp only [aft, if_neg hne]; exact h

theorem get_same {l : List AV} {i : Nat} {v : AV} (h : i < l.length) : (l.set i v)[i]? = some v := by simp [h]
theorem get_other {l : List AV} {i j : Nat} {v : AV} {r : Option AV} (hne : i ≠ j) (h : l[j]? = r) : (l.set i v)[j]? = r := by rw [List.getElem?_set_ne hne]; exact h
end

/-! ### Read-only rows -/

/-- A slice that is only read: n elements of so many cells. -/
def Row (v : AV) (sz n : Nat) (cells : List AV) : Prop := (v = .nils ∧ n = 0 ∧ cells = []) ∨ (v = .imm n cells ∧ cells.length = n * sz)

theorem row_len {E : Env} {t e : TypeId} {sz b : Nat} {z : Option (List AV)} {q : List CK} (hi : E.info t = some ⟨.slice e, sz, b, z, q⟩) {v : AV} {k n : Nat} {cells : List AV} (h : Row v k n cells) : lenA E [t] [v] = some (I n) := by
  rcases h with ⟨rfl, rfl, _⟩ | ⟨rfl, _⟩ <;> simp only [lenA, hi] <;> rfl

theorem row_at {E : Env} {t e : TypeId} {sz b : Nat} {z : Option (List AV)} {q : List CK} (hi : E.info t = some ⟨.slice e, sz, b, z, q⟩) {j : TI} (hj : E.info e = some j) {v : AV} {n : Nat} {cells : List AV} (h : Row v j.size n cells) (hp : 0 < j.size)
    {i : Int} (h0 : 0 ≤ i) (h1 : i < n) : indexAddrA E t v (I i) = some (.iptr (cells.drop (i.toNat * j.size))) := by
  rcases h with ⟨rfl, rfl, _⟩ | ⟨rfl, _⟩
  · omega
  · simp only [indexAddrA, hi, hj]
    rw [if_pos ⟨h0, h1, hp⟩]
end Go.Proofs.YteaifkpmfbgekaaGreatDoor.M
