/-
  The engine, part 16: contracts of functions, and the step of a call.
-/
import Derived.Test.YthkfedghiklmeaaEng15
namespace Go.Bx
open Go.RowKit

def okF (P : Program) (f : FuncId) : Bool :=
  match P.funcs[f]? with
  | some fn => fn.name != "runtime.NumGoroutine" && fn.body.isSome
  | none => false

/-- A CONTRACT. Called with values that read as 'args', the own blocks 'ins' being as told (no other own block of the caller is touched), the function returns a value that reads as 'res', and the own blocks 'outs' are as told behind it. -/
def Ctr (P : Program) (f : FuncId) (args : List V) (ins : List (Nat × Own)) (res : V) (outs : List (Nat × Own)) (new : List Nat) : Prop :=
  okF P f = true ∧ (∀ k, k ∈ keysO outs → k ∈ keysO ins ∨ k ∈ new) ∧ (∀ k, k ∈ new → k ∈ keysO outs) ∧
  ∀ (E0 : Nat → Prop) (β : Names) (w : World) (vals : Array Value), (∀ b, E0 b → b < w.heap.size) → vals.size = args.length →
    (∀ (j : Nat) (v : Value) (x : V), vals[j]? = some v → args[j]? = some x → RelV β (Eo E0 β ins) w v x) → OwnsOk E0 β w ins → (∀ k, k ∈ new → β k = none) →
    Calls P f vals w fun e w' => ∃ v β', e = .returned v ∧ β.le β' ∧ (∀ k, k ∉ new → β' k = β k) ∧ RelV β' (Eo E0 β' outs) w' v res ∧ OwnsOk E0 β' w' outs ∧ Keeps (ownB β ins) w w' ∧
      (∀ k, k ∈ keysO outs → ∀ b, β'.blk k = some b → w.heap.size ≤ b ∨ ownB β ins b)

theorem own?_setO (l : List (Nat × Own)) (k : Nat) (o : Own) (k1 : Nat) : own? (setO l k o) k1 = if k1 = k then some o else own? l k1 := by
  induction l with
  | nil =>
    simp only [setO, own?]
    by_cases h : k = k1
    · rw [if_pos h, if_pos h.symm]
    · rw [if_neg h, if_neg (fun e => h e.symm)]
  | cons p l ih =>
    obtain ⟨k', o'⟩ := p
    simp only [setO]
    by_cases h : k' = k
    · subst h
      rw [if_pos rfl]
      simp only [own?]
      by_cases h2 : k' = k1
      · subst h2; simp
      · rw [if_neg h2, if_neg (fun e => h2 e.symm), if_neg h2]
    · rw [if_neg h]
      simp only [own?, ih]
      by_cases h2 : k' = k1
      · subst h2; rw [if_pos rfl, if_neg h, if_pos rfl]
      · rw [if_neg h2, if_neg h2]

theorem own?_none {l : List (Nat × Own)} {k : Nat} (h : k ∉ keysO l) : own? l k = none := by
  cases he : own? l k with
  | none => rfl
  | some o => exact absurd (mem_keys (own?_mem he)) h

theorem own?_delO {l : List (Nat × Own)} (hn : (keysO l).Nodup) (k k1 : Nat) : own? (delO l k) k1 = if k1 = k then none else own? l k1 := by
  induction l with
  | nil => simp [delO, own?]
  | cons p l ih =>
    obtain ⟨k', o'⟩ := p
    simp only [keysO, List.map_cons, List.nodup_cons] at hn
    simp only [delO]
    by_cases h : k' = k
    · subst h
      rw [if_pos rfl]
      simp only [own?]
      by_cases h2 : k' = k1
      · subst h2; rw [if_pos rfl]; exact own?_none hn.1
      · rw [if_neg h2, if_neg (fun e => h2 e.symm)]
    · rw [if_neg h]
      simp only [own?, ih hn.2]
      by_cases h2 : k' = k1
      · subst h2; rw [if_pos rfl, if_neg h, if_pos rfl]
      · rw [if_neg h2, if_neg h2]

theorem key_iff {l : List (Nat × Own)} {k : Nat} : k ∈ keysO l ↔ ∃ o, own? l k = some o := by
  constructor
  · intro h
    induction l with
    | nil => simp [keysO] at h
    | cons p l ih =>
      obtain ⟨k', o'⟩ := p
      simp only [own?]
      by_cases e : k' = k
      · exact ⟨o', by rw [if_pos e]⟩
      · simp only [keysO, List.map_cons, List.mem_cons] at h
        obtain ⟨o, ho⟩ := ih (h.resolve_left (fun x => e x.symm))
        exact ⟨o, by rw [if_neg e]; exact ho⟩
  · rintro ⟨o, ho⟩
    exact mem_keys (own?_mem ho)

/-- What a call does to the own blocks: those lent go, those that come back come. -/
def callU (ins outs : List (Nat × Own)) : List (Nat × Option Own) := ins.map (fun p => (p.1, none)) ++ outs.map (fun p => (p.1, some p.2))

theorem nodup_applyU : ∀ (u : List (Nat × Option Own)) {l : List (Nat × Own)}, (keysO l).Nodup → (keysO (applyU l u)).Nodup
  | [], _, h => h
  | (_, some _) :: u, _, h => nodup_applyU u (nodup_setO h)
  | (_, none) :: u, _, h => nodup_applyU u (nodup_delO h)

theorem applyU_app : ∀ (u v : List (Nat × Option Own)) (l : List (Nat × Own)), applyU l (u ++ v) = applyU (applyU l u) v
  | [], _, _ => rfl
  | (_, some _) :: u, v, _ => applyU_app u v _
  | (_, none) :: u, v, _ => applyU_app u v _

theorem applyU_dels : ∀ (ins : List (Nat × Own)) {l : List (Nat × Own)}, (keysO l).Nodup → ∀ k, own? (applyU l (ins.map fun p => (p.1, none))) k = if k ∈ keysO ins then none else own? l k
  | [], l, _, k => by simp [applyU, keysO]
  | (k0, o) :: ins, l, h, k => by
    simp only [List.map_cons, applyU]
    rw [applyU_dels ins (nodup_delO h), own?_delO h]
    simp only [keysO, List.map_cons, List.mem_cons]
    by_cases h1 : k ∈ List.map (fun x => x.1) ins
    · simp [h1]
    · by_cases h2 : k = k0
      · subst h2; simp [h1]
      · simp [h1, h2]

theorem applyU_sets : ∀ (outs : List (Nat × Own)) (l : List (Nat × Own)), (keysO outs).Nodup → ∀ k, own? (applyU l (outs.map fun p => (p.1, some p.2))) k = match own? outs k with | some o => some o | none => own? l k
  | [], l, _, k => by simp [applyU, own?]
  | (k0, o) :: outs, l, h, k => by
    simp only [keysO, List.map_cons, List.nodup_cons] at h
    simp only [List.map_cons, applyU]
    rw [applyU_sets outs _ h.2, own?_setO]
    simp only [own?]
    by_cases h2 : k0 = k
    · subst h2
      rw [if_pos rfl, own?_none h.1]
      simp
    · rw [if_neg h2, if_neg (fun e => h2 e.symm)]

theorem own?_call {l ins outs : List (Nat × Own)} (hl : (keysO l).Nodup) (ho : (keysO outs).Nodup) (k : Nat) :
    own? (applyU l (callU ins outs)) k = match own? outs k with | some o => some o | none => if k ∈ keysO ins then none else own? l k := by
  unfold callU
  rw [applyU_app, applyU_sets outs _ ho, applyU_dels ins hl]

theorem newN_mem (u : List (Nat × Option Own)) : ∀ (nm : List Nat) (k : Nat), k ∈ newN nm u ↔ k ∈ nm ∨ ∃ o, (k, some o) ∈ u := by
  induction u with
  | nil => simp [newN]
  | cons p u ih =>
    obtain ⟨k0, o⟩ := p
    intro nm k
    cases o with
    | none => simp only [newN, ih]; simp
    | some o =>
      simp only [newN, ih]
      by_cases h : k0 ∈ nm
      · rw [if_pos h]
        constructor
        · rintro (h1 | ⟨o', h1⟩)
          · exact .inl h1
          · exact .inr ⟨o', by simp [h1]⟩
        · rintro (h1 | ⟨o', h1⟩)
          · exact .inl h1
          · rcases List.mem_cons.1 h1 with h1 | h1
            · simp at h1; exact .inl (h1.1 ▸ h)
            · exact .inr ⟨o', h1⟩
      · rw [if_neg h]
        constructor
        · rintro (h1 | ⟨o', h1⟩)
          · rcases List.mem_cons.1 h1 with h1 | h1
            · exact .inr ⟨o, by simp [h1]⟩
            · exact .inl h1
          · exact .inr ⟨o', by simp [h1]⟩
        · rintro (h1 | ⟨o', h1⟩)
          · exact .inl (by simp [h1])
          · rcases List.mem_cons.1 h1 with h1 | h1
            · simp at h1; exact .inl (by simp [h1.1])
            · exact .inr ⟨o', h1⟩

theorem run_callFunc {P : Program} {f : FuncId} {w : World} (h : okF P f = true) (args : Array Value) : (callFunc f args).run P w = .ok (.enter f args) w := by
  unfold okF at h
  split at h
  · rename_i fn hf
    simp at h
    have h2 : fn.body ≠ none := fun e => by simp [e] at h
    simp [callFunc, hf, h.1, h2]
  · cases h

section
variable {c : Ctx} {β : Names} {a : Act} {w : World}

/-- The state behind a call. -/
theorem call_state {st1 : St} (H : Holds c β st1 a w) {ins outs : List (Nat × Own)} {new : List Nat} {β' : Names} {w' : World} (hin : ∀ k o, (k, o) ∈ ins → own? st1.own k = some o) (hnew : ∀ k, k ∈ new → k ∉ st1.nm) (hno : ∀ k, k ∈ new → k ∈ keysO outs)
    (hβ : β.le β') (hfr : ∀ k, k ∉ new → β' k = β k) (ho : OwnsOk (fun b => c.E0 b ∨ ∃ k, k ∈ keysO st1.own ∧ k ∉ keysO ins ∧ β.blk k = some b) β' w' outs) (hk : Keeps (ownB β ins) w w')
    (hb : ∀ k, k ∈ keysO outs → ∀ b, β'.blk k = some b → w.heap.size ≤ b ∨ ownB β ins b) :
    Holds c β' ⟨st1.env, applyU st1.own (callU ins outs), newN st1.nm (callU ins outs)⟩ a w' ∧
      (∀ b, Eo c.E0 β' (applyU st1.own (callU ins outs)) b → Eo (fun b => c.E0 b ∨ ∃ k, k ∈ keysO st1.own ∧ k ∉ keysO ins ∧ β.blk k = some b) β' outs b) := by
  have hq := own?_call (ins := ins) (outs := outs) H.own.nodup ho.nodup
  have hinb : ∀ b, ownB β ins b → ownB β st1.own b := fun b ⟨k, h1, h2⟩ => by
    obtain ⟨o, ho⟩ := keys_mem h1
    exact ⟨k, mem_keys (own?_mem (hin k o ho)), h2⟩
  have hold : ∀ k, k ∈ keysO st1.own → β'.blk k = β.blk k := fun k hk => by
    obtain ⟨o, ho⟩ := keys_mem hk
    obtain ⟨v, hv⟩ := (H.own.ok k o ho).key
    exact hβ.blk hv
  have hcases : ∀ k o, own? (applyU st1.own (callU ins outs)) k = some o → (k, o) ∈ outs ∨ (k ∉ keysO outs ∧ k ∉ keysO ins ∧ own? st1.own k = some o) := fun k o h => by
    rw [hq] at h
    cases h1 : own? outs k with
    | some o' => simp [h1] at h; subst h; exact .inl (own?_mem h1)
    | none =>
      simp only [h1] at h
      split at h
      · cases h
      · rename_i h2
        have h5 : k ∉ keysO outs := fun h3 => by
          obtain ⟨o', h4⟩ := key_iff.1 h3
          rw [h1] at h4
          cases h4
        exact .inr ⟨h5, h2, h⟩
  have hE : ∀ b, Eo c.E0 β' (applyU st1.own (callU ins outs)) b ↔ Eo (fun b => c.E0 b ∨ ∃ k, k ∈ keysO st1.own ∧ k ∉ keysO ins ∧ β.blk k = some b) β' outs b := fun b => by
    constructor
    · rintro (h | ⟨k, h1, h2⟩)
      · exact .inl (.inl h)
      · obtain ⟨o, h3⟩ := key_iff.1 h1
        rcases hcases k o h3 with h4 | ⟨_, h5, h6⟩
        · exact .inr ⟨k, mem_keys h4, h2⟩
        · have h7 := mem_keys (own?_mem h6)
          rw [hold k h7] at h2
          exact .inl (.inr ⟨k, h7, h5, h2⟩)
    · rintro ((h | ⟨k, h1, h2, h3⟩) | ⟨k, h1, h2⟩)
      · exact .inl h
      · refine .inr ⟨k, ?_, by rw [hold k h1]; exact h3⟩
        rw [key_iff, hq]
        cases h4 : own? outs k with
        | some o => exact ⟨o, rfl⟩
        | none =>
          obtain ⟨o, ho⟩ := key_iff.1 h1
          exact ⟨o, by simp [h2, ho]⟩
      · refine .inr ⟨k, ?_, h2⟩
        rw [key_iff, hq]
        obtain ⟨o, ho⟩ := key_iff.1 h1
        exact ⟨o, by simp [ho]⟩
  have hEe : Eo c.E0 β' (applyU st1.own (callU ins outs)) = Eo (fun b => c.E0 b ∨ ∃ k, k ∈ keysO st1.own ∧ k ∉ keysO ins ∧ β.blk k = some b) β' outs := funext fun b => propext (hE b)
  have hl : Lasts (Eo c.E0 β st1.own) (Eo c.E0 β' (applyU st1.own (callU ins outs))) w w' := by
    intro b h1 h2
    refine ⟨fun h3 => ?_, hk.block b h1 (fun h3 => h2 (.inr (by obtain ⟨k, h4, h5⟩ := hinb b h3; exact ⟨k, h4, h5⟩)))⟩
    rcases (hE b).1 h3 with (h4 | ⟨k, h4, _, h5⟩) | ⟨k, h4, h5⟩
    · exact h2 (.inl h4)
    · exact h2 (.inr ⟨k, h4, h5⟩)
    · rcases hb k h4 b h5 with h6 | h6
      · omega
      · obtain ⟨k', h7, h8⟩ := hinb b h6
        exact h2 (.inr ⟨k', h7, h8⟩)
  refine ⟨H.change hβ (hk.mono hinb) ⟨fun k o h => ?_, nodup_applyU _ H.own.nodup, ?_, ?_⟩ ?_ ?_ ?_ (fun k h1 => ⟨(newN_mem _ _ _).2 (.inl h1), hfr k (fun h2 => hnew k h2 h1)⟩), fun b => (hE b).1⟩
  · rcases hcases k o (mem_own? (nodup_applyU _ H.own.nodup) h) with h1 | ⟨h1, h2, h3⟩
    · rw [hEe]; exact ho.ok k o h1
    · refine (H.own.ok k o (own?_mem h3)).lasts hl hβ (fun b hb1 => hk.block b (H.own.lt k (mem_keys (own?_mem h3)) b hb1).1 ?_)
      rintro ⟨k', h4, h5⟩
      obtain ⟨o', ho'⟩ := keys_mem h4
      have h6 := mem_keys (own?_mem (hin k' o' ho'))
      exact H.own.apart k k' (mem_keys (own?_mem h3)) h6 (fun e => h2 (e ▸ h4)) b hb1 h5
  · intro k k' h1 h2 hne b hb1 hb2
    obtain ⟨o, h3⟩ := key_iff.1 h1
    obtain ⟨o', h4⟩ := key_iff.1 h2
    rcases hcases k o h3 with h5 | ⟨_, h5, h5'⟩ <;> rcases hcases k' o' h4 with h6 | ⟨_, h6, h6'⟩
    · exact ho.apart k k' (mem_keys h5) (mem_keys h6) hne b hb1 hb2
    · have h7 := mem_keys (own?_mem h6')
      rw [hold k' h7] at hb2
      exact (ho.lt k (mem_keys h5) b hb1).2 (.inr ⟨k', h7, h6, hb2⟩)
    · have h7 := mem_keys (own?_mem h5')
      rw [hold k h7] at hb1
      exact (ho.lt k' (mem_keys h6) b hb2).2 (.inr ⟨k, h7, h5, hb1⟩)
    · have h7 := mem_keys (own?_mem h5')
      have h8 := mem_keys (own?_mem h6')
      rw [hold k h7] at hb1
      rw [hold k' h8] at hb2
      exact H.own.apart k k' h7 h8 hne b hb1 hb2
  · intro k h1 b hb1
    obtain ⟨o, h3⟩ := key_iff.1 h1
    rcases hcases k o h3 with h5 | ⟨_, h5, h5'⟩
    · obtain ⟨x, y⟩ := ho.lt k (mem_keys h5) b hb1
      exact ⟨x, fun h => y (.inl h)⟩
    · have h7 := mem_keys (own?_mem h5')
      rw [hold k h7] at hb1
      obtain ⟨x, y⟩ := H.own.lt k h7 b hb1
      have := hk.size
      exact ⟨by omega, y⟩
  · intro k h1 b hb1
    obtain ⟨o, h3⟩ := key_iff.1 h1
    rcases hcases k o h3 with h5 | ⟨_, h5, h5'⟩
    · exact (hb k (mem_keys h5) b hb1).imp id (hinb b)
    · have h7 := mem_keys (own?_mem h5')
      rw [hold k h7] at hb1
      exact .inr ⟨k, h7, hb1⟩
  · intro k h1
    rw [newN_mem]
    obtain ⟨o, h3⟩ := key_iff.1 h1
    rcases hcases k o h3 with h5 | ⟨_, h5, h5'⟩
    · exact .inr ⟨o, by unfold callU; rw [List.mem_append]; exact .inr (List.mem_map.2 ⟨(k, o), h5, rfl⟩)⟩
    · exact .inl (H.kn k (mem_keys (own?_mem h5')))
  · intro k h1
    rw [newN_mem] at h1
    have h2 : k ∉ st1.nm := fun h => h1 (.inl h)
    by_cases h3 : k ∈ new
    · have h4 : k ∉ keysO outs := fun h => by
        obtain ⟨o, ho⟩ := keys_mem h
        exact h1 (.inr ⟨o, by unfold callU; rw [List.mem_append]; exact .inr (List.mem_map.2 ⟨(k, o), ho, rfl⟩)⟩)
      exact absurd (hno k h3) h4
    · rw [hfr k h3]; exact H.nm k h2

theorem call_E0 {st1 : St} {ins : List (Nat × Own)} (hin : ∀ k o, (k, o) ∈ ins → own? st1.own k = some o) :
    Eo (fun b => c.E0 b ∨ ∃ k, k ∈ keysO st1.own ∧ k ∉ keysO ins ∧ β.blk k = some b) β ins = Eo c.E0 β st1.own := by
  funext b
  apply propext
  constructor
  · rintro ((h | ⟨k, h1, _, h3⟩) | ⟨k, h1, h2⟩)
    · exact .inl h
    · exact .inr ⟨k, h1, h3⟩
    · obtain ⟨o, ho⟩ := keys_mem h1
      exact .inr ⟨k, mem_keys (own?_mem (hin k o ho)), h2⟩
  · rintro (h | ⟨k, h1, h2⟩)
    · exact .inl (.inl h)
    · by_cases h3 : k ∈ keysO ins
      · exact .inr ⟨k, h3, h2⟩
      · exact .inl (.inr ⟨k, h1, h3, h2⟩)

/-- A call, carried out. -/
theorem call_wp {st1 : St} (H : Holds c β st1 a w) {o : Oper} {dst : Option Nat} {f : FuncId} {args : List V} {ins outs : List (Nat × Own)} {res : V} {new : List Nat} (hS : Ctr c.P f args ins res outs new) (hd : o.dst = dst) (hlt : ∀ d, dst = some d → d < c.nt) (hno : (keysO ins).Nodup)
    (hin : ∀ k o, (k, o) ∈ ins → own? st1.own k = some o) (hnew : ∀ k, k ∈ new → k ∉ st1.nm) {vals : Array Value} (hrun : (execOp a.eval o).run c.P w = .ok (.enter f vals) w) (hsz : vals.size = args.length)
    (hv : ∀ (j : Nat) (v : Value) (x : V), vals[j]? = some v → args[j]? = some x → RelV β (Eo c.E0 β st1.own) w v x) {Q : Exit → Act → World → Prop} {K : Act → World → Prop}
    (hK : ∀ β' a' w', Holds c β' (st1.stp dst { val := res, upd := callU ins outs, rd := keysO ins, new := new }) a' w' → K a' w') : o.wp c.P a w K Q := by
  obtain ⟨_, hko, hno2, hS⟩ := hS
  have hE := call_E0 (c := c) (β := β) hin
  have hins : OwnsOk (fun b => c.E0 b ∨ ∃ k, k ∈ keysO st1.own ∧ k ∉ keysO ins ∧ β.blk k = some b) β w ins := by
    have hk : ∀ k, k ∈ keysO ins → k ∈ keysO st1.own := fun k h => by
      obtain ⟨o, ho⟩ := keys_mem h
      exact mem_keys (own?_mem (hin k o ho))
    refine ⟨fun k o h => ?_, hno, fun k k' h1 h2 => H.own.apart k k' (hk k h1) (hk k' h2), fun k h b hb => ?_⟩
    · rw [hE]; exact H.own.ok k o (own?_mem (hin k o h))
    · obtain ⟨x, y⟩ := H.own.lt k (hk k h) b hb
      refine ⟨x, ?_⟩
      rintro (h1 | ⟨k', h1, h2, h3⟩)
      · exact y h1
      · exact H.own.apart k k' (hk k h) h1 (fun e => h2 (e ▸ h)) b hb h3
  have hcall := hS (fun b => c.E0 b ∨ ∃ k, k ∈ keysO st1.own ∧ k ∉ keysO ins ∧ β.blk k = some b) β w vals (by
    rintro b (h | ⟨k, h1, _, h3⟩)
    · have := c.hE b h
      have := H.kp.size
      omega
    · exact (H.own.lt k h1 b h3).1) hsz (by rw [hE]; exact hv) hins (fun k hk => H.nm k (hnew k hk))
  unfold Oper.wp
  rw [hrun]
  refine hcall.mono fun e w' he => ?_
  obtain ⟨v, β', rfl, h1, h2, h3, h4, h5, h6⟩ := he
  obtain ⟨H', hEs⟩ := call_state H hin hnew hno2 h1 h2 h4 h5 h6
  refine hK β' _ w' ?_
  rw [hd]
  simp only [St.stp]
  cases dst with
  | none => exact H'
  | some d =>
    refine H'.setV (hlt d rfl) (h3.lasts' (w := w') (w' := w') (fun b hb hE2 => ⟨fun h => hE2 (hEs b h), rfl⟩) (Names.le.refl β'))

end
end Go.Bx
