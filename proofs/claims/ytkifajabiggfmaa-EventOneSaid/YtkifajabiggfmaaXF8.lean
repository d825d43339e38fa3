import Derived.Test.YtkifajabiggfmaaXF7
import Derived.Lib.Mul64
section
set_option linter.unusedSimpArgs false
set_option linter.unusedVariables false
namespace Go.Proofs.Ytkifajabiggfmaa
set_option linter.unusedSimpArgs false
set_option linter.unusedVariables false
open Go.Bx
set_option maxRecDepth 10000
def cI (n : Int) : List D := [.int .i64 n]
structure EvS where
  G : List (List Int)
  kn : Int → Int
def evStep (t : Tr) (k : Int) (x : Ls) (s : EvS) : EvS :=
  if takesT t x = true then
    if x.ev ≠ 0 ∧ 0 < s.kn x.ev then ⟨s.G.set (s.kn x.ev - 1).toNat (s.G.getD (s.kn x.ev - 1).toNat [] ++ [k]), s.kn⟩
    else ⟨s.G ++ [[k]], fun n => if n = x.ev then ((s.G.length + 1 : Nat) : Int) else s.kn n⟩
  else s
def evRun (t : Tr) : Nat → List Ls → EvS → EvS
  | _, [], s => s
  | k, x :: r, s => evRun t (k + 1) r (evStep t (k : Int) x s)
def eventsT (t : Tr) (l : List Ls) : List (List Int) := (evRun t 0 l ⟨[], fun _ => 0⟩).G
structure EvI (k : Nat) (s : EvS) : Prop where
  kn : ∀ n, 0 ≤ s.kn n ∧ s.kn n ≤ s.G.length
  len : s.G.length ≤ k
  each : ∀ g, g ∈ s.G → 1 ≤ g.length ∧ g.length ≤ k
theorem EvI.step {k : Nat} {s : EvS} (h : EvI k s) (t : Tr) (x : Ls) : EvI (k + 1) (evStep t (k : Int) x s) := by
  unfold evStep
  split
  · split
    · rename_i hc
      have hb := h.kn x.ev
      have hlt : (s.kn x.ev - 1).toNat < s.G.length := by omega
      have hg : s.G[(s.kn x.ev - 1).toNat] ∈ s.G := List.getElem_mem hlt
      refine ⟨fun n => by simpa using h.kn n, by simp; have := h.len; omega, fun g hg' => ?_⟩
      rcases List.mem_or_eq_of_mem_set hg' with h1 | h1
      · have := h.each g h1; omega
      · subst h1
        have h2 := h.each _ hg
        rw [List.getD_eq_getElem?_getD, List.getElem?_eq_getElem hlt, List.length_append, List.length_singleton, Option.getD_some]
        omega
    · refine ⟨fun n => ?_, by simp; have := h.len; omega, fun g hg' => ?_⟩
      · dsimp only
        have := h.kn n
        split <;> simp <;> omega
      · rw [List.mem_append] at hg'
        rcases hg' with h1 | h1
        · have := h.each g h1; omega
        · simp at h1; subst h1; simp
  · exact ⟨h.kn, by have := h.len; omega, fun g hg => by have := h.each g hg; omega⟩
def evSt (t : Tr) (l : List Ls) (k : Nat) (s : EvS) : St :=
  ⟨[(2, .own 2 0), (5, .osl 1000), (6, .osl 10), (11, .d (slX l)), (12, .d (.int .i64 l.length)), (13, .d (.int .i64 k))],
   (1000, .lit 32 1 s.G.length (nestC 0 cI 5000 1 1 0 s.G)) :: ([(2, .fix (cT t)), (10, .mp (.int .i64 0) (fun n => .int .i64 (s.kn n)))] ++ nestO 0 cI 5000 1 3 1 0 s.G), [1000, 2, 10] ++ nmN 5000 s.G.length⟩
theorem nest_at {G : List (List Int)} {i : Nat} {g : List Int} (h : G[i]? = some g) (hg : 1 < g.length) : own? (nestO 0 cI 5000 1 3 1 0 G) (5000 + i) = some (.row 3 1 g.length (fun j => cI (g.getD j 0))) := by
  rw [nestO_own, if_pos (by omega), show 5000 + i - (5000 + 0) = i by omega, h]
  simp only; rw [if_pos hg]
theorem Wk.ev {c : Ctx} {st : St} {t : Tr} {l : List Ls} {k : Nat} {s : EvS} (x y : Nat) (hfn : c.fn = []) (he : EnvLe (renE (Go.Bx.sw x y) st.env) (evSt t l k s).env)
    (hA : OwnLeS (Go.Bx.sw x y) st.own [(2, .fix (cT t)), (10, .mp (.int .i64 0) (fun n => .int .i64 (s.kn n)))])
    (hl : ∃ o', own? st.own (Go.Bx.sw x y 1000) = some o' ∧ OLe (o'.ren (Go.Bx.sw x y)) (.lit 32 1 s.G.length (nestC 0 cI 5000 1 1 0 s.G)))
    (hi : ∀ i g, s.G[i]? = some g → 1 < g.length → ∃ o', own? st.own (Go.Bx.sw x y (5000 + i)) = some o' ∧ OLe (o'.ren (Go.Bx.sw x y)) (.row 3 1 g.length (fun j => cI (g.getD j 0)))) : Wk c st (evSt t l k s) :=
  Wk.nest (dx := 0) (cells := cI) (K := 5000) (K' := 1000) (τ := 1) (e' := 32) (e := 3) (sz := 1) (G := s.G) x y [] hfn (by simp) (by simp) (env := (evSt t l k s).env) (A := [(2, .fix (cT t)), (10, .mp (.int .i64 0) (fun n => .int .i64 (s.kn n)))]) (N := [1000, 2, 10]) rfl rfl he hA hl hi
theorem ne_lo {a i : Nat} (h : a < 5000) : (a = 5000 + i) = False := eq_false (by omega)
theorem ne_hi {a i : Nat} (h : a < 5000) : (5000 + i = a) = False := eq_false (by omega)
theorem own?_delSet {K τ e sz i : Nat} {G : List (List Int)} {a : Nat} {o : Own} (k k1 : Nat) : own? (delO (setO (nestO 0 cI K τ e sz i G) a o) k) k1 = if k1 = k then none else own? (setO (nestO 0 cI K τ e sz i G) a o) k1 := own?_delO (nodup_setO nestO_nodup) k k1
theorem own?_delSet2 {K τ e sz i : Nat} {G : List (List Int)} {a a2 : Nat} {o o2 : Own} (k k1 : Nat) : own? (delO (setO (setO (nestO 0 cI K τ e sz i G) a o) a2 o2) k) k1 = if k1 = k then none else own? (setO (setO (nestO 0 cI K τ e sz i G) a o) a2 o2) k1 := own?_delO (nodup_setO (nodup_setO nestO_nodup)) k k1
theorem VsLe.snoc {x y : V} (h : VLe x y) : ∀ (a : List V), VsLe (a ++ [x]) (a ++ [y])
  | [] => ⟨h, trivial⟩
  | v :: a => ⟨VLe.refl v, VsLe.snoc h a⟩
theorem renL_app (p : Nat → Nat) (a b : List V) : renL p (a ++ b) = renL p a ++ renL p b := by rw [renL_eq, renL_eq, renL_eq, List.map_append]
set_option maxHeartbeats 4000000 in
theorem sEvents (t : Tr) (l : List Ls) (hl : l.length ≤ 1000000) : Ctr Try.prog 15 [vT t, .d (slX l)] [] (.d (.sl false 1 (eventsT t l).length (nestD 0 cI 1 (eventsT t l)))) [] [] := by
  refine ctr_pure Try.func15 ok15 rfl cc15 cr15 Try.ntmps15 (by simp) rfl rfl ?_; intro c hP hfn; simp only [kc15, vT, cT, slX, vcb, ↓evSo_some, ↓reduceIte, reduceCtorEq, seval]
  refine vcC.loop (X := Nat × EvS) (fun x => evSt t l x.1 x.2)
    (fun x => x.1 ≤ l.length ∧ EvI x.1 x.2 ∧ eventsT t l = (evRun t x.1 (l.drop x.1) x.2).G) (fun x => l.length - x.1) (0, ⟨[], fun _ => 0⟩) ⟨Nat.zero_le _, ⟨fun n => by simp, Nat.le_refl _, fun g hg => by simp at hg⟩, rfl⟩
    ((Wk.row0 (s := 5) (k := 1000) (e := 32) (sz := 1) (f' := fun _ => []) rfl rfl (by simp)).trans (Wk.of (b := evSt t l 0 ⟨[], fun _ => 0⟩) _ hfn rfl (by simp only [evSt, slX, enb, vcb, ↓evSo_some, ↓reduceIte, reduceCtorEq, seval]) (by simp only [evSt, cT, nestC, nestO, enb, vcb, ↓evSo_some, ↓reduceIte, reduceCtorEq, seval]; exact OLe.rowLit rfl))) ?_
  rintro ⟨k, s⟩ ⟨hk, hI, he⟩
  simp only at hk hI he
  simp only [evSt, cT, slX, own?_setO, own?_nestD, mem_nmN, vcb, ↓evSo_some, ↓reduceIte, reduceCtorEq, seval]
  refine ⟨fun h1 => ?_, fun h1 => ?_⟩
  · have hlt : k < l.length := by have := of_decide_eq_true h1; omega
    obtain ⟨x, hd, hg, -, -⟩ := drop_at hlt
    rw [hd, evRun] at he
    have hI' := hI.step t x
    have ct := s23 t x
    simp only [vT, cT, vX, cX'] at ct
    simp only [hg, own?_setO, own?_nestD, mem_nmN, vcb, ↓evSo_some, ↓reduceIte, reduceCtorEq, seval]
    repeat' first
        | (first
            | refine TR.p hP (by first | exact ct) (by repeat' first | exact trivial | (intro _; assumption) | apply And.intro) ?_
            | refine TR.gp hP rfl (fun _ => by first | exact ct) (fun _ => by repeat' first | exact trivial | (intro _; assumption) | apply And.intro) ?_
            | refine TR.pv hP rfl (by first | exact ct) trivial (by repeat' first | exact trivial | (intro _; assumption) | apply And.intro) ?_
           try simp only [hg, own?_setO, own?_nestD, mem_nmN, vcb, ↓evSo_some, ↓reduceIte, reduceCtorEq, seval])
        | refine And.intro (fun h => ?_) (fun h => ?_)
        | refine And.intro (by first | omega | (simp only [maxLen, decide_eq_true_eq, decide_eq_false_iff_not] at *; omega)) ?_
        | (refine TR.aslO rfl rfl rfl rfl trivial (Nat.le_of_ble_eq_true rfl) ?_
           try simp only [hg, own?_setO, own?_nestD, mem_nmN, vcb, ↓evSo_some, ↓reduceIte, reduceCtorEq, seval])
        | refine And.intro trivial ?_
        | refine And.intro rfl ?_
        | fail
    · have es : evStep t (k : Int) x s = s := by
        have h' : ¬ takesT t x = true := by simpa using h
        rw [evStep, if_neg h']
      rw [es] at he hI'
      exact lopK.on (k + 1, s) ⟨hlt, hI', he⟩ (by simp only; omega) (Wk.ev (t := t) (l := l) 0 0 hfn (by simp only [evSt, slX, enb, vcb, ↓evSo_some, ↓reduceIte, reduceCtorEq, seval]; exact wS (by omega)) (by simp only [OwnLeS, cT, enb, vcb, ↓evSo_some, ↓reduceIte, reduceCtorEq, seval])
        ⟨.lit 32 1 s.G.length (nestC 0 cI 5000 1 1 0 s.G), by simp only [enb, vcb, ↓evSo_some, ↓reduceIte, reduceCtorEq, seval], by simp only [Own.ren, nest_ren (show 0 < 5000 by decide) (show 0 < 5000 by decide)]; exact OLe.refl _⟩
        (fun i g hg1 hg2 => ⟨.row 3 1 g.length (fun j => cI (g.getD j 0)), by simp only [own?_setO, own?_nestD, own?_delSet, own?_delSet2, ne_lo, ne_hi, nest_at hg1 hg2, enb, vcb, ↓evSo_some, ↓reduceIte, reduceCtorEq, seval], OLe.refl _⟩))
    · have hT : takesT t x = true := by rename_i h8; simpa using h8
      have hc : x.ev ≠ 0 ∧ 0 < s.kn x.ev := by simpa using h
      have ewk : IntKind.i64.wrap ((k : Int) + 1) = ((k + 1 : Nat) : Int) := wS (by omega)
      have hb := hI.kn x.ev
      obtain ⟨i, hi⟩ : ∃ i : Nat, s.kn x.ev - 1 = (i : Int) := ⟨(s.kn x.ev - 1).toNat, by omega⟩
      have hil : i < s.G.length := by omega
      have hl2 := hI.len
      have ew : IntKind.i64.wrap (s.kn x.ev - 1) = (i : Int) := by rw [hi]; exact wI (by omega)
      have hgi : s.G[i]? = some s.G[i] := List.getElem?_eq_getElem hil
      have hgd : s.G.getD i [] = s.G[i] := by rw [List.getD_eq_getElem?_getD, hgi]; rfl
      have hge := hI.each _ (List.getElem_mem hil)
      have hes : evStep t (k : Int) x s = ⟨s.G.set i (s.G[i] ++ [(k : Int)]), s.kn⟩ := by
        rw [evStep, if_pos hT, if_pos hc, hi, Int.toNat_natCast, hgd]
      rw [hes] at he hI'
      generalize s.G[i] = g at *
      have hnth := nestC_nth (dx := (0 : Int)) (cells := cI) (K := 5000) (τ := 1) (sz := 1) (i := 0) hgi
      rw [Nat.zero_add] at hnth
      have hfin : ∀ (st : St), EnvLe (renE (Go.Bx.sw 43 (5000 + i)) st.env) (evSt t l (k + 1) ⟨s.G.set i (g ++ [(k : Int)]), s.kn⟩).env → OwnLeS (Go.Bx.sw 43 (5000 + i)) st.own [(2, .fix (cT t)), (10, .mp (.int .i64 0) (fun n => .int .i64 (s.kn n)))] →
          own? st.own 1000 = some (.lit 32 1 s.G.length (putV (nestC 0 cI 5000 1 1 0 s.G) i [.osl 43])) →
          (∃ n F, own? st.own 43 = some (.row 3 1 n F) ∧ n = g.length + 1 ∧ ∀ q, q < g.length + 1 → F q = cI ((g ++ [(k : Int)]).getD q 0)) →
          (∀ j, j ≠ i → own? st.own (5000 + j) = own? (nestO 0 cI 5000 1 3 1 0 s.G) (5000 + j)) →
          Wk c st (evSt t l (k + 1) ⟨s.G.set i (g ++ [(k : Int)]), s.kn⟩) := by
        intro st q1 q2 q3 q4 q5
        obtain ⟨n, F, q6, rfl, q7⟩ := q4
        have hsw : Go.Bx.sw 43 (5000 + i) 1000 = 1000 := by simp only [Go.Bx.sw, ne_lo, ne_hi, enb, vcb, ↓evSo_some, ↓reduceIte, reduceCtorEq, seval]
        refine Wk.ev 43 (5000 + i) hfn q1 q2 ⟨_, by rw [hsw]; exact q3, ?_⟩ (fun j g' hg1 hg2 => ?_)
        · have hp := putV_nest (dx := (0 : Int)) (cells := cI) (K := 5000) (τ := 1) (sz := 1) (i0 := 0) (i := i) (g := g ++ [(k : Int)]) hil (by simp; omega) 43
          rw [if_pos (by decide), Nat.zero_add] at hp
          simp only [Own.ren, hp, List.length_set]
          exact OLe.refl _
        · by_cases e : j = i
          · subst e
            rw [List.getElem?_set_self hil] at hg1
            cases hg1
            have hsj : Go.Bx.sw 43 (5000 + j) (5000 + j) = 43 := by unfold Go.Bx.sw; rw [if_neg (by omega), if_pos rfl]
            refine ⟨.row 3 1 (g.length + 1) F, by rw [hsj]; exact q6, ?_⟩
            exact OLe.row (by simp) q7
          · rw [List.getElem?_set_ne (fun g => e g.symm)] at hg1
            refine ⟨_, by rw [show Go.Bx.sw 43 (5000 + i) (5000 + j) = 5000 + j by unfold Go.Bx.sw; rw [if_neg (by omega), if_neg (by omega)], q5 j e]; exact nest_at hg1 hg2, OLe.refl _⟩
      by_cases hg1 : g.length ≤ 1
      · rw [if_pos hg1] at hnth
        have hg0 : g.length = 1 := by omega
        simp only [ew, hnth, hg0, own?_setO, own?_nestD, own?_delSet, own?_delSet2, ne_lo, ne_hi, mem_nmN, vcb, ↓evSo_some, ↓reduceIte, reduceCtorEq, seval]
        refine ⟨⟨by omega, by omega⟩, hil, by simp only [maxLen]; omega, ⟨by omega, by omega⟩, hil, lopK.on (k + 1, ⟨s.G.set i (g ++ [(k : Int)]), s.kn⟩) ⟨hlt, hI', he⟩ (by simp only; omega) (hfin _ (by simp only [evSt, slX, ewk, ne_lo, ne_hi, enb, vcb, ↓evSo_some, ↓reduceIte, reduceCtorEq, seval]) (by simp only [OwnLeS, cT, own?_setO, own?_nestD, own?_delSet, own?_delSet2, ne_lo, ne_hi, enb, vcb, ↓evSo_some, ↓reduceIte, reduceCtorEq, seval]) (by simp only [own?_setO, own?_nestD, own?_delSet, own?_delSet2, ne_lo, ne_hi, enb, vcb, ↓evSo_some, ↓reduceIte, reduceCtorEq, seval]) ⟨_, _, by simp only [own?_setO, own?_nestD, own?_delSet, own?_delSet2, ne_lo, ne_hi, enb, vcb, ↓evSo_some, ↓reduceIte, reduceCtorEq, seval]; rfl, by omega, ?_⟩ (fun j hj => ?_))⟩
        · intro q hq
          by_cases e : q < g.length
          · have e3 : q < 1 ∨ 1 ≤ q := by omega
            simp [e, cI, List.getElem?_append_left e]; try omega
          · have e2 : q = g.length := by omega
            have hne : ¬ g = [] := fun h => by rw [h] at hge; simp at hge
            subst e2
            first | (simp [litRow, cI]; done) | (simp [litRow, cI, hne, hg0]; done)
        · have hji : (5000 + j = 5000 + i) = False := eq_false (by omega)
          simp only [hji, own?_setO, own?_nestD, own?_delSet, own?_delSet2, ne_lo, ne_hi, enb, vcb, ↓evSo_some, ↓reduceIte, reduceCtorEq, seval]
      · rw [if_neg hg1] at hnth
        have hrow := nest_at hgi (by omega)
        simp only [ew, hnth, hrow, own?_setO, own?_nestD, own?_delSet, own?_delSet2, ne_lo, ne_hi, mem_nmN, vcb, ↓evSo_some, ↓reduceIte, reduceCtorEq, seval]
        refine ⟨⟨by omega, by omega⟩, hil, ⟨by omega, by simp only [maxLen]; omega⟩, ⟨by omega, by omega⟩, hil, lopK.on (k + 1, ⟨s.G.set i (g ++ [(k : Int)]), s.kn⟩) ⟨hlt, hI', he⟩ (by simp only; omega) (hfin _ (by simp only [evSt, slX, ewk, ne_lo, ne_hi, enb, vcb, ↓evSo_some, ↓reduceIte, reduceCtorEq, seval]) (by simp only [OwnLeS, cT, own?_setO, own?_nestD, own?_delSet, own?_delSet2, ne_lo, ne_hi, enb, vcb, ↓evSo_some, ↓reduceIte, reduceCtorEq, seval]) (by simp only [own?_setO, own?_nestD, own?_delSet, own?_delSet2, ne_lo, ne_hi, enb, vcb, ↓evSo_some, ↓reduceIte, reduceCtorEq, seval]) ⟨_, _, by simp only [own?_setO, own?_nestD, own?_delSet, own?_delSet2, ne_lo, ne_hi, enb, vcb, ↓evSo_some, ↓reduceIte, reduceCtorEq, seval]; rfl, by omega, ?_⟩ (fun j hj => ?_))⟩
        · intro q hq
          by_cases e : q < g.length
          · have e3 : q < 1 ∨ 1 ≤ q := by omega
            simp [e, cI, List.getElem?_append_left e]; try omega
          · have e2 : q = g.length := by omega
            have hne : ¬ g = [] := fun h => by rw [h] at hge; simp at hge
            subst e2
            first | (simp [litRow, cI]; done) | (simp [litRow, cI, hne, hg0]; done)
        · have hji : (5000 + j = 5000 + i) = False := eq_false (by omega)
          simp only [hji, own?_setO, own?_nestD, own?_delSet, own?_delSet2, ne_lo, ne_hi, enb, vcb, ↓evSo_some, ↓reduceIte, reduceCtorEq, seval]
    · have hT : takesT t x = true := by rename_i h8; simpa using h8
      have hc : ¬ (x.ev ≠ 0 ∧ 0 < s.kn x.ev) := by
        intro hh; rw [Bool.and_eq_false_iff] at h
        rcases h with h | h
        · exact hh.1 (by simpa using h)
        · have := of_decide_eq_false h; omega
      have hl2 := hI.len
      have ewk : IntKind.i64.wrap ((k : Int) + 1) = ((k + 1 : Nat) : Int) := wS (by omega)
      have hes : evStep t (k : Int) x s = ⟨s.G ++ [[(k : Int)]], fun n => if n = x.ev then ((s.G.length + 1 : Nat) : Int) else s.kn n⟩ := by
        rw [evStep, if_pos hT, if_neg hc]
      rw [hes] at he hI'
      refine ⟨⟨by omega, by simp only [maxLen]; omega⟩, lopK.on (k + 1, ⟨s.G ++ [[(k : Int)]], fun n => if n = x.ev then ((s.G.length + 1 : Nat) : Int) else s.kn n⟩) ⟨hlt, hI', he⟩ (by simp only; omega)
        (Wk.ev (t := t) (l := l) 49 1000 hfn (by simp only [evSt, slX, ewk, ne_lo, ne_hi, enb, vcb, ↓evSo_some, ↓reduceIte, reduceCtorEq, seval]) (by simp only [OwnLeS, cT, own?_setO, own?_nestD, own?_delSet, own?_delSet2, ne_lo, ne_hi, enb, vcb, ↓evSo_some, ↓reduceIte, reduceCtorEq, seval]; exact OLe.eq (by congr 1; funext n; by_cases e : n = x.ev <;> simp [e]))
          ⟨_, by simp only [own?_setO, own?_nestD, own?_delSet, own?_delSet2, ne_lo, ne_hi, enb, vcb, ↓evSo_some, ↓reduceIte, reduceCtorEq, seval]; rfl, ?_⟩
          (fun j g hg1 hg2 => ?_))⟩
      · have hp := nest_ren (dx := (0 : Int)) (cells := cI) (K := 5000) (τ := 1) (sz := 1) (i := 0) (G := s.G) (show 49 < 5000 by decide) (show 1000 < 5000 by decide)
        simp only [Own.ren, renL_app, hp, nestC_app, List.length_append, List.length_singleton, nestC, renL, V.ren, Nat.le_refl, if_true]
        exact OLe.lits (VsLe.snoc (VLe.sl rfl (fun _ => rfl) id (fun q hq => by
          have : q = 0 := by omega
          subst this; simp [cI, litRow])) _)
      · have hj : s.G[j]? = some g := by
          by_cases e : j < s.G.length
          · rwa [List.getElem?_append_left e] at hg1
          · rw [List.getElem?_append_right (by omega)] at hg1
            have : j - s.G.length = 0 := by
              by_cases e0 : j - s.G.length = 0
              · exact e0
              · rw [List.getElem?_eq_none (by simp; omega)] at hg1; cases hg1
            rw [this] at hg1
            simp at hg1; subst hg1; simp at hg2
        exact ⟨.row 3 1 g.length (fun j => cI (g.getD j 0)), by simp only [own?_setO, own?_nestD, own?_delSet, own?_delSet2, ne_lo, ne_hi, nest_at hj hg2, enb, vcb, ↓evSo_some, ↓reduceIte, reduceCtorEq, seval], OLe.refl _⟩
  · have hkl : k = l.length := by have := of_decide_eq_false h1; omega
    rw [hkl, List.drop_length, evRun] at he
    refine RetK.mk _ ((Wk.nestPub (dx := 0) (cells := cI) (K' := 1000) (K := 5000) (τ := 1) (e' := 32) (e := 3) (sz := 1) (G := s.G) (own' := [(1000, .row 32 1 s.G.length (nestD 0 cI 1 s.G))]) (by simp only [vcb, ↓evSo_some, ↓reduceIte, reduceCtorEq, seval])
        (fun i g hg1 hg2 => by simp only [ne_lo, ne_hi, nest_at hg1 hg2, vcb, ↓evSo_some, ↓reduceIte, reduceCtorEq, seval]) (by simp [keysO]) (fun k o hm => by simp at hm; obtain ⟨rfl, rfl⟩ := hm; exact .inl ⟨rfl, rfl⟩) (fun i hi => by simp [keysO]; omega)).trans (Wk.pub 1000 rfl)) (by simp only [rs15, rsb, vcb, ↓evSo_some, ↓reduceIte, reduceCtorEq, seval]) ?_ trivial
    simp only [rs15, rsb, vcb, ↓evSo_some, ↓reduceIte, reduceCtorEq, seval]
    rw [he]; exact VLe.refl _
end Go.Proofs.Ytkifajabiggfmaa
end
section
set_option linter.unusedSimpArgs false
set_option linter.unusedVariables false
namespace Go.Proofs.Ytkifajabiggfmaa
set_option linter.unusedSimpArgs false
set_option linter.unusedVariables false
open Go.Bx
set_option maxRecDepth 10000
theorem head_app {g : List Int} (h : 1 ≤ g.length) (k : Int) : (g ++ [k]).getD 0 0 = g.getD 0 0 := by
  cases g with
  | nil => simp at h
  | cons a g => simp
def evOf (l : List Ls) (g : List Int) : Int := (l.getD (g.getD 0 0).toNat default).ev
structure EvJ (l : List Ls) (k : Nat) (s : EvS) : Prop where
  i : EvI k s
  hd : ∀ (q : Nat) (g : List Int), s.G[q]? = some g → 0 ≤ g.getD 0 0 ∧ g.getD 0 0 < k
  ev : ∀ e, e ≠ 0 → ∀ (q : Nat) (g : List Int), s.G[q]? = some g → (evOf l g = e ↔ s.kn e = (q : Int) + 1)
theorem EvJ.step {l : List Ls} {k : Nat} {s : EvS} (h : EvJ l k s) (t : Tr) (x : Ls) (hx : l.getD k default = x) : EvJ l (k + 1) (evStep t (k : Int) x s) := by
  refine ⟨h.i.step t x, ?_, ?_⟩
  · unfold evStep
    split
    · split
      · intro q g hg
        dsimp only at hg
        by_cases e : (s.kn x.ev - 1).toNat = q
        · subst e
          have hlt : (s.kn x.ev - 1).toNat < s.G.length := by simpa using (List.getElem?_eq_some_iff.1 hg).1
          rw [List.getElem?_set_self hlt] at hg
          cases hg
          have hgg := List.getElem?_eq_getElem hlt
          have hge := h.i.each _ (List.getElem_mem hlt)
          have hh := h.hd _ _ hgg
          rw [List.getD_eq_getElem?_getD (l := s.G), hgg, Option.getD_some]
          generalize s.G[(s.kn x.ev - 1).toNat] = g at *
          have : (g ++ [(k : Int)]).getD 0 0 = g.getD 0 0 := head_app hge.1 _
          rw [this]; omega
        · rw [List.getElem?_set_ne e] at hg
          have := h.hd q g hg; omega
      · intro q g hg
        dsimp only at hg
        by_cases e : q < s.G.length
        · rw [List.getElem?_append_left e] at hg
          have := h.hd q g hg; omega
        · rw [List.getElem?_append_right (by omega)] at hg
          cases hq : q - s.G.length with
          | zero => rw [hq] at hg; simp at hg; subst hg; simp; omega
          | succ m => rw [hq] at hg; simp at hg
    · intro q g hg
      have := h.hd q g hg; omega
  · unfold evStep
    split
    · split
      · intro e he q g hg
        dsimp only at hg ⊢
        by_cases eq : (s.kn x.ev - 1).toNat = q
        · subst eq
          have hlt : (s.kn x.ev - 1).toNat < s.G.length := by simpa using (List.getElem?_eq_some_iff.1 hg).1
          rw [List.getElem?_set_self hlt] at hg
          cases hg
          have hgg := List.getElem?_eq_getElem hlt
          have hge := h.i.each _ (List.getElem_mem hlt)
          have hh := h.ev e he _ _ hgg
          rw [List.getD_eq_getElem?_getD (l := s.G), hgg, Option.getD_some]
          generalize s.G[(s.kn x.ev - 1).toNat] = g at *
          have : (g ++ [(k : Int)]).getD 0 0 = g.getD 0 0 := head_app hge.1 _
          unfold evOf at hh ⊢
          rw [this]; exact hh
        · rw [List.getElem?_set_ne eq] at hg
          exact h.ev e he q g hg
      · rename_i hc
        intro e he q g hg
        dsimp only at hg ⊢
        have hb := h.i.kn e
        by_cases eq : q < s.G.length
        · rw [List.getElem?_append_left eq] at hg
          have hh := h.ev e he q g hg
          by_cases ee : e = x.ev
          · rw [if_pos ee]
            have h0 : s.kn e = 0 := by
              have := h.i.kn x.ev
              rw [← ee] at hc this
              omega
            rw [hh]; omega
          · rw [if_neg ee]; exact hh
        · rw [List.getElem?_append_right (by omega)] at hg
          cases hq : q - s.G.length with
          | zero =>
            rw [hq] at hg; simp at hg; subst hg
            have hqn : q = s.G.length := by omega
            have hev : evOf l [(k : Int)] = x.ev := by unfold evOf; simp only [List.getD_cons_zero, Int.toNat_natCast]; rw [hx]
            rw [hev]
            by_cases ee : e = x.ev
            · rw [if_pos ee, hqn]; simp [ee]
            · rw [if_neg ee]
              constructor
              · intro g; exact absurd g.symm ee
              · intro g; omega
          | succ m => rw [hq] at hg; simp at hg
    · intro e he q g hg
      exact h.ev e he q g hg
end Go.Proofs.Ytkifajabiggfmaa
end
section
set_option linter.unusedSimpArgs false
set_option linter.unusedVariables false
namespace Go.Proofs.Ytkifajabiggfmaa
set_option linter.unusedSimpArgs false
set_option linter.unusedVariables false
open Go.Bx
set_option maxRecDepth 10000
def amtsT (l : List Ls) (g : List Int) : List Int := g.map fun i => (l.getD i.toNat default).amt
theorem amts_snoc (l : List Ls) (g : List Int) (i : Int) : amtsT l (g ++ [i]) = amtsT l g ++ [(l.getD i.toNat default).amt] := by simp [amtsT]
def EvG (k : Nat) (s : EvS) : Prop := ∀ g, g ∈ s.G → ∀ i, i ∈ g → 0 ≤ i ∧ i < (k : Int)
theorem EvG.step {k : Nat} {s : EvS} (h : EvG k s) (hI : EvI k s) (t : Tr) (x : Ls) : EvG (k + 1) (evStep t (k : Int) x s) := by
  unfold evStep
  split
  · split
    · rename_i hc
      have hb := hI.kn x.ev
      have hlt : (s.kn x.ev - 1).toNat < s.G.length := by omega
      intro g hg i hi
      rcases List.mem_or_eq_of_mem_set hg with h1 | h1
      · have := h g h1 i hi; omega
      · subst h1
        rw [List.getD_eq_getElem?_getD, List.getElem?_eq_getElem hlt, Option.getD_some, List.mem_append] at hi
        rcases hi with hi | hi
        · have := h _ (List.getElem_mem hlt) i hi; omega
        · simp at hi; omega
    · intro g hg i hi
      rw [List.mem_append] at hg
      rcases hg with h1 | h1
      · have := h g h1 i hi; omega
      · simp at h1; subst h1; simp at hi; omega
  · intro g hg i hi
    have := h g hg i hi; omega
theorem evRun_ok (t : Tr) : ∀ (r : List Ls) (k : Nat) (s : EvS), EvI k s → EvG k s → EvI (k + r.length) (evRun t k r s) ∧ EvG (k + r.length) (evRun t k r s)
  | [], _, _, h, h' => ⟨h, h'⟩
  | x :: r, k, s, h, h' => by
    have := evRun_ok t r (k + 1) (evStep t (k : Int) x s) (h.step t x) (h'.step h t x)
    rw [List.length_cons, show k + (r.length + 1) = k + 1 + r.length by omega]
    exact this
theorem events_ok (t : Tr) (l : List Ls) : (eventsT t l).length ≤ l.length ∧ (∀ g, g ∈ eventsT t l → 1 ≤ g.length ∧ g.length ≤ l.length) ∧ ∀ g, g ∈ eventsT t l → ∀ i, i ∈ g → 0 ≤ i ∧ i < (l.length : Int) := by
  obtain ⟨h1, h2⟩ := evRun_ok t l 0 ⟨[], fun _ => 0⟩ ⟨fun n => by simp, Nat.le_refl _, fun g hg => by simp at hg⟩ (fun g hg => by simp at hg)
  rw [Nat.zero_add] at h1 h2
  exact ⟨h1.len, h1.each, h2⟩
end Go.Proofs.Ytkifajabiggfmaa
end
section
set_option linter.unusedSimpArgs false
set_option linter.unusedVariables false
namespace Go.Proofs.Ytkifajabiggfmaa
set_option linter.unusedSimpArgs false
set_option linter.unusedVariables false
open Go.Bx
set_option maxRecDepth 10000
theorem wU {a : Int} (h : 0 ≤ a ∧ a ≤ 18446744073709551615) : IntKind.u64.wrap a = a := by rw [IntKind.wrap_u64]; omega
def orU (a b : Int) : Int := IntKind.u64.wrap ((BitVec.ofInt IntKind.u64.bits a ||| BitVec.ofInt IntKind.u64.bits b).toNat : Int)
theorem orU_add (a i b : Nat) (h1 : a * 2 ^ i < 18446744073709551616) (h2 : b < 2 ^ i) (h3 : b < 18446744073709551616) : orU ((a * 2 ^ i : Nat) : Int) (b : Int) = ((a * 2 ^ i + b : Nat) : Int) := by
  have e0 : ∀ x : Nat, x < 18446744073709551616 → (BitVec.ofInt IntKind.u64.bits (x : Int)).toNat = x := fun x hx => by simp [IntKind.bits]; omega
  have h4 : (BitVec.ofInt IntKind.u64.bits ((a * 2 ^ i : Nat) : Int) ||| BitVec.ofInt IntKind.u64.bits (b : Int)).toNat = a * 2 ^ i + b := by
    rw [BitVec.toNat_or, e0 _ h1, e0 _ h3, ← Nat.shiftLeft_eq, Nat.shiftLeft_add_eq_or_of_lt h2]
  have h5 : a * 2 ^ i + b < 18446744073709551616 := by
    rw [← h4]; exact (BitVec.ofInt IntKind.u64.bits ((a * 2 ^ i : Nat) : Int) ||| BitVec.ofInt IntKind.u64.bits (b : Int)).isLt
  rw [orU, h4, wU (by omega)]
theorem fdiv_nat (a b : Nat) : (a : Int).fdiv (b : Int) = ((a / b : Nat) : Int) := by
  cases b with
  | zero => simp
  | succ b => rw [Int.fdiv_eq_ediv_of_nonneg _ (by omega)]; simp
theorem tdiv_nat (a b : Nat) : (a : Int).tdiv (b : Int) = ((a / b : Nat) : Int) := by
  rw [Int.tdiv_eq_ediv_of_nonneg (by omega)]; simp
theorem tmod_nat (a b : Nat) : (a : Int).tmod (b : Int) = ((a % b : Nat) : Int) := by
  rw [Int.tmod_eq_emod_of_nonneg (by omega)]; simp
def blen (x : Nat) : Nat := if x = 0 then 0 else Nat.log2 x + 1
theorem blen_eq {x n : Nat} (h1 : 2 ^ n ≤ x) (h2 : x < 2 ^ (n + 1)) : blen x = n + 1 := by
  have hx : x ≠ 0 := fun e => by have := Nat.two_pow_pos n; omega
  rw [blen, if_neg hx, (Nat.log2_eq_iff hx).2 ⟨h1, h2⟩]
theorem blen_spec {x : Nat} (h : x ≠ 0) : ∃ n, blen x = n + 1 ∧ 2 ^ n ≤ x ∧ x < 2 ^ (n + 1) :=
  ⟨Nat.log2 x, by rw [blen, if_neg h], ((Nat.log2_eq_iff h).1 rfl).1, ((Nat.log2_eq_iff h).1 rfl).2⟩
theorem blen_shift {x k : Nat} (h : 2 ^ k ≤ x) : blen x = blen (x / 2 ^ k) + k := by
  have h0 : 0 < x / 2 ^ k := Nat.div_pos h (Nat.two_pow_pos k)
  obtain ⟨n, h1, h2, h3⟩ := blen_spec (x := x / 2 ^ k) (by omega)
  rw [h1]
  have h4 : 2 ^ n * 2 ^ k ≤ x := (Nat.le_div_iff_mul_le (Nat.two_pow_pos k)).1 h2
  have h5 : x < 2 ^ (n + 1) * 2 ^ k := (Nat.div_lt_iff_lt_mul (Nat.two_pow_pos k)).1 h3
  rw [← Nat.pow_add] at h4 h5
  rw [blen_eq (n := n + k) h4 (by rw [show n + k + 1 = n + 1 + k by omega]; exact h5)]
  omega
theorem wUn (n : Nat) : IntKind.u64.wrap (n : Int) = ((n % 18446744073709551616 : Nat) : Int) := by rw [IntKind.wrap_u64]; omega
theorem andN (x : Nat) : (BitVec.ofInt IntKind.u64.bits (x : Int) &&& BitVec.ofInt IntKind.u64.bits 4294967295).toNat = x % 4294967296 := by
  rw [BitVec.toNat_and]
  have e1 : (BitVec.ofInt IntKind.u64.bits (x : Int)).toNat = x % 18446744073709551616 := by
    simp [IntKind.bits]
  have e2 : (BitVec.ofInt IntKind.u64.bits 4294967295).toNat = 2 ^ 32 - 1 := by decide +kernel
  rw [e1, e2, Nat.and_two_pow_sub_one_eq_mod]; omega
theorem p32 : (2 : Int) ^ min 32 IntKind.u64.bits = 4294967296 := by decide +kernel
theorem fdivL (n : Nat) : (n : Int).fdiv 4294967296 = ((n / 4294967296 : Nat) : Int) := fdiv_nat n 4294967296
theorem p16 : (2 : Int) ^ min 16 IntKind.u64.bits = 65536 := by decide +kernel
theorem p8 : (2 : Int) ^ min 8 IntKind.u64.bits = 256 := by decide +kernel
theorem fdivM (n : Nat) : (n : Int).fdiv 65536 = ((n / 65536 : Nat) : Int) := fdiv_nat n 65536
theorem fdivS (n : Nat) : (n : Int).fdiv 256 = ((n / 256 : Nat) : Int) := fdiv_nat n 256
theorem sMul64 (x y : Nat) (hx : x < 18446744073709551616) (hy : y < 18446744073709551616) : Ctr Try.prog 70 [.d (.int .u64 x), .d (.int .u64 y)] [] (.tup [.d (.int .u64 ((x * y / 18446744073709551616 : Nat) : Int)), .d (.int .u64 ((x * y % 18446744073709551616 : Nat) : Int))]) [] [] := by
  refine ctr_pure Try.func70 ok70 rfl cc70 cr70 Try.ntmps70 (by simp) rfl rfl ?_; intro c hP hfn; simp only [kc70, andN, p32, fdivL, ← Int.natCast_mul, ← Int.natCast_add, wUn, vcb, ↓evSo_some, ↓reduceIte, reduceCtorEq, seval]
  have hm := Go.Lib.mul64_hi x y hx hy
  have ha := Go.Lib.half_mul_le (a := x / 4294967296) (b := y / 4294967296) (by omega) (by omega)
  have hb := Go.Lib.half_mul_le (a := x / 4294967296) (b := y % 4294967296) (by omega) (by omega)
  have hc := Go.Lib.half_mul_le (a := x % 4294967296) (b := y / 4294967296) (by omega) (by omega)
  have hd := Go.Lib.half_mul_le (a := x % 4294967296) (b := y % 4294967296) (by omega) (by omega)
  (refine RetK.pure (by simp only [rs70, rsb, vcb, ↓evSo_some, ↓reduceIte, reduceCtorEq, seval]) (VLe.tups ?_); simp only [rs70, rsb, vcb, ↓evSo_some, ↓reduceIte, reduceCtorEq, seval])
  refine ⟨VLe.int (congrArg Int.ofNat ?_), VLe.int rfl, trivial⟩
  have e1 : x % 4294967296 % 18446744073709551616 = x % 4294967296 := by omega
  have e2 : y % 4294967296 % 18446744073709551616 = y % 4294967296 := by omega
  rw [e1, e2]
  generalize (x / 4294967296) * (y / 4294967296) = a at *
  generalize (x / 4294967296) * (y % 4294967296) = b at *
  generalize (x % 4294967296) * (y / 4294967296) = c at *
  generalize (x % 4294967296) * (y % 4294967296) = d at *
  generalize x * y / 18446744073709551616 = z at *
  omega
def tab : ByteArray := ⟨#[0, 1, 2, 2, 3, 3, 3, 3, 4, 4, 4, 4, 4, 4, 4, 4, 5, 5, 5, 5, 5, 5, 5, 5, 5, 5, 5, 5, 5, 5, 5, 5, 6, 6, 6, 6, 6, 6, 6, 6, 6, 6, 6, 6, 6, 6, 6, 6, 6, 6, 6, 6, 6, 6, 6, 6, 6, 6, 6, 6, 6, 6, 6, 6, 7, 7, 7, 7, 7, 7, 7, 7, 7, 7, 7, 7, 7, 7, 7, 7, 7, 7, 7, 7, 7, 7, 7, 7, 7, 7, 7, 7, 7, 7, 7, 7, 7, 7, 7, 7, 7, 7, 7, 7, 7, 7, 7, 7, 7, 7, 7, 7, 7, 7, 7, 7, 7, 7, 7, 7, 7, 7, 7, 7, 7, 7, 7, 7, 8, 8, 8, 8, 8, 8, 8, 8, 8, 8, 8, 8, 8, 8, 8, 8, 8, 8, 8, 8, 8, 8, 8, 8, 8, 8, 8, 8, 8, 8, 8, 8, 8, 8, 8, 8, 8, 8, 8, 8, 8, 8, 8, 8, 8, 8, 8, 8, 8, 8, 8, 8, 8, 8, 8, 8, 8, 8, 8, 8, 8, 8, 8, 8, 8, 8, 8, 8, 8, 8, 8, 8, 8, 8, 8, 8, 8, 8, 8, 8, 8, 8, 8, 8, 8, 8, 8, 8, 8, 8, 8, 8, 8, 8, 8, 8, 8, 8, 8, 8, 8, 8, 8, 8, 8, 8, 8, 8, 8, 8, 8, 8, 8, 8, 8, 8, 8, 8, 8, 8, 8, 8, 8, 8, 8, 8, 8, 8]⟩
theorem tab_ok : ∀ z : Nat, z < 256 → sAt tab z = ((blen z : Nat) : Int) := by
  have h : ((List.range 256).all fun z => sAt tab z == ((blen z : Nat) : Int)) = true := by decide +kernel
  intro z hz
  exact eq_of_beq (List.all_eq_true.1 h z (by simpa using hz))
theorem u8n {z : Nat} (h : z < 256) : IntKind.u8.wrap (z : Int) = (z : Int) := by rw [IntKind.wrap_u8]; omega
theorem blen_256 {z : Nat} (h : z < 256) : blen z ≤ 8 := by
  by_cases h0 : z = 0
  · subst h0; simp [blen]
  · obtain ⟨n, h1, h2, h3⟩ := blen_spec h0
    rw [h1]
    have : n < 8 := (Nat.pow_lt_pow_iff_right (show 1 < 2 by omega)).1 (show 2 ^ n < 2 ^ 8 by omega)
    omega
theorem sLen64 (x : Nat) (hx : x < 18446744073709551616) : Ctr Try.prog 73 [.d (.int .u64 x)] [] (.d (.int .i64 ((blen x : Nat) : Int))) [] [] := by
  refine ctr_pure Try.func73 ok73 rfl cc73 cr73 Try.ntmps73 (by simp) rfl rfl ?_; intro c hP hfn; simp only [kc73, p32, p16, p8, fdivL, fdivM, fdivS, ← Int.natCast_mul, ← Int.natCast_add, wUn, vcb, ↓evSo_some, ↓reduceIte, reduceCtorEq, seval]
  repeat' first
      | refine And.intro (fun h => ?_) (fun h => ?_)
      | refine And.intro (by first | omega | (simp only [maxLen, decide_eq_true_eq, decide_eq_false_iff_not] at *; omega)) ?_
      | (refine TR.aslO rfl rfl rfl rfl trivial (Nat.le_of_ble_eq_true rfl) ?_
         try simp only [p32, p16, p8, fdivL, fdivM, fdivS, ← Int.natCast_mul, ← Int.natCast_add, wUn, vcb, ↓evSo_some, ↓reduceIte, reduceCtorEq, seval])
      | refine And.intro trivial ?_
      | refine And.intro rfl ?_
      | fail
  · simp only [ge_iff_le, decide_eq_true_eq, decide_eq_false_iff_not, Int.not_le] at *
    have hz : x / 4294967296 / 65536 / 256 < 256 := by omega
    have q32 := blen_shift (x := x) (k := 32) (by omega)
    rw [show (2 : Nat) ^ 32 = 4294967296 from rfl] at q32
    have q16 := blen_shift (x := x / 4294967296) (k := 16) (by omega)
    rw [show (2 : Nat) ^ 16 = 65536 from rfl] at q16
    have q8 := blen_shift (x := x / 4294967296 / 65536) (k := 8) (by omega)
    rw [show (2 : Nat) ^ 8 = 256 from rfl] at q8
    have e := u8n hz
    have et := tab_ok _ hz
    have hb := blen_256 hz
    rw [e]
    refine And.intro ⟨by omega, (show (((x / 4294967296 / 65536 / 256 : Nat) : Int) < 256) by omega)⟩ ?_
    exact RetK.pure (by simp only [rs73, rsb, vcb, ↓evSo_some, ↓reduceIte, reduceCtorEq, seval]) (by (simp only [rs73, rsb, vcb, ↓evSo_some, ↓reduceIte, reduceCtorEq, seval, enb, vcb, ↓evSo_some, ↓reduceIte, reduceCtorEq, seval]) <;> (first | (change IntKind.i64.wrap (_ + IntKind.i64.wrap (sAt tab (x / 4294967296 / 65536 / 256))) = _; rw [et, wI (a := ((blen (x / 4294967296 / 65536 / 256) : Nat) : Int)) (by omega)]; rw [q32, q16, q8]; generalize blen (x / 4294967296 / 65536 / 256) = w at *; simp only [IntKind.wrap_i64]; omega)))
  · simp only [ge_iff_le, decide_eq_true_eq, decide_eq_false_iff_not, Int.not_le] at *
    have hz : x / 4294967296 / 65536 < 256 := by omega
    have q32 := blen_shift (x := x) (k := 32) (by omega)
    rw [show (2 : Nat) ^ 32 = 4294967296 from rfl] at q32
    have q16 := blen_shift (x := x / 4294967296) (k := 16) (by omega)
    rw [show (2 : Nat) ^ 16 = 65536 from rfl] at q16
    have e := u8n hz
    have et := tab_ok _ hz
    have hb := blen_256 hz
    rw [e]
    refine And.intro ⟨by omega, (show (((x / 4294967296 / 65536 : Nat) : Int) < 256) by omega)⟩ ?_
    exact RetK.pure (by simp only [rs73, rsb, vcb, ↓evSo_some, ↓reduceIte, reduceCtorEq, seval]) (by (simp only [rs73, rsb, vcb, ↓evSo_some, ↓reduceIte, reduceCtorEq, seval, enb, vcb, ↓evSo_some, ↓reduceIte, reduceCtorEq, seval]) <;> (first | (change IntKind.i64.wrap (_ + IntKind.i64.wrap (sAt tab (x / 4294967296 / 65536))) = _; rw [et, wI (a := ((blen (x / 4294967296 / 65536) : Nat) : Int)) (by omega)]; rw [q32, q16]; generalize blen (x / 4294967296 / 65536) = w at *; simp only [IntKind.wrap_i64]; omega)))
  · simp only [ge_iff_le, decide_eq_true_eq, decide_eq_false_iff_not, Int.not_le] at *
    have hz : x / 4294967296 / 256 < 256 := by omega
    have q32 := blen_shift (x := x) (k := 32) (by omega)
    rw [show (2 : Nat) ^ 32 = 4294967296 from rfl] at q32
    have q8 := blen_shift (x := x / 4294967296) (k := 8) (by omega)
    rw [show (2 : Nat) ^ 8 = 256 from rfl] at q8
    have e := u8n hz
    have et := tab_ok _ hz
    have hb := blen_256 hz
    rw [e]
    refine And.intro ⟨by omega, (show (((x / 4294967296 / 256 : Nat) : Int) < 256) by omega)⟩ ?_
    exact RetK.pure (by simp only [rs73, rsb, vcb, ↓evSo_some, ↓reduceIte, reduceCtorEq, seval]) (by (simp only [rs73, rsb, vcb, ↓evSo_some, ↓reduceIte, reduceCtorEq, seval, enb, vcb, ↓evSo_some, ↓reduceIte, reduceCtorEq, seval]) <;> (first | (change IntKind.i64.wrap (_ + IntKind.i64.wrap (sAt tab (x / 4294967296 / 256))) = _; rw [et, wI (a := ((blen (x / 4294967296 / 256) : Nat) : Int)) (by omega)]; rw [q32, q8]; generalize blen (x / 4294967296 / 256) = w at *; simp only [IntKind.wrap_i64]; omega)))
  · simp only [ge_iff_le, decide_eq_true_eq, decide_eq_false_iff_not, Int.not_le] at *
    have hz : x / 4294967296 < 256 := by omega
    have q32 := blen_shift (x := x) (k := 32) (by omega)
    rw [show (2 : Nat) ^ 32 = 4294967296 from rfl] at q32
    have e := u8n hz
    have et := tab_ok _ hz
    have hb := blen_256 hz
    rw [e]
    refine And.intro ⟨by omega, (show (((x / 4294967296 : Nat) : Int) < 256) by omega)⟩ ?_
    exact RetK.pure (by simp only [rs73, rsb, vcb, ↓evSo_some, ↓reduceIte, reduceCtorEq, seval]) (by (simp only [rs73, rsb, vcb, ↓evSo_some, ↓reduceIte, reduceCtorEq, seval, enb, vcb, ↓evSo_some, ↓reduceIte, reduceCtorEq, seval]) <;> (first | (change IntKind.i64.wrap (_ + IntKind.i64.wrap (sAt tab (x / 4294967296))) = _; rw [et, wI (a := ((blen (x / 4294967296) : Nat) : Int)) (by omega)]; rw [q32]; generalize blen (x / 4294967296) = w at *; simp only [IntKind.wrap_i64]; omega)))
  · simp only [ge_iff_le, decide_eq_true_eq, decide_eq_false_iff_not, Int.not_le] at *
    have hz : x / 65536 / 256 < 256 := by omega
    have q16 := blen_shift (x := x) (k := 16) (by omega)
    rw [show (2 : Nat) ^ 16 = 65536 from rfl] at q16
    have q8 := blen_shift (x := x / 65536) (k := 8) (by omega)
    rw [show (2 : Nat) ^ 8 = 256 from rfl] at q8
    have e := u8n hz
    have et := tab_ok _ hz
    have hb := blen_256 hz
    rw [e]
    refine And.intro ⟨by omega, (show (((x / 65536 / 256 : Nat) : Int) < 256) by omega)⟩ ?_
    exact RetK.pure (by simp only [rs73, rsb, vcb, ↓evSo_some, ↓reduceIte, reduceCtorEq, seval]) (by (simp only [rs73, rsb, vcb, ↓evSo_some, ↓reduceIte, reduceCtorEq, seval, enb, vcb, ↓evSo_some, ↓reduceIte, reduceCtorEq, seval]) <;> (first | (change IntKind.i64.wrap (_ + IntKind.i64.wrap (sAt tab (x / 65536 / 256))) = _; rw [et, wI (a := ((blen (x / 65536 / 256) : Nat) : Int)) (by omega)]; rw [q16, q8]; generalize blen (x / 65536 / 256) = w at *; simp only [IntKind.wrap_i64]; omega)))
  · simp only [ge_iff_le, decide_eq_true_eq, decide_eq_false_iff_not, Int.not_le] at *
    have hz : x / 65536 < 256 := by omega
    have q16 := blen_shift (x := x) (k := 16) (by omega)
    rw [show (2 : Nat) ^ 16 = 65536 from rfl] at q16
    have e := u8n hz
    have et := tab_ok _ hz
    have hb := blen_256 hz
    rw [e]
    refine And.intro ⟨by omega, (show (((x / 65536 : Nat) : Int) < 256) by omega)⟩ ?_
    exact RetK.pure (by simp only [rs73, rsb, vcb, ↓evSo_some, ↓reduceIte, reduceCtorEq, seval]) (by (simp only [rs73, rsb, vcb, ↓evSo_some, ↓reduceIte, reduceCtorEq, seval, enb, vcb, ↓evSo_some, ↓reduceIte, reduceCtorEq, seval]) <;> (first | (change IntKind.i64.wrap (_ + IntKind.i64.wrap (sAt tab (x / 65536))) = _; rw [et, wI (a := ((blen (x / 65536) : Nat) : Int)) (by omega)]; rw [q16]; generalize blen (x / 65536) = w at *; simp only [IntKind.wrap_i64]; omega)))
  · simp only [ge_iff_le, decide_eq_true_eq, decide_eq_false_iff_not, Int.not_le] at *
    have hz : x / 256 < 256 := by omega
    have q8 := blen_shift (x := x) (k := 8) (by omega)
    rw [show (2 : Nat) ^ 8 = 256 from rfl] at q8
    have e := u8n hz
    have et := tab_ok _ hz
    have hb := blen_256 hz
    rw [e]
    refine And.intro ⟨by omega, (show (((x / 256 : Nat) : Int) < 256) by omega)⟩ ?_
    exact RetK.pure (by simp only [rs73, rsb, vcb, ↓evSo_some, ↓reduceIte, reduceCtorEq, seval]) (by (simp only [rs73, rsb, vcb, ↓evSo_some, ↓reduceIte, reduceCtorEq, seval, enb, vcb, ↓evSo_some, ↓reduceIte, reduceCtorEq, seval]) <;> (first | (change IntKind.i64.wrap (_ + IntKind.i64.wrap (sAt tab (x / 256))) = _; rw [et, wI (a := ((blen (x / 256) : Nat) : Int)) (by omega)]; rw [q8]; generalize blen (x / 256) = w at *; simp only [IntKind.wrap_i64]; omega)))
  · simp only [ge_iff_le, decide_eq_true_eq, decide_eq_false_iff_not, Int.not_le] at *
    have hz : x < 256 := by omega
    have e := u8n hz
    have et := tab_ok _ hz
    have hb := blen_256 hz
    rw [e]
    refine And.intro ⟨by omega, (show (((x : Nat) : Int) < 256) by omega)⟩ ?_
    exact RetK.pure (by simp only [rs73, rsb, vcb, ↓evSo_some, ↓reduceIte, reduceCtorEq, seval]) (by (simp only [rs73, rsb, vcb, ↓evSo_some, ↓reduceIte, reduceCtorEq, seval, enb, vcb, ↓evSo_some, ↓reduceIte, reduceCtorEq, seval]) <;> (first | (change IntKind.i64.wrap (_ + IntKind.i64.wrap (sAt tab (x))) = _; rw [et, wI (a := ((blen (x) : Nat) : Int)) (by omega)]; generalize blen (x) = w at *; simp only [IntKind.wrap_i64]; omega)))
theorem sLZ (x : Nat) (hx : x < 18446744073709551616) : Ctr Try.prog 72 [.d (.int .u64 x)] [] (.d (.int .i64 ((64 - blen x : Nat) : Int))) [] [] := by
  have hb : blen x ≤ 64 := by
    by_cases h0 : x = 0
    · subst h0; simp [blen]
    · obtain ⟨n, h1, h2, h3⟩ := blen_spec h0
      rw [h1]
      have : n < 64 := (Nat.pow_lt_pow_iff_right (show 1 < 2 by omega)).1 (show 2 ^ n < 2 ^ 64 by omega)
      omega
  refine ctr_pure Try.func72 ok72 rfl cc72 cr72 Try.ntmps72 (by simp) rfl rfl ?_; intro c hP hfn; simp only [kc72, vcb, ↓evSo_some, ↓reduceIte, reduceCtorEq, seval]
  repeat' first
      | (first
          | refine TR.p hP (by first | exact sLen64 x hx) (by repeat' first | exact trivial | (intro _; assumption) | apply And.intro) ?_
          | refine TR.gp hP rfl (fun _ => by first | exact sLen64 x hx) (fun _ => by repeat' first | exact trivial | (intro _; assumption) | apply And.intro) ?_
          | refine TR.pv hP rfl (by first | exact sLen64 x hx) trivial (by repeat' first | exact trivial | (intro _; assumption) | apply And.intro) ?_
         try simp only [vcb, ↓evSo_some, ↓reduceIte, reduceCtorEq, seval])
      | refine And.intro (fun h => ?_) (fun h => ?_)
      | refine And.intro (by first | omega | (simp only [maxLen, decide_eq_true_eq, decide_eq_false_iff_not] at *; omega)) ?_
      | (refine TR.aslO rfl rfl rfl rfl trivial (Nat.le_of_ble_eq_true rfl) ?_
         try simp only [vcb, ↓evSo_some, ↓reduceIte, reduceCtorEq, seval])
      | refine And.intro trivial ?_
      | refine And.intro rfl ?_
      | fail
  exact RetK.pure (by simp only [rs72, rsb, vcb, ↓evSo_some, ↓reduceIte, reduceCtorEq, seval]) (by (simp only [rs72, rsb, vcb, ↓evSo_some, ↓reduceIte, reduceCtorEq, seval, enb, vcb, ↓evSo_some, ↓reduceIte, reduceCtorEq, seval]) <;> (first | (rw [wI (by omega)]; omega)))
theorem kn_dec {u d v v1 v0 q r : Nat} (hv : v = v1 * 4294967296 + v0) (hu : u < v) (hd : d < 4294967296) (e : u = q * v1 + r) (hc : 4294967296 ≤ q ∨ 4294967296 * r + d < q * v0) : (u * 4294967296 + d) / v < q := by
  rw [Nat.div_lt_iff_lt_mul (by omega)]
  rcases hc with h | h
  · have h1 : 4294967296 * v ≤ q * v := Nat.mul_le_mul_right _ h
    omega
  · have h1 : q * v = q * v1 * 4294967296 + q * v0 := by rw [hv, Nat.mul_add, Nat.mul_assoc]
    omega
theorem kn_le {u d v v1 v0 q r : Nat} (hv : v = v1 * 4294967296 + v0) (h0 : 0 < v) (e : u = q * v1 + r) (h : q * v0 ≤ 4294967296 * r + d) : q ≤ (u * 4294967296 + d) / v := by
  rw [Nat.le_div_iff_mul_le h0]
  have h1 : q * v = q * v1 * 4294967296 + q * v0 := by rw [hv, Nat.mul_add, Nat.mul_assoc]
  omega
theorem kn_lo {u d v v1 v0 : Nat} (hv : v = v1 * 4294967296 + v0) (h1 : 0 < v1) (hd : d < 4294967296) : (u * 4294967296 + d) / v ≤ u / v1 := by
  rw [Nat.le_div_iff_mul_le h1]
  have h2 := Nat.div_mul_le_self (u * 4294967296 + d) v
  generalize (u * 4294967296 + d) / v = X at *
  have h3 : X * v = X * v1 * 4294967296 + X * v0 := by rw [hv, Nat.mul_add, Nat.mul_assoc]
  generalize X * v1 = a at *
  omega
theorem kn_start {u v v1 v0 : Nat} (hv : v = v1 * 4294967296 + v0) (h1 : 2147483648 ≤ v1) (h0 : v0 < 4294967296) (hu : u < v) : u / v1 ≤ 4294967297 := by
  have : u / v1 < 4294967298 := by
    rw [Nat.div_lt_iff_lt_mul (by omega)]
    omega
  omega
theorem kn_brk {u d v v1 v0 q r : Nat} (hv : v = v1 * 4294967296 + v0) (h0 : v0 < 4294967296) (hv0 : 0 < v) (e : u = q * v1 + r) (hq : q ≤ 4294967296) (hr : 4294967296 ≤ r) : q ≤ (u * 4294967296 + d) / v := by
  refine kn_le hv hv0 e ?_
  have : q * v0 ≤ 4294967296 * v0 := Nat.mul_le_mul_right _ hq
  omega
theorem kn_join {u d d0 t p q w z : Nat} (h1 : u * 4294967296 + d = p + w) (h2 : w * 4294967296 + d0 = q + z) (ht : t = d * 4294967296 + d0) : u * 18446744073709551616 + t = p * 4294967296 + q + z := by
  rw [ht, show (18446744073709551616 : Nat) = 4294967296 * 4294967296 from rfl, ← Nat.mul_assoc, ← Nat.add_assoc, ← Nat.add_mul, h1, Nat.add_mul, Nat.add_assoc, h2, Nat.add_assoc]
theorem g1 (u v1 : Nat) (hu : u < 18446744073709551616) : IntKind.u64.wrap ((u / v1 : Nat) : Int) = ((u / v1 : Nat) : Int) := by
  rw [wUn, Nat.mod_eq_of_lt (Nat.lt_of_le_of_lt (Nat.div_le_self u v1) hu)]
theorem g2 (u v1 : Nat) (hu : u < 18446744073709551616) : IntKind.u64.wrap (((u / v1 : Nat) : Int) * (v1 : Int)) = ((u / v1 * v1 : Nat) : Int) := by
  have := Nat.div_mul_le_self u v1
  rw [← Int.natCast_mul, wU (by omega)]
theorem g3 (u v1 : Nat) (hu : u < 18446744073709551616) : IntKind.u64.wrap ((u : Int) - ((u / v1 * v1 : Nat) : Int)) = ((u % v1 : Nat) : Int) := by
  have h1 := Nat.div_mul_le_self u v1
  have h2 := Nat.div_add_mod' u v1
  have : u % v1 ≤ u := Nat.mod_le u v1
  exact (wU (by omega)).trans (by omega)
theorem g4 (u d v q w : Nat) (hw : w < 18446744073709551616) (e : u * 4294967296 + d = q * v + w) :
    IntKind.u64.wrap (IntKind.u64.wrap (IntKind.u64.wrap ((u : Int) * 4294967296) + (d : Int)) - IntKind.u64.wrap ((q : Int) * (v : Int))) = (w : Int) := by
  rw [← Int.natCast_mul]
  generalize q * v = p at *
  simp only [IntKind.wrap_u64]
  omega
theorem gm (x : Nat) : IntKind.u64.wrap ((x % 4294967296 : Nat) : Int) = ((x % 4294967296 : Nat) : Int) := by rw [wU (by omega)]
structure KnI (u d v v1 v0 q r : Nat) : Prop where
  lo : (u * 4294967296 + d) / v ≤ q
  hi : q ≤ 4294967297
  e : u = q * v1 + r
  r : r < 4294967296
theorem kn_cond {d v0 q r : Nat} (hd : d < 4294967296) (h0 : v0 < 4294967296) (hr : r < 4294967296) :
    ((decide ((q : Int) ≥ 4294967296) || decide (IntKind.u64.wrap ((q : Int) * (v0 : Int)) > IntKind.u64.wrap (IntKind.u64.wrap (4294967296 * (r : Int)) + (d : Int)))) = true) ↔ (4294967296 ≤ q ∨ 4294967296 * r + d < q * v0) := by
  by_cases hq : 4294967296 ≤ q
  · have : (q : Int) ≥ 4294967296 := by omega
    simp [this, hq]
  · have h1 : q * v0 ≤ 4294967295 * 4294967295 := Nat.mul_le_mul (by omega) (by omega)
    have h2 : ¬ ((q : Int) ≥ 4294967296) := by omega
    rw [← Int.natCast_mul, wU (a := ((q * v0 : Nat) : Int)) (by omega), wU (a := 4294967296 * (r : Int)) (by omega), wU (by omega)]
    simp only [h2, decide_false, Bool.false_or, decide_eq_true_eq, hq, false_or]
    omega
theorem sDiv64 (hi lo y : Nat) (hh : hi < y) (hl : lo < 18446744073709551616) (hy : y < 18446744073709551616) : Ctr Try.prog 71 [.d (.int .u64 hi), .d (.int .u64 lo), .d (.int .u64 y)] []
    (.tup [.d (.int .u64 (((hi * 18446744073709551616 + lo) / y : Nat) : Int)), .d (.int .u64 (((hi * 18446744073709551616 + lo) % y : Nat) : Int))]) [] [] := by
  obtain ⟨n, b1, b2, b3⟩ := blen_spec (x := y) (by omega)
  have hn : n < 64 := (Nat.pow_lt_pow_iff_right (show 1 < 2 by omega)).1 (show 2 ^ n < 2 ^ 64 by omega)
  have hs : 64 - blen y = 63 - n := by omega
  have lz := sLZ y hy
  rw [hs] at lz
  obtain ⟨sh, hsd⟩ : ∃ sh, 63 - n = sh := ⟨_, rfl⟩
  rw [hsd] at lz
  obtain ⟨P, hP2⟩ : ∃ P, 2 ^ sh = P := ⟨_, rfl⟩
  obtain ⟨Q, hQ2⟩ : ∃ Q, 2 ^ (64 - sh) = Q := ⟨_, rfl⟩
  have hP0 : 0 < P := hP2 ▸ Nat.two_pow_pos sh
  have hQ0 : 0 < Q := hQ2 ▸ Nat.two_pow_pos _
  have hPQ : Q * P = 18446744073709551616 := by
    rw [← hP2, ← hQ2, ← Nat.pow_add, show 64 - sh + sh = 64 by omega]
  obtain ⟨v, hv⟩ : ∃ v, y * P = v := ⟨_, rfl⟩
  have v63 : 9223372036854775808 ≤ v := by
    have h1 : 2 ^ n * P ≤ y * P := Nat.mul_le_mul_right _ b2
    rw [← hP2, ← Nat.pow_add, show n + sh = 63 by omega, hP2, hv] at h1
    exact h1
  have v64 : v < 18446744073709551616 := by
    have h1 : y * P < 2 ^ (n + 1) * P := Nat.mul_lt_mul_of_pos_right b3 hP0
    rw [← hP2, ← Nat.pow_add, show n + 1 + sh = 64 by omega, hP2, hv] at h1
    exact h1
  obtain ⟨g, hg⟩ : ∃ g, lo / Q = g := ⟨_, rfl⟩
  obtain ⟨t, ht⟩ : ∃ t, lo * P % 18446744073709551616 = t := ⟨_, rfl⟩
  have hgP : g < P := by
    rw [← hg, Nat.div_lt_iff_lt_mul hQ0, Nat.mul_comm, hPQ]; exact hl
  have hlo : lo * P = g * 18446744073709551616 + t := by
    have h1 := Nat.div_add_mod (lo * P) 18446744073709551616
    have h2 : lo * P / 18446744073709551616 = g := by rw [← hPQ, Nat.mul_div_mul_right _ _ hP0, hg]
    rw [h2, ht] at h1; omega
  obtain ⟨u, hu⟩ : ∃ u, hi * P + g = u := ⟨_, rfl⟩
  have ht64 : t < 18446744073709551616 := by rw [← ht]; exact Nat.mod_lt _ (by omega)
  have hN : (hi * 18446744073709551616 + lo) * P = u * 18446744073709551616 + t := by
    rw [Nat.add_mul, hlo, ← hu, Nat.mul_right_comm]; omega
  have huv : u < v := by
    have h1 : (hi * 18446744073709551616 + lo) < y * 18446744073709551616 := by omega
    have h2 : (hi * 18446744073709551616 + lo) * P < y * 18446744073709551616 * P := Nat.mul_lt_mul_of_pos_right h1 hP0
    rw [hN, Nat.mul_right_comm, hv] at h2
    omega
  have hhP : hi * P < 18446744073709551616 := by omega
  have e1 : IntKind.u64.wrap (sh : Int) = (sh : Int) := wU (by omega)
  have e2 : (2 : Int) ^ min sh IntKind.u64.bits = (P : Int) := by
    rw [show min sh IntKind.u64.bits = sh from Nat.min_eq_left (show sh ≤ 64 by omega), ← hP2]; simp
  have e3 : IntKind.u64.wrap ((y : Int) * (P : Int)) = (v : Int) := by rw [← Int.natCast_mul, hv, wU (by omega)]
  have e4 : IntKind.u64.wrap ((hi : Int) * (P : Int)) = ((hi * P : Nat) : Int) := by rw [← Int.natCast_mul]; exact wU (by omega)
  have e5 : IntKind.u64.wrap (64 - (sh : Int)) = ((64 - sh : Nat) : Int) := (wU (by omega)).trans (by omega)
  have e6 : (2 : Int) ^ min (64 - sh) IntKind.u64.bits = (Q : Int) := by
    rw [show min (64 - sh) IntKind.u64.bits = 64 - sh from Nat.min_eq_left (show 64 - sh ≤ 64 by omega), ← hQ2]; simp
  have e7 : (lo : Int).fdiv (Q : Int) = (g : Int) := by rw [fdiv_nat, hg]
  have e8 : IntKind.u64.wrap ((BitVec.ofInt IntKind.u64.bits ((hi * P : Nat) : Int) ||| BitVec.ofInt IntKind.u64.bits (g : Int)).toNat : Int) = (u : Int) := by
    have := orU_add hi sh g (by rw [hP2]; omega) (by rw [hP2]; omega) (by omega)
    rw [hP2, hu] at this
    exact this
  have e9 : IntKind.u64.wrap ((lo : Int) * (P : Int)) = (t : Int) := by rw [← Int.natCast_mul, wUn, ht]
  refine ctr_pure Try.func71 ok71 rfl cc71 cr71 Try.ntmps71 (by simp) rfl rfl ?_; intro c hP hfn; simp only [kc71, vcb, ↓evSo_some, ↓reduceIte, reduceCtorEq, seval]
  refine ⟨fun h => ?_, fun h => ?_⟩
  · exfalso; simp at h; omega
  refine ⟨fun h2 => ?_, fun h2 => ?_⟩
  · exfalso; simp at h2; omega
  refine ⟨fun h3 => ?_, fun h3 => ?_⟩
  · have h0 : hi = 0 := by simpa using h3
    subst h0
    repeat' first
        | refine And.intro (fun h => ?_) (fun h => ?_)
        | refine And.intro (by first | omega | (simp only [maxLen, decide_eq_true_eq, decide_eq_false_iff_not] at *; omega)) ?_
        | (refine TR.aslO rfl rfl rfl rfl trivial (Nat.le_of_ble_eq_true rfl) ?_
           try simp only [vcb, ↓evSo_some, ↓reduceIte, reduceCtorEq, seval])
        | refine And.intro trivial ?_
        | refine And.intro rfl ?_
        | fail
    (refine RetK.pure (by simp only [rs71, rsb, vcb, ↓evSo_some, ↓reduceIte, reduceCtorEq, seval]) (VLe.tups ?_); simp only [rs71, rsb, vcb, ↓evSo_some, ↓reduceIte, reduceCtorEq, seval])
    refine ⟨VLe.int ?_, VLe.int ?_, trivial⟩
    · simp only [tdiv_nat, g1 _ _ hl, Nat.zero_mul, Nat.zero_add]
    · simp only [tmod_nat, Nat.zero_mul, Nat.zero_add]
  have hv1 : v = v / 4294967296 * 4294967296 + v % 4294967296 := by omega
  have hv1b : 2147483648 ≤ v / 4294967296 := by omega
  have hv0 : v % 4294967296 < 4294967296 := by omega
  obtain ⟨v1, hv1d⟩ : ∃ v1, v / 4294967296 = v1 := ⟨_, rfl⟩
  obtain ⟨v0, hv0d⟩ : ∃ v0, v % 4294967296 = v0 := ⟨_, rfl⟩
  obtain ⟨d, hdd⟩ : ∃ d, t / 4294967296 = d := ⟨_, rfl⟩
  obtain ⟨d0, hd0d⟩ : ∃ d0, t % 4294967296 = d0 := ⟨_, rfl⟩
  have hd : d < 4294967296 := by omega
  have hd0 : d0 < 4294967296 := by omega
  have f1 : (v : Int).fdiv 4294967296 = (v1 : Int) := by rw [fdivL, hv1d]
  have f2 : (t : Int).fdiv 4294967296 = (d : Int) := by rw [fdivL, hdd]
  have f3 : IntKind.u64.wrap ((BitVec.ofInt IntKind.u64.bits (v : Int) &&& BitVec.ofInt IntKind.u64.bits 4294967295).toNat : Int) = (v0 : Int) := by rw [andN, gm, hv0d]
  have f4 : IntKind.u64.wrap ((BitVec.ofInt IntKind.u64.bits (t : Int) &&& BitVec.ofInt IntKind.u64.bits 4294967295).toNat : Int) = (d0 : Int) := by rw [andN, gm, hd0d]
  rw [hv1d, hv0d] at hv1
  rw [hv1d] at hv1b
  rw [hv0d] at hv0
  have hu64 : u < 18446744073709551616 := by omega
  have f5 : IntKind.u64.wrap ((u : Int).tdiv (v1 : Int)) = ((u / v1 : Nat) : Int) := by rw [tdiv_nat, g1 _ _ hu64]
  have hdiv : ∀ q r, KnI u d v v1 v0 q r → (4294967296 ≤ q ∨ 4294967296 * r + d < q * v0) → (u * 4294967296 + d) / v + 1 ≤ q := fun q r h hc => kn_dec hv1 huv hd h.e hc
  obtain ⟨q1, hq1⟩ : ∃ q1, (u * 4294967296 + d) / v = q1 := ⟨_, rfl⟩
  obtain ⟨w, hw⟩ : ∃ w, (u * 4294967296 + d) % v = w := ⟨_, rfl⟩
  have hwv : w < v := by rw [← hw]; exact Nat.mod_lt _ (by omega)
  have hqw : u * 4294967296 + d = q1 * v + w := by
    have := Nat.div_add_mod' (u * 4294967296 + d) v
    rw [hq1, hw] at this; exact this.symm
  obtain ⟨q0, hq0⟩ : ∃ q0, (w * 4294967296 + d0) / v = q0 := ⟨_, rfl⟩
  obtain ⟨z, hz⟩ : ∃ z, (w * 4294967296 + d0) % v = z := ⟨_, rfl⟩
  have hzv : z < v := by rw [← hz]; exact Nat.mod_lt _ (by omega)
  have hqz : w * 4294967296 + d0 = q0 * v + z := by
    have := Nat.div_add_mod' (w * 4294967296 + d0) v
    rw [hq0, hz] at this; exact this.symm
  have hq1b : q1 < 4294967296 := by rw [← hq1, Nat.div_lt_iff_lt_mul (by omega)]; omega
  have hq0b : q0 < 4294967296 := by rw [← hq0, Nat.div_lt_iff_lt_mul (by omega)]; omega
  have hw64 : w < 18446744073709551616 := by omega
  have hz64 : z < 18446744073709551616 := by omega
  have f6 := g4 u d v q1 w hw64 hqw
  have f7 := g4 w d0 v q0 z hz64 hqz
  have f8 : IntKind.u64.wrap ((w : Int).tdiv (v1 : Int)) = ((w / v1 : Nat) : Int) := by rw [tdiv_nat, g1 _ _ hw64]
  have hfin : hi * 18446744073709551616 + lo = (q1 * 4294967296 + q0) * y + z / P ∧ z / P < y := by
    have h1 : (hi * 18446744073709551616 + lo) * P = (q1 * 4294967296 + q0) * v + z := by
      have ht2 : t = d * 4294967296 + d0 := by omega
      have h2 : (q1 * 4294967296 + q0) * v = q1 * v * 4294967296 + q0 * v := by rw [Nat.add_mul, Nat.mul_right_comm]
      rw [hN, h2]; exact kn_join hqw hqz ht2
    have h3 : (hi * 18446744073709551616 + lo) * P = (q1 * 4294967296 + q0) * y * P + z := by rw [h1, ← hv, Nat.mul_assoc]
    have h4 : z = ((hi * 18446744073709551616 + lo) - (q1 * 4294967296 + q0) * y) * P := by rw [Nat.sub_mul]; omega
    have h5 : z / P = (hi * 18446744073709551616 + lo) - (q1 * 4294967296 + q0) * y := by rw [h4, Nat.mul_div_cancel _ hP0]
    have h6 : (q1 * 4294967296 + q0) * y ≤ hi * 18446744073709551616 + lo := Nat.le_of_mul_le_mul_right (by omega) hP0
    refine ⟨by rw [h5]; exact (Nat.add_sub_cancel' h6).symm, ?_⟩
    rw [Nat.div_lt_iff_lt_mul hP0, hv]; exact hzv
  have hqq : (hi * 18446744073709551616 + lo) / y = q1 * 4294967296 + q0 := by
    rw [hfin.1, Nat.mul_comm _ y, Nat.mul_add_div (by omega), Nat.div_eq_of_lt hfin.2, Nat.add_zero]
  have hrr : (hi * 18446744073709551616 + lo) % y = z / P := by
    rw [hfin.1, Nat.mul_comm _ y, Nat.mul_add_mod, Nat.mod_eq_of_lt hfin.2]
  repeat' first
      | (first
          | refine TR.p hP (by first | exact lz) (by repeat' first | exact trivial | (intro _; assumption) | apply And.intro) ?_
          | refine TR.gp hP rfl (fun _ => by first | exact lz) (fun _ => by repeat' first | exact trivial | (intro _; assumption) | apply And.intro) ?_
          | refine TR.pv hP rfl (by first | exact lz) trivial (by repeat' first | exact trivial | (intro _; assumption) | apply And.intro) ?_
         try simp only [p32, e1, e2, e3, e4, e5, e6, e7, e8, e9, f1, f2, f3, f4, f5, g2 u v1 hu64, g3 u v1 hu64, vcb, ↓evSo_some, ↓reduceIte, reduceCtorEq, seval])
      | refine And.intro (fun h => ?_) (fun h => ?_)
      | refine And.intro (by first | omega | (simp only [maxLen, decide_eq_true_eq, decide_eq_false_iff_not] at *; omega)) ?_
      | (refine TR.aslO rfl rfl rfl rfl trivial (Nat.le_of_ble_eq_true rfl) ?_
         try simp only [p32, e1, e2, e3, e4, e5, e6, e7, e8, e9, f1, f2, f3, f4, f5, g2 u v1 hu64, g3 u v1 hu64, vcb, ↓evSo_some, ↓reduceIte, reduceCtorEq, seval])
      | refine And.intro trivial ?_
      | refine And.intro rfl ?_
      | fail
  refine vcC.loopX (X := Nat × Nat) (Y := Unit) (fun x => ⟨[(2, .d (.int .u64 v)), (8, .d (.int .u64 sh)), (9, .d (.int .u64 v1)), (10, .d (.int .u64 v0)), (11, .d (.int .u64 u)), (13, .d (.int .u64 d)), (14, .d (.int .u64 d0)), (15, .d (.int .u64 x.1)), (16, .d (.int .u64 x.2))], [], []⟩)
    (fun x => KnI u d v v1 v0 x.1 x.2) (fun x => x.1) (u / v1, u % v1)
    (fun _ => ⟨[(2, .d (.int .u64 v)), (8, .d (.int .u64 sh)), (9, .d (.int .u64 v1)), (10, .d (.int .u64 v0)), (11, .d (.int .u64 u)), (13, .d (.int .u64 d)), (14, .d (.int .u64 d0)), (15, .d (.int .u64 q1))], [], []⟩) (fun _ => True)
    ⟨kn_lo hv1 (by omega) hd, kn_start hv1 hv1b hv0 huv, (Nat.div_add_mod' u v1).symm, by have := Nat.mod_lt u (show 0 < v1 by omega); omega⟩ (Wk.of [] hfn rfl (by simp only [enb, vcb, ↓evSo_some, ↓reduceIte, reduceCtorEq, seval]) (by simp only [enb, vcb, ↓evSo_some, ↓reduceIte, reduceCtorEq, seval])) ?_ ?_
  · rintro ⟨q, r⟩ hk
    simp only at hk
    have hc := kn_cond (q := q) hd hv0 hk.r
    simp only [vcb, ↓evSo_some, ↓reduceIte, reduceCtorEq, seval]
    refine ⟨fun h4 => ?_, fun h4 => ?_⟩
    · have h5 := hdiv q r hk (hc.1 h4)
      have k1 := hk.e
      have k2 := hk.r
      have k3 := hk.hi
      have c1 : IntKind.u64.wrap ((q : Int) - 1) = ((q - 1 : Nat) : Int) := (wU (by omega)).trans (by omega)
      have c2 : IntKind.u64.wrap ((r : Int) + (v1 : Int)) = ((r + v1 : Nat) : Int) := (wU (by omega)).trans (by omega)
      have c3 : u = (q - 1) * v1 + (r + v1) := by
        have : q * v1 = (q - 1) * v1 + v1 := by
          rw [← Nat.succ_mul]; congr 1; omega
        omega
      simp only [c1, c2]
      refine ⟨fun h6 => ?_, fun h6 => ?_⟩
      · have h7 : 4294967296 ≤ r + v1 := by have := of_decide_eq_true h6; omega
        have h8 := kn_brk (d := d) hv1 hv0 (by omega) c3 (by omega) h7
        refine ⟨(), Wk.of [] hfn rfl (by simp only [enb, vcb, ↓evSo_some, ↓reduceIte, reduceCtorEq, seval]; omega) (by simp only [enb, vcb, ↓evSo_some, ↓reduceIte, reduceCtorEq, seval])⟩
      · have h7 : r + v1 < 4294967296 := by have := of_decide_eq_false h6; omega
        exact lopX.on (q - 1, r + v1) ⟨by simp only; omega, by simp only; omega, c3, h7⟩ (by simp only; omega) (Wk.of [] hfn rfl (by simp only [enb, vcb, ↓evSo_some, ↓reduceIte, reduceCtorEq, seval]) (by simp only [enb, vcb, ↓evSo_some, ↓reduceIte, reduceCtorEq, seval]))
    · have h5 : ¬ (4294967296 ≤ q ∨ 4294967296 * r + d < q * v0) := fun e => by rw [hc.2 e] at h4; cases h4
      have h8 := kn_le (d := d) hv1 (by omega) hk.e (by omega)
      have h9 := hk.lo
      exact ⟨(), Wk.of [] hfn rfl (by simp only [enb, vcb, ↓evSo_some, ↓reduceIte, reduceCtorEq, seval]; omega) (by simp only [enb, vcb, ↓evSo_some, ↓reduceIte, reduceCtorEq, seval])⟩
  · rintro - -
    simp only [f6, f8, g2 w v1 hw64, g3 w v1 hw64, vcb, ↓evSo_some, ↓reduceIte, reduceCtorEq, seval]
    refine ⟨by omega, ?_⟩
    have hdiv2 : ∀ q r, KnI w d0 v v1 v0 q r → (4294967296 ≤ q ∨ 4294967296 * r + d0 < q * v0) → (w * 4294967296 + d0) / v + 1 ≤ q := fun q r h hc => kn_dec hv1 hwv hd0 h.e hc
    refine vcC.loopX (X := Nat × Nat) (Y := Unit) (fun x => ⟨[(2, .d (.int .u64 v)), (8, .d (.int .u64 sh)), (9, .d (.int .u64 v1)), (10, .d (.int .u64 v0)), (14, .d (.int .u64 d0)), (15, .d (.int .u64 q1)), (17, .d (.int .u64 w)), (18, .d (.int .u64 x.1)), (16, .d (.int .u64 x.2))], [], []⟩)
      (fun x => KnI w d0 v v1 v0 x.1 x.2) (fun x => x.1) (w / v1, w % v1)
      (fun _ => ⟨[(2, .d (.int .u64 v)), (8, .d (.int .u64 sh)), (14, .d (.int .u64 d0)), (15, .d (.int .u64 q1)), (17, .d (.int .u64 w)), (18, .d (.int .u64 q0))], [], []⟩) (fun _ => True)
      ⟨kn_lo hv1 (by omega) hd0, kn_start hv1 hv1b hv0 hwv, (Nat.div_add_mod' w v1).symm, by have := Nat.mod_lt w (show 0 < v1 by omega); omega⟩ (Wk.of [] hfn rfl (by simp only [enb, vcb, ↓evSo_some, ↓reduceIte, reduceCtorEq, seval]) (by simp only [enb, vcb, ↓evSo_some, ↓reduceIte, reduceCtorEq, seval])) ?_ ?_
    · rintro ⟨q, r⟩ hk
      simp only at hk
      have hc := kn_cond (q := q) hd0 hv0 hk.r
      simp only [vcb, ↓evSo_some, ↓reduceIte, reduceCtorEq, seval]
      refine ⟨fun h4 => ?_, fun h4 => ?_⟩
      · have h5 := hdiv2 q r hk (hc.1 h4)
        have k1 := hk.e
        have k2 := hk.r
        have k3 := hk.hi
        have c1 : IntKind.u64.wrap ((q : Int) - 1) = ((q - 1 : Nat) : Int) := (wU (by omega)).trans (by omega)
        have c2 : IntKind.u64.wrap ((r : Int) + (v1 : Int)) = ((r + v1 : Nat) : Int) := (wU (by omega)).trans (by omega)
        have c3 : w = (q - 1) * v1 + (r + v1) := by
          have : q * v1 = (q - 1) * v1 + v1 := by
            rw [← Nat.succ_mul]; congr 1; omega
          omega
        simp only [c1, c2]
        refine ⟨fun h6 => ?_, fun h6 => ?_⟩
        · have h7 : 4294967296 ≤ r + v1 := by have := of_decide_eq_true h6; omega
          have h8 := kn_brk (d := d0) hv1 hv0 (by omega) c3 (by omega) h7
          refine ⟨(), Wk.of [] hfn rfl (by simp only [enb, vcb, ↓evSo_some, ↓reduceIte, reduceCtorEq, seval]; omega) (by simp only [enb, vcb, ↓evSo_some, ↓reduceIte, reduceCtorEq, seval])⟩
        · have h7 : r + v1 < 4294967296 := by have := of_decide_eq_false h6; omega
          exact lopX.on (q - 1, r + v1) ⟨by simp only; omega, by simp only; omega, c3, h7⟩ (by simp only; omega) (Wk.of [] hfn rfl (by simp only [enb, vcb, ↓evSo_some, ↓reduceIte, reduceCtorEq, seval]) (by simp only [enb, vcb, ↓evSo_some, ↓reduceIte, reduceCtorEq, seval]))
      · have h5 : ¬ (4294967296 ≤ q ∨ 4294967296 * r + d0 < q * v0) := fun e => by rw [hc.2 e] at h4; cases h4
        have h8 := kn_le (d := d0) hv1 (by omega) hk.e (by omega)
        have h9 := hk.lo
        exact ⟨(), Wk.of [] hfn rfl (by simp only [enb, vcb, ↓evSo_some, ↓reduceIte, reduceCtorEq, seval]; omega) (by simp only [enb, vcb, ↓evSo_some, ↓reduceIte, reduceCtorEq, seval])⟩
    · rintro - -
      have f9 : (z : Int).fdiv (P : Int) = ((z / P : Nat) : Int) := fdiv_nat z P
      have f10 : IntKind.u64.wrap (IntKind.u64.wrap ((q1 : Int) * 4294967296) + (q0 : Int)) = ((q1 * 4294967296 + q0 : Nat) : Int) := by
        rw [wU (a := (q1 : Int) * 4294967296) (by omega), wU (by omega)]; omega
      simp only [f7, f9, f10, e2, vcb, ↓evSo_some, ↓reduceIte, reduceCtorEq, seval]
      repeat' first
          | refine And.intro (fun h => ?_) (fun h => ?_)
          | refine And.intro (by first | omega | (simp only [maxLen, decide_eq_true_eq, decide_eq_false_iff_not] at *; omega)) ?_
          | (refine TR.aslO rfl rfl rfl rfl trivial (Nat.le_of_ble_eq_true rfl) ?_
             try simp only [vcb, ↓evSo_some, ↓reduceIte, reduceCtorEq, seval])
          | refine And.intro trivial ?_
          | refine And.intro rfl ?_
          | fail
      exact RetK.pure (by simp only [rs71, rsb, vcb, ↓evSo_some, ↓reduceIte, reduceCtorEq, seval]) (by (simp only [rs71, rsb, vcb, ↓evSo_some, ↓reduceIte, reduceCtorEq, seval, enb, vcb, ↓evSo_some, ↓reduceIte, reduceCtorEq, seval]) <;> (first | (rw [hqq, hrr]; exact VLe.refl _)))
def ofR (up : Nat → Nat → Nat → Bool) (a b c : Int) : Int × Int :=
  if a < 0 ∨ b < 0 ∨ c < 0 then (0, 1)
  else if c = 0 then (0, 6)
  else if 4000000000000000000 < a.toNat * b.toNat / c.toNat then (0, 5)
  else if 4000000000000000000 < a.toNat * b.toNat / c.toNat + (if up (a.toNat * b.toNat / c.toNat) (a.toNat * b.toNat % c.toNat) c.toNat = true then 1 else 0) then (0, 5)
  else (((a.toNat * b.toNat / c.toNat + (if up (a.toNat * b.toNat / c.toNat) (a.toNat * b.toNat % c.toNat) c.toNat = true then 1 else 0) : Nat) : Int), 0)
theorem sOf (g : Nat) (up : Nat → Nat → Nat → Bool) (hg : ∀ q r c : Nat, r < c → c < 9223372036854775808 → Ctr Try.prog g [.d (.int .u64 q), .d (.int .u64 r), .d (.int .u64 c)] [] (.d (.bool (up q r c))) [] [])
    (a b k : Int) (ha : a ≤ 9223372036854775807) (hb : b ≤ 9223372036854775807) (hc : k ≤ 9223372036854775807) :
    Ctr Try.prog 65 [.ag [.fn (.func g) [] []], .d (.int .i64 a), .d (.int .i64 b), .d (.int .i64 k)] [] (.tup [.d (.int .i64 (ofR up a b k).1), .d (.int .i64 (ofR up a b k).2)]) [] [] := by
  refine ctr_pure Try.func65 ok65 rfl cc65 cr65 Try.ntmps65 (by simp) rfl rfl ?_; intro c hP hfn; simp only [kc65, vcb, ↓evSo_some, ↓reduceIte, reduceCtorEq, seval]
  refine ⟨fun h1 => ?_, fun h1 => ?_⟩
  · have e : ofR up a b k = (0, 1) := by
      simp only [Bool.or_eq_true, decide_eq_true_eq] at h1
      rw [ofR, if_pos (by omega)]
    (refine RetK.pure (by simp only [rs65, rsb, vcb, ↓evSo_some, ↓reduceIte, reduceCtorEq, seval]) (VLe.tups ?_); simp only [rs65, rsb, vcb, ↓evSo_some, ↓reduceIte, reduceCtorEq, seval])
    rw [e]; exact ⟨VLe.refl _, VLe.refl _, trivial⟩
  have h1 : ¬ (a < 0 ∨ b < 0 ∨ k < 0) := by
    simp only [Bool.or_eq_false_iff, decide_eq_false_iff_not] at h1; omega
  refine ⟨fun h2 => ?_, fun h2 => ?_⟩
  · have h2 : k = 0 := by simpa using h2
    have e : ofR up a b k = (0, 6) := by rw [ofR, if_neg h1, if_pos h2]
    (refine RetK.pure (by simp only [rs65, rsb, vcb, ↓evSo_some, ↓reduceIte, reduceCtorEq, seval]) (VLe.tups ?_); simp only [rs65, rsb, vcb, ↓evSo_some, ↓reduceIte, reduceCtorEq, seval])
    rw [e]; exact ⟨VLe.refl _, VLe.refl _, trivial⟩
  have h2 : ¬ k = 0 := by simpa using h2
  obtain ⟨A, rfl⟩ : ∃ A : Nat, a = (A : Int) := ⟨a.toNat, by omega⟩
  obtain ⟨B, rfl⟩ : ∃ B : Nat, b = (B : Int) := ⟨b.toNat, by omega⟩
  obtain ⟨C, rfl⟩ : ∃ C : Nat, k = (C : Int) := ⟨k.toNat, by omega⟩
  have e1 : IntKind.u64.wrap (A : Int) = (A : Int) := wU (by omega)
  have e2 : IntKind.u64.wrap (B : Int) = (B : Int) := wU (by omega)
  have e3 : IntKind.u64.wrap (C : Int) = (C : Int) := wU (by omega)
  have hR : ofR up (A : Int) (B : Int) (C : Int) = (if 4000000000000000000 < A * B / C then (0, 5) else
      if 4000000000000000000 < A * B / C + (if up (A * B / C) (A * B % C) C = true then 1 else 0) then (0, 5)
      else (((A * B / C + (if up (A * B / C) (A * B % C) C = true then 1 else 0) : Nat) : Int), 0)) := by
    rw [ofR, if_neg h1, if_neg h2]; rfl
  have hm := Nat.div_add_mod (A * B) 18446744073709551616
  have hml : A * B % 18446744073709551616 < 18446744073709551616 := Nat.mod_lt _ (by omega)
  have hC0 : 0 < C := by omega
  simp only [e1, e2, e3]
  repeat' first
      | (first
          | refine TR.p hP (by first | exact sMul64 A B (by omega) (by omega)) (by repeat' first | exact trivial | (intro _; assumption) | apply And.intro) ?_
          | refine TR.gp hP rfl (fun _ => by first | exact sMul64 A B (by omega) (by omega)) (fun _ => by repeat' first | exact trivial | (intro _; assumption) | apply And.intro) ?_
          | refine TR.pv hP rfl (by first | exact sMul64 A B (by omega) (by omega)) trivial (by repeat' first | exact trivial | (intro _; assumption) | apply And.intro) ?_
         try simp only [e1, e2, e3, vcb, ↓evSo_some, ↓reduceIte, reduceCtorEq, seval])
      | refine And.intro (fun h => ?_) (fun h => ?_)
      | refine And.intro (by first | omega | (simp only [maxLen, decide_eq_true_eq, decide_eq_false_iff_not] at *; omega)) ?_
      | (refine TR.aslO rfl rfl rfl rfl trivial (Nat.le_of_ble_eq_true rfl) ?_
         try simp only [e1, e2, e3, vcb, ↓evSo_some, ↓reduceIte, reduceCtorEq, seval])
      | refine And.intro trivial ?_
      | refine And.intro rfl ?_
      | fail
  · have h3 : 4000000000000000000 < A * B / C := by
      have h := of_decide_eq_true h
      have h4 : C ≤ A * B / 18446744073709551616 := by omega
      have h5 : C * 18446744073709551616 ≤ A * B := by
        have := (Nat.le_div_iff_mul_le (by omega)).1 h4; exact this
      have h6 : 18446744073709551616 ≤ A * B / C := (Nat.le_div_iff_mul_le hC0).2 (by omega)
      omega
    (refine RetK.pure (by simp only [rs65, rsb, vcb, ↓evSo_some, ↓reduceIte, reduceCtorEq, seval]) (VLe.tups ?_); simp only [rs65, rsb, vcb, ↓evSo_some, ↓reduceIte, reduceCtorEq, seval])
    rw [hR, if_pos h3]; exact ⟨VLe.refl _, VLe.refl _, trivial⟩
  have hh : A * B / 18446744073709551616 < C := by have := of_decide_eq_false h; omega
  have hd := sDiv64 (A * B / 18446744073709551616) (A * B % 18446744073709551616) C hh hml (by omega)
  rw [show A * B / 18446744073709551616 * 18446744073709551616 + A * B % 18446744073709551616 = A * B by omega] at hd
  have hrC : A * B % C < C := Nat.mod_lt _ hC0
  generalize A * B / C = q at *
  generalize A * B % C = r at *
  repeat' first
      | (first
          | refine TR.p hP (by first | exact hd | exact hg q r C hrC (by omega)) (by repeat' first | exact trivial | (intro _; assumption) | apply And.intro) ?_
          | refine TR.gp hP rfl (fun _ => by first | exact hd | exact hg q r C hrC (by omega)) (fun _ => by repeat' first | exact trivial | (intro _; assumption) | apply And.intro) ?_
          | refine TR.pv hP rfl (by first | exact hd | exact hg q r C hrC (by omega)) trivial (by repeat' first | exact trivial | (intro _; assumption) | apply And.intro) ?_
         try simp only [e1, e2, e3, vcb, ↓evSo_some, ↓reduceIte, reduceCtorEq, seval])
      | refine And.intro (fun h => ?_) (fun h => ?_)
      | refine And.intro (by first | omega | (simp only [maxLen, decide_eq_true_eq, decide_eq_false_iff_not] at *; omega)) ?_
      | (refine TR.aslO rfl rfl rfl rfl trivial (Nat.le_of_ble_eq_true rfl) ?_
         try simp only [e1, e2, e3, vcb, ↓evSo_some, ↓reduceIte, reduceCtorEq, seval])
      | refine And.intro trivial ?_
      | refine And.intro rfl ?_
      | fail
  · have h4 : 4000000000000000000 < q := by have := of_decide_eq_true h; omega
    (refine RetK.pure (by simp only [rs65, rsb, vcb, ↓evSo_some, ↓reduceIte, reduceCtorEq, seval]) (VLe.tups ?_); simp only [rs65, rsb, vcb, ↓evSo_some, ↓reduceIte, reduceCtorEq, seval])
    rw [hR, if_pos h4]; exact ⟨VLe.refl _, VLe.refl _, trivial⟩
  · rename_i h5 h6
    have h4 : ¬ 4000000000000000000 < q := by have := of_decide_eq_false h5; omega
    have e4 : IntKind.u64.wrap ((q : Int) + 1) = ((q + 1 : Nat) : Int) := (wU (by omega)).trans (by omega)
    rw [e4] at h
    have h7 : 4000000000000000000 < q + 1 := by have := of_decide_eq_true h; omega
    (refine RetK.pure (by simp only [rs65, rsb, vcb, ↓evSo_some, ↓reduceIte, reduceCtorEq, seval]) (VLe.tups ?_); simp only [rs65, rsb, vcb, ↓evSo_some, ↓reduceIte, reduceCtorEq, seval])
    rw [hR, if_neg h4, if_pos h6, if_pos h7]; exact ⟨VLe.refl _, VLe.refl _, trivial⟩
  · rename_i h5 h6
    have h4 : ¬ 4000000000000000000 < q := by have := of_decide_eq_false h5; omega
    have e4 : IntKind.u64.wrap ((q : Int) + 1) = ((q + 1 : Nat) : Int) := (wU (by omega)).trans (by omega)
    rw [e4] at h
    have h7 : ¬ 4000000000000000000 < q + 1 := by have := of_decide_eq_false h; omega
    (refine RetK.pure (by simp only [rs65, rsb, vcb, ↓evSo_some, ↓reduceIte, reduceCtorEq, seval]) (VLe.tups ?_); simp only [rs65, rsb, vcb, ↓evSo_some, ↓reduceIte, reduceCtorEq, seval])
    rw [hR, if_neg h4, if_pos h6, if_neg h7, e4, wI (a := ((q + 1 : Nat) : Int)) (by omega)]; exact ⟨VLe.refl _, VLe.refl _, trivial⟩
  · rename_i h5 h6
    exfalso; rw [h5] at h; cases h
  · rename_i h5 h6
    have h4 : ¬ 4000000000000000000 < q := by have := of_decide_eq_false h5; omega
    have h8 : ¬ (up q r C = true) := by rw [h6]; simp
    (refine RetK.pure (by simp only [rs65, rsb, vcb, ↓evSo_some, ↓reduceIte, reduceCtorEq, seval]) (VLe.tups ?_); simp only [rs65, rsb, vcb, ↓evSo_some, ↓reduceIte, reduceCtorEq, seval])
    rw [hR, if_neg h4, if_neg h8, Nat.add_zero, if_neg h4, wI (a := (q : Int)) (by omega)]; exact ⟨VLe.refl _, VLe.refl _, trivial⟩
end Go.Proofs.Ytkifajabiggfmaa
end
section
set_option linter.unusedSimpArgs false
set_option linter.unusedVariables false
namespace Go.Proofs.Ytkifajabiggfmaa
set_option linter.unusedSimpArgs false
set_option linter.unusedVariables false
open Go.Bx
set_option maxRecDepth 10000
def upD (_ _ _ : Nat) : Bool := false
theorem sDown1 (q r c : Nat) (_ : r < c) (_ : c < 9223372036854775808) : Ctr Try.prog 69 [.d (.int .u64 q), .d (.int .u64 r), .d (.int .u64 c)] [] (.d (.bool (upD q r c))) [] [] := by
  refine ctr_pure Try.func69 ok69 rfl cc69 cr69 Try.ntmps69 (by simp) rfl rfl ?_; intro c hP hfn; simp only [kc69, vcb, ↓evSo_some, ↓reduceIte, reduceCtorEq, seval]
  exact RetK.pure (by simp only [rs69, rsb, vcb, ↓evSo_some, ↓reduceIte, reduceCtorEq, seval]) (by simp only [rs69, rsb, vcb, ↓evSo_some, ↓reduceIte, reduceCtorEq, seval, enb, vcb, ↓evSo_some, ↓reduceIte, reduceCtorEq, seval, upD])
theorem sDown0 : Ctr Try.prog 64 [] [] (.ag [.fn (.func 69) [] []]) [] [] := by
  refine ctr_pure Try.func64 ok64 rfl cc64 cr64 Try.ntmps64 (by simp) rfl rfl ?_; intro c hP hfn; simp only [kc64, vcb, ↓evSo_some, ↓reduceIte, reduceCtorEq, seval]
  exact RetK.pure (by simp only [rs64, rsb, vcb, ↓evSo_some, ↓reduceIte, reduceCtorEq, seval]) (by simp only [rs64, rsb, vcb, ↓evSo_some, ↓reduceIte, reduceCtorEq, seval, enb, vcb, ↓evSo_some, ↓reduceIte, reduceCtorEq, seval])
def downR (a b k : Int) : Int × Int := ofR upD a b k
theorem sDown (a b k : Int) (ha : a ≤ 9223372036854775807) (hb : b ≤ 9223372036854775807) (hc : k ≤ 9223372036854775807) :
    Ctr Try.prog 54 [.d (.int .i64 a), .d (.int .i64 b), .d (.int .i64 k)] [] (.tup [.d (.int .i64 (downR a b k).1), .d (.int .i64 (downR a b k).2)]) [] [] := by
  refine ctr_pure Try.func54 ok54 rfl cc54 cr54 Try.ntmps54 (by simp) rfl rfl ?_; intro c hP hfn; simp only [kc54, vcb, ↓evSo_some, ↓reduceIte, reduceCtorEq, seval]
  repeat' first
      | (first
          | refine TR.p hP (by first | exact sDown0 | exact sOf 69 upD sDown1 a b k ha hb hc) (by repeat' first | exact trivial | (intro _; assumption) | apply And.intro) ?_
          | refine TR.gp hP rfl (fun _ => by first | exact sDown0 | exact sOf 69 upD sDown1 a b k ha hb hc) (fun _ => by repeat' first | exact trivial | (intro _; assumption) | apply And.intro) ?_
          | refine TR.pv hP rfl (by first | exact sDown0 | exact sOf 69 upD sDown1 a b k ha hb hc) trivial (by repeat' first | exact trivial | (intro _; assumption) | apply And.intro) ?_
         try simp only [vcb, ↓evSo_some, ↓reduceIte, reduceCtorEq, seval])
      | refine And.intro (fun h => ?_) (fun h => ?_)
      | refine And.intro (by first | omega | (simp only [maxLen, decide_eq_true_eq, decide_eq_false_iff_not] at *; omega)) ?_
      | (refine TR.aslO rfl rfl rfl rfl trivial (Nat.le_of_ble_eq_true rfl) ?_
         try simp only [vcb, ↓evSo_some, ↓reduceIte, reduceCtorEq, seval])
      | refine And.intro trivial ?_
      | refine And.intro rfl ?_
      | fail
  (refine RetK.pure (by simp only [rs54, rsb, vcb, ↓evSo_some, ↓reduceIte, reduceCtorEq, seval]) (VLe.tups ?_); simp only [rs54, rsb, vcb, ↓evSo_some, ↓reduceIte, reduceCtorEq, seval])
  exact ⟨VLe.refl _, VLe.refl _, trivial⟩
def psums : Int → List Int → List Int
  | _, [] => []
  | n, p :: r => (n + p) :: psums (n + p) r
def deal2 (m S : Int) : Int → List Int → List Int
  | _, [] => []
  | d, s :: r => IntKind.i64.wrap ((downR m s S).1 - d) :: deal2 m S (downR m s S).1 r
def splitR (m : Int) (parts : List Int) : List Int × Int :=
  if m < 0 ∨ 2000 < parts.length then ([], 1)
  else if parts.any (fun p => decide (p < 0)) = true then ([], 1)
  else if 4000000000000000000 < parts.sum ∨ 4000000000000000000 < m then ([], 5)
  else if parts.sum = 0 then ([], 6)
  else (deal2 m parts.sum 0 (psums 0 parts), 0)
theorem psums_len : ∀ (l : List Int) (n : Int), (psums n l).length = l.length
  | [], _ => rfl
  | p :: r, n => by simp [psums, psums_len r]
theorem psums_snoc : ∀ (l : List Int) (n x : Int), psums n (l ++ [x]) = psums n l ++ [n + l.sum + x]
  | [], n, x => by simp [psums]
  | p :: r, n, x => by simp [psums, psums_snoc r]; omega
theorem psums_last {l : List Int} {n : Int} (h : 0 < l.length) : (psums n l).getD (l.length - 1) 0 = n + l.sum := by
  obtain ⟨r, x, rfl⟩ : ∃ r x, l = r ++ [x] := by
    cases l with
    | nil => simp at h
    | cons p r => exact ⟨(p :: r).dropLast, (p :: r).getLast (by simp), (List.dropLast_concat_getLast (by simp)).symm⟩
  rw [psums_snoc]
  simp [psums_len]
  omega
def runR (s p : Int) : (Int × Int) × Int :=
  if p < 0 then ((0, 1), s)
  else if IntKind.i64.wrap (s + p) > 4000000000000000000 ∨ IntKind.i64.wrap (s + p) < 0 then ((0, 5), 4000000000000000001)
  else ((IntKind.i64.wrap (s + p), 0), IntKind.i64.wrap (s + p))
theorem sRun1 (s p : Int) : Ctr Try.prog 63 [.d (.int .i64 p), .own 1 0] [(1, .fix [.d (.int .i64 s)])] (.tup [.d (.int .i64 (runR s p).1.1), .d (.int .i64 (runR s p).1.2)]) [(1, .fix [.d (.int .i64 (runR s p).2)])] [] := by
  refine ctr_own Try.func63 ok63 rfl cc63 cr63 Try.ntmps63 (by simp) rfl ?_
  intro c hP hfn
  simp only [kc63, namesL, V.names, ownNames, vcb, ↓evSo_some, ↓reduceIte, reduceCtorEq, seval]
  refine ⟨fun h => ?_, fun h => ⟨fun h2 => ?_, fun h2 => ?_⟩⟩
  · have e : runR s p = ((0, 1), s) := by rw [runR, if_pos (of_decide_eq_true h)]
    rw [e]
    exact RetK.mk _ (Wk.refl _ _) (by simp only [rs63, rsb, vcb, ↓evSo_some, ↓reduceIte, reduceCtorEq, seval]) (by simp only [rs63, rsb, vcb, ↓evSo_some, ↓reduceIte, reduceCtorEq, seval, enb, vcb, ↓evSo_some, ↓reduceIte, reduceCtorEq, seval]) (by simp only [enb, vcb, ↓evSo_some, ↓reduceIte, reduceCtorEq, seval])
  · have h2' : IntKind.i64.wrap (s + p) > 4000000000000000000 ∨ IntKind.i64.wrap (s + p) < 0 := by simpa using h2
    have e : runR s p = ((0, 5), 4000000000000000001) := by rw [runR, if_neg (of_decide_eq_false h), if_pos h2']
    rw [e]
    exact RetK.mk _ (Wk.refl _ _) (by simp only [rs63, rsb, vcb, ↓evSo_some, ↓reduceIte, reduceCtorEq, seval]) (by simp only [rs63, rsb, vcb, ↓evSo_some, ↓reduceIte, reduceCtorEq, seval, enb, vcb, ↓evSo_some, ↓reduceIte, reduceCtorEq, seval]) (by simp only [enb, vcb, ↓evSo_some, ↓reduceIte, reduceCtorEq, seval])
  · have h2' : ¬ (IntKind.i64.wrap (s + p) > 4000000000000000000 ∨ IntKind.i64.wrap (s + p) < 0) := by simpa using h2
    have e : runR s p = ((IntKind.i64.wrap (s + p), 0), IntKind.i64.wrap (s + p)) := by rw [runR, if_neg (of_decide_eq_false h), if_neg h2']
    rw [e]
    exact RetK.mk _ (Wk.refl _ _) (by simp only [rs63, rsb, vcb, ↓evSo_some, ↓reduceIte, reduceCtorEq, seval]) (by simp only [rs63, rsb, vcb, ↓evSo_some, ↓reduceIte, reduceCtorEq, seval, enb, vcb, ↓evSo_some, ↓reduceIte, reduceCtorEq, seval]) (by simp only [enb, vcb, ↓evSo_some, ↓reduceIte, reduceCtorEq, seval])
theorem sRun : Ctr Try.prog 53 [] [] (.fn (.func 63) [] [.own 1 0]) [(1, .fix [.d (.int .i64 0)])] [1] := by
  refine ctr_own Try.func53 ok53 rfl cc53 cr53 Try.ntmps53 (by simp) rfl ?_
  intro c hP hfn
  simp only [kc53, namesL, V.names, ownNames, vcb, ↓evSo_some, ↓reduceIte, reduceCtorEq, seval]
  exact RetK.mk _ (Wk.refl _ _) (by simp only [rs53, rsb, vcb, ↓evSo_some, ↓reduceIte, reduceCtorEq, seval]) (by simp only [rs53, rsb, vcb, ↓evSo_some, ↓reduceIte, reduceCtorEq, seval, enb, vcb, ↓evSo_some, ↓reduceIte, reduceCtorEq, seval]) (by simp only [enb, vcb, ↓evSo_some, ↓reduceIte, reduceCtorEq, seval])
structure SpI (m : Int) (l : List Int) (k : Nat) (dn : List Int) (s : Int) (over : Bool) : Prop where
  len : dn.length = k
  le : k ≤ l.length
  nn : ∀ x, x ∈ l.take k → 0 ≤ x
  st : ((l.take k).sum ≤ 4000000000000000000 ∧ s = (l.take k).sum ∧ dn = psums 0 (l.take k) ∧ over = decide (m > 4000000000000000000)) ∨ (4000000000000000000 < (l.take k).sum ∧ s = 4000000000000000001 ∧ over = true)
theorem sum_nonneg : ∀ {l : List Int}, (∀ x, x ∈ l → 0 ≤ x) → 0 ≤ l.sum
  | [], _ => by simp
  | p :: r, h => by
    have := h p (by simp)
    have ih := sum_nonneg (l := r) (fun x hx => h x (by simp [hx]))
    simp only [List.sum_cons]; omega
theorem spI_step {m : Int} {l : List Int} {k : Nat} {dn : List Int} {s : Int} {over : Bool} {x : Int} (h : SpI m l k dn s over) (hlt : k < l.length) (hat : l[k]? = some x) (hx : x ≤ 9223372036854775807) :
    ((runR s x).1.2 = 1 ∧ x < 0) ∨ (0 ≤ x ∧ (runR s x).1.2 ≠ 1 ∧ SpI m l (k + 1) (dn ++ [(runR s x).1.1]) (runR s x).2 (over || ((runR s x).1.2 == 5))) := by
  have ht : l.take (k + 1) = l.take k ++ [x] := by rw [List.take_add_one, hat]; rfl
  by_cases hneg : x < 0
  · left; rw [runR, if_pos hneg]; exact ⟨rfl, hneg⟩
  right
  have hs0 := sum_nonneg h.nn
  have hnn : ∀ y, y ∈ l.take (k + 1) → 0 ≤ y := by
    intro y hy
    rw [ht] at hy
    rcases List.mem_append.1 hy with hy | hy
    · exact h.nn y hy
    · simp at hy; omega
  have hsum : (l.take (k + 1)).sum = (l.take k).sum + x := by rw [ht]; simp
  rcases h.st with ⟨h1, h2, h3, h4⟩ | ⟨h1, h2, h3⟩
  · by_cases hov : 4000000000000000000 < (l.take k).sum + x
    · have hw : IntKind.i64.wrap (s + x) > 4000000000000000000 ∨ IntKind.i64.wrap (s + x) < 0 := by rw [IntKind.wrap_i64]; omega
      rw [runR, if_neg hneg, if_pos hw]
      exact ⟨by omega, by simp, ⟨by simp [h.len], hlt, hnn, .inr ⟨by omega, rfl, by simp⟩⟩⟩
    · have hw : IntKind.i64.wrap (s + x) = s + x := wI (by omega)
      rw [runR, if_neg hneg, hw, if_neg (by omega)]
      refine ⟨by omega, by simp, ⟨by simp [h.len], hlt, hnn, .inl ⟨by omega, by simp only; omega, ?_, by simp [h4]⟩⟩⟩
      rw [ht, psums_snoc, h3, h2]; simp
  · have hw : IntKind.i64.wrap (s + x) > 4000000000000000000 ∨ IntKind.i64.wrap (s + x) < 0 := by rw [IntKind.wrap_i64]; omega
    rw [runR, if_neg hneg, if_pos hw]
    exact ⟨by omega, by simp, ⟨by simp [h.len], hlt, hnn, .inr ⟨by omega, rfl, by simp⟩⟩⟩
theorem any_neg {l : List Int} {x : Int} (hx : x ∈ l) (h : x < 0) : l.any (fun p => decide (p < 0)) = true := by
  rw [List.any_eq_true]; exact ⟨x, hx, by simpa using h⟩
theorem any_nonneg {l : List Int} (h : ∀ x, x ∈ l → 0 ≤ x) : ¬ (l.any (fun p => decide (p < 0)) = true) := by
  rw [List.any_eq_true]; rintro ⟨x, hx, h2⟩; have := h x hx; simp at h2; omega
theorem psums_le {l : List Int} (h : ∀ x, x ∈ l → 0 ≤ x) : ∀ (n : Int), 0 ≤ n → ∀ s, s ∈ psums n l → 0 ≤ s ∧ s ≤ n + l.sum := by
  induction l with
  | nil => intro n _ s hs; simp [psums] at hs
  | cons p r ih =>
    intro n hn s hs
    have hp := h p (by simp)
    have hr := sum_nonneg (l := r) (fun x hx => h x (by simp [hx]))
    simp only [psums, List.mem_cons] at hs
    simp only [List.sum_cons]
    rcases hs with rfl | hs
    · omega
    · have := ih (fun x hx => h x (by simp [hx])) (n + p) (by omega) s hs
      omega
theorem sSplit (m : Int) (l : List Int) (hm : m ≤ 9223372036854775807) (hl : l.length ≤ 9223372036854775807) (hx : ∀ x, x ∈ l → x ≤ 9223372036854775807) :
    Ctr Try.prog 31 [.d (.int .i64 m), .d (slK .i64 l)] [] (.tup [.d (slK .i64 (splitR m l).1), .d (.int .i64 (splitR m l).2)]) [] [] := by
  refine ctr_pure Try.func31 ok31 rfl cc31 cr31 Try.ntmps31 (by simp) rfl rfl ?_; intro c hP hfn; simp only [kc31, vcb, ↓evSo_some, ↓reduceIte, reduceCtorEq, seval]
  refine ⟨fun h => ?_, fun h => ?_⟩
  · have h' : m < 0 ∨ 2000 < l.length := by simp only [Bool.or_eq_true, decide_eq_true_eq] at h; omega
    (refine RetK.pure (by simp only [rs31, rsb, vcb, ↓evSo_some, ↓reduceIte, reduceCtorEq, seval]) (VLe.tups ?_); simp only [rs31, rsb, vcb, ↓evSo_some, ↓reduceIte, reduceCtorEq, seval])
    rw [splitR, if_pos h']; exact ⟨nilK, VLe.refl _, trivial⟩
  have h0 : ¬ (m < 0 ∨ 2000 < l.length) := by simp only [Bool.or_eq_false_iff, decide_eq_false_iff_not] at h; omega
  clear h
  refine TR.call [] [(1, .fix [.d (.int .i64 0)])] _ [1] (hP ▸ sRun) (by repeat' first | exact trivial | (intro _; assumption) | apply And.intro) (by simp) (by simp [keysO]) (by simp) ?_
  simp only [vcb, ↓evSo_some, ↓reduceIte, reduceCtorEq, seval]
  repeat' first
      | refine And.intro (fun h => ?_) (fun h => ?_)
      | refine And.intro (by first | omega | (simp only [maxLen, decide_eq_true_eq, decide_eq_false_iff_not] at *; omega)) ?_
      | (refine TR.aslO rfl rfl rfl rfl trivial (Nat.le_of_ble_eq_true rfl) ?_
         try simp only [vcb, ↓evSo_some, ↓reduceIte, reduceCtorEq, seval])
      | refine And.intro trivial ?_
      | refine And.intro rfl ?_
      | fail
  refine vcC.loop (X := Nat × List Int × Int × Bool) (fun x => ⟨[(8, .osl 1000), (0, .d (.int .i64 m)), (6, .fn (.func 63) [] [.own 1 0]), (7, .d (.bool x.2.2.2)), (33, .d (slK .i64 l)), (34, .d (.int .i64 l.length)), (35, .d (.int .i64 x.1))],
        [(1000, .row 3 1 x.2.1.length (fun i => [.int .i64 (x.2.1.getD i 0)])), (1, .fix [.d (.int .i64 x.2.2.1)])], [1000, 1]⟩)
      (fun x => SpI m l x.1 x.2.1 x.2.2.1 x.2.2.2) (fun x => l.length - x.1) (0, [], 0, decide (m > 4000000000000000000)) ⟨rfl, Nat.zero_le _, by simp, .inl ⟨by simp, by simp, by simp [psums], rfl⟩⟩
      (Wk.snoc (k := 32) _ hfn rfl rfl rfl rfl (OLe.row rfl (fun i hi => absurd hi (Nat.not_lt_zero i))) (by (simp only [enb, vcb, ↓evSo_some, ↓reduceIte, reduceCtorEq, seval]) <;> (first | exact wS (by omega) | (rw [List.length_append]; exact wS (by omega)) | assumption)) (by simp only [enb, vcb, ↓evSo_some, ↓reduceIte, reduceCtorEq, seval]) (by simp) (by simp only [enb, vcb, ↓evSo_some, ↓reduceIte, reduceCtorEq, seval]) (by simp only [enb, vcb, ↓evSo_some, ↓reduceIte, reduceCtorEq, seval])) ?_
  rintro ⟨k, dn, s, over⟩ hk
  simp only at hk
  simp only [vcb, ↓evSo_some, ↓reduceIte, reduceCtorEq, seval]
  refine ⟨fun h1 => ?_, fun h1 => ?_⟩
  · have hlt : k < l.length := by have := of_decide_eq_true h1; omega
    obtain ⟨x, hd, hg, hmx, hat⟩ := drop_at hlt
    have hst := spI_step hk hlt hat (hx x hmx)
    simp only [hg]
    repeat' first
        | refine And.intro (fun h => ?_) (fun h => ?_)
        | refine And.intro (by first | omega | (simp only [maxLen, decide_eq_true_eq, decide_eq_false_iff_not] at *; omega)) ?_
        | (refine TR.aslO rfl rfl rfl rfl trivial (Nat.le_of_ble_eq_true rfl) ?_
           try simp only [vcb, ↓evSo_some, ↓reduceIte, reduceCtorEq, seval])
        | refine And.intro trivial ?_
        | refine And.intro rfl ?_
        | fail
    refine TR.cv1 hP rfl (sRun1 s x) trivial (by repeat' first | exact trivial | (intro _; assumption) | apply And.intro) (by simp only [vcb, ↓evSo_some, ↓reduceIte, reduceCtorEq, seval]) ?_
    simp only [vcb, ↓evSo_some, ↓reduceIte, reduceCtorEq, seval]
    have hdl := hk.len
    repeat' first
        | refine And.intro (fun h => ?_) (fun h => ?_)
        | refine And.intro (by first | omega | (simp only [maxLen, decide_eq_true_eq, decide_eq_false_iff_not] at *; omega)) ?_
        | (refine TR.aslO rfl rfl rfl rfl trivial (Nat.le_of_ble_eq_true rfl) ?_
           try simp only [vcb, ↓evSo_some, ↓reduceIte, reduceCtorEq, seval])
        | refine And.intro trivial ?_
        | refine And.intro rfl ?_
        | fail
    · have he : (runR s x).1.2 = 1 := eq_of_beq h
      have hneg : x < 0 := by rcases hst with h | h; exact h.2; exact absurd he h.2.1
      (refine RetK.pure (by simp only [rs31, rsb, vcb, ↓evSo_some, ↓reduceIte, reduceCtorEq, seval]) (VLe.tups ?_); simp only [rs31, rsb, vcb, ↓evSo_some, ↓reduceIte, reduceCtorEq, seval])
      rw [splitR, if_neg h0, if_pos (any_neg hmx hneg), he]; exact ⟨nilK, VLe.refl _, trivial⟩
    · have hne : (runR s x).1.2 ≠ 1 := by simpa using h
      have hst2 : SpI m l (k + 1) (dn ++ [(runR s x).1.1]) (runR s x).2 (over || ((runR s x).1.2 == 5)) := by
        rcases hst with h | h
        · exact absurd h.1 hne
        · exact h.2.2
      exact lopK.on (k + 1, dn ++ [(runR s x).1.1], (runR s x).2, (over || ((runR s x).1.2 == 5))) hst2 (by simp only; omega) (Wk.snoc (k := 56) _ hfn rfl rfl rfl rfl (OLe.app1 (cells := fun n => [.int .i64 n]) (fun i hi => by simp only [if_pos hi]) (by simp)) (by (simp only [enb, vcb, ↓evSo_some, ↓reduceIte, reduceCtorEq, seval]) <;> (first | exact wS (by omega) | (rw [List.length_append]; exact wS (by omega)) | assumption)) (by simp only [enb, vcb, ↓evSo_some, ↓reduceIte, reduceCtorEq, seval]) (by simp) (by simp only [enb, vcb, ↓evSo_some, ↓reduceIte, reduceCtorEq, seval]) (by simp only [enb, vcb, ↓evSo_some, ↓reduceIte, reduceCtorEq, seval]))
  have hkl : k = l.length := by have := of_decide_eq_false h1; have := hk.le; omega
  have hnn := hk.nn
  have hst := hk.st
  have hdl := hk.len
  rw [hkl, List.take_length] at hnn hst
  rw [hkl] at hdl
  clear hk h1
  refine ⟨fun h2 => ?_, fun h2 => ?_⟩
  · have h2' : 4000000000000000000 < l.sum ∨ 4000000000000000000 < m := by
      subst h2
      rcases hst with h | h
      · have := of_decide_eq_true h.2.2.2.symm; omega
      · omega
    (refine RetK.pure (by simp only [rs31, rsb, vcb, ↓evSo_some, ↓reduceIte, reduceCtorEq, seval]) (VLe.tups ?_); simp only [rs31, rsb, vcb, ↓evSo_some, ↓reduceIte, reduceCtorEq, seval])
    rw [splitR, if_neg h0, if_neg (any_nonneg hnn), if_pos h2']; exact ⟨nilK, VLe.refl _, trivial⟩
  have hst : l.sum ≤ 4000000000000000000 ∧ dn = psums 0 l ∧ ¬ (m > 4000000000000000000) := by
    subst h2
    rcases hst with h | h
    · exact ⟨h.1, h.2.2.1, of_decide_eq_false h.2.2.2.symm⟩
    · cases h.2.2
  have h2' : ¬ (4000000000000000000 < l.sum ∨ 4000000000000000000 < m) := by omega
  have hS0 := sum_nonneg hnn
  have hbase : splitR m l = if l.sum = 0 then ([], 6) else (deal2 m l.sum 0 (psums 0 l), 0) := by
    rw [splitR, if_neg h0, if_neg (any_nonneg hnn), if_neg h2']
  have hlast : 0 < l.length → dn.getD (dn.length - 1) 0 = l.sum := fun h => by
    rw [hdl, hst.2.1, psums_last h]; omega
  have e1 : 0 < l.length → IntKind.i64.wrap ((dn.length : Int) - 1) = ((dn.length - 1 : Nat) : Int) := fun h => (wI (by omega)).trans (by omega)
  rcases Nat.eq_zero_or_pos l.length with hz | hpos
  · have hd0 : dn.length = 0 := by omega
    refine ⟨fun h => ?_, fun h => ?_, fun h => ?_, fun h => ?_⟩
    · exfalso; simp [hd0] at h
    · exfalso; simp [hd0] at h
    · have hl0 : l = [] := List.eq_nil_of_length_eq_zero hz
      (refine RetK.pure (by simp only [rs31, rsb, vcb, ↓evSo_some, ↓reduceIte, reduceCtorEq, seval]) (VLe.tups ?_); simp only [rs31, rsb, vcb, ↓evSo_some, ↓reduceIte, reduceCtorEq, seval])
      rw [hbase, if_pos (by rw [hl0]; rfl)]; exact ⟨nilK, VLe.refl _, trivial⟩
    · exfalso; simp [hd0] at h
  simp only [e1 hpos, Int.toNat_natCast, hlast hpos]
  refine ⟨fun _ => ⟨by omega, by omega⟩, fun _ => by omega, fun h => ?_, fun h => ?_⟩
  · have h' : l.sum = 0 := by
      simp only [Bool.or_eq_true, beq_iff_eq] at h; omega
    (refine RetK.pure (by simp only [rs31, rsb, vcb, ↓evSo_some, ↓reduceIte, reduceCtorEq, seval]) (VLe.tups ?_); simp only [rs31, rsb, vcb, ↓evSo_some, ↓reduceIte, reduceCtorEq, seval])
    rw [hbase, if_pos h']; exact ⟨nilK, VLe.refl _, trivial⟩
  have hSn : ¬ l.sum = 0 := by
    simp only [Bool.or_eq_false_iff, beq_eq_false_iff_ne, ne_eq] at h; exact h.2
  clear h
  rw [if_neg hSn] at hbase
  repeat' first
      | refine And.intro (fun h => ?_) (fun h => ?_)
      | refine And.intro (by first | omega | (simp only [maxLen, decide_eq_true_eq, decide_eq_false_iff_not] at *; omega)) ?_
      | (refine TR.aslO rfl rfl rfl rfl trivial (Nat.le_of_ble_eq_true rfl) ?_
         try simp only [e1 hpos, Int.toNat_natCast, hlast hpos, vcb, ↓evSo_some, ↓reduceIte, reduceCtorEq, seval])
      | refine And.intro trivial ?_
      | refine And.intro rfl ?_
      | fail
  refine vcC.loop (X := List Int × Int) (fun x => ⟨[(0, .d (.int .i64 m)), (13, .d (.int .i64 l.sum)), (14, .osl 81), (15, .d (.int .i64 x.2)), (82, .osl 1000), (83, .d (.int .i64 dn.length)), (84, .d (.int .i64 x.1.length))],
        [(1000, .row 3 1 dn.length (fun i => [.int .i64 (dn.getD i 0)])), (81, .row 3 1 dn.length (fun i => [.int .i64 (x.1.getD i 0)]))], [1000, 81]⟩)
      (fun x => x.1.length ≤ dn.length ∧ deal2 m l.sum 0 dn = x.1 ++ deal2 m l.sum x.2 (dn.drop x.1.length)) (fun x => dn.length - x.1.length) ([], 0) ⟨Nat.zero_le _, rfl⟩
      (Wk.of _ hfn rfl (by simp only [enb, vcb, ↓evSo_some, ↓reduceIte, reduceCtorEq, seval]) (by simp only [enb, vcb, ↓evSo_some, ↓reduceIte, reduceCtorEq, seval]; exact OLe.row rfl fun i _ => by simp)) ?_
  rintro ⟨out, dealt⟩ ⟨hk, he⟩
  simp only at hk he
  simp only [vcb, ↓evSo_some, ↓reduceIte, reduceCtorEq, seval]
  refine ⟨fun h1 => ?_, fun h1 => ?_⟩
  · have hlt : out.length < dn.length := by have := of_decide_eq_true h1; omega
    obtain ⟨x, hd, hg, hmx, hat⟩ := drop_at hlt
    have hxb := psums_le hnn 0 (by omega) x (by rw [← hst.2.1]; exact hmx)
    rw [hd, deal2] at he
    simp only [hg]
    repeat' first
        | (first
            | refine TR.p hP (by first | exact sDown m x l.sum hm (by omega) (by omega)) (by repeat' first | exact trivial | (intro _; assumption) | apply And.intro) ?_
            | refine TR.gp hP rfl (fun _ => by first | exact sDown m x l.sum hm (by omega) (by omega)) (fun _ => by repeat' first | exact trivial | (intro _; assumption) | apply And.intro) ?_
            | refine TR.pv hP rfl (by first | exact sDown m x l.sum hm (by omega) (by omega)) trivial (by repeat' first | exact trivial | (intro _; assumption) | apply And.intro) ?_
           try simp only [hg, vcb, ↓evSo_some, ↓reduceIte, reduceCtorEq, seval])
        | refine And.intro (fun h => ?_) (fun h => ?_)
        | refine And.intro (by first | omega | (simp only [maxLen, decide_eq_true_eq, decide_eq_false_iff_not] at *; omega)) ?_
        | (refine TR.aslO rfl rfl rfl rfl trivial (Nat.le_of_ble_eq_true rfl) ?_
           try simp only [hg, vcb, ↓evSo_some, ↓reduceIte, reduceCtorEq, seval])
        | refine And.intro trivial ?_
        | refine And.intro rfl ?_
        | fail
    exact lopK.on (out ++ [IntKind.i64.wrap ((downR m x l.sum).1 - dealt)], (downR m x l.sum).1) ⟨by simp; omega, by rw [he]; simp⟩ (by simp; omega) (Wk.of _ hfn rfl (by (simp only [enb, vcb, ↓evSo_some, ↓reduceIte, reduceCtorEq, seval]) <;> (first | exact wS (by omega) | (rw [List.length_append]; exact wS (by omega)) | assumption)) (by simp only [enb, vcb, ↓evSo_some, ↓reduceIte, reduceCtorEq, seval]; exact OLe.snoc))
  · have hkl : out.length = dn.length := by have := of_decide_eq_false h1; omega
    rw [hkl, List.drop_length, deal2, List.append_nil] at he
    repeat' first
        | refine And.intro (fun h => ?_) (fun h => ?_)
        | refine And.intro (by first | omega | (simp only [maxLen, decide_eq_true_eq, decide_eq_false_iff_not] at *; omega)) ?_
        | (refine TR.aslO rfl rfl rfl rfl trivial (Nat.le_of_ble_eq_true rfl) ?_
           try simp only [vcb, ↓evSo_some, ↓reduceIte, reduceCtorEq, seval])
        | refine And.intro trivial ?_
        | refine And.intro rfl ?_
        | fail
    refine RetK.mk _ (Wk.pub 81 rfl) (by simp only [rs31, rsb, vcb, ↓evSo_some, ↓reduceIte, reduceCtorEq, seval]) ?_ trivial
    simp only [rs31, rsb, vcb, ↓evSo_some, ↓reduceIte, reduceCtorEq, seval]
    rw [hbase, ← hst.2.1, he]
    exact VLe.tups ⟨VLe.sl hkl.symm (fun _ => rfl) id fun i hi => rfl, VLe.refl _, trivial⟩
end Go.Proofs.Ytkifajabiggfmaa
end
section
set_option linter.unusedSimpArgs false
set_option linter.unusedVariables false
namespace Go.Proofs.Ytkifajabiggfmaa
set_option linter.unusedSimpArgs false
set_option linter.unusedVariables false
open Go.Bx
set_option maxRecDepth 10000
theorem ofR_nat {up : Nat → Nat → Nat → Bool} (A B K : Nat) (hk : 0 < K) : ofR up (A : Int) (B : Int) (K : Int) = (if 4000000000000000000 < A * B / K then (0, 5) else
      if 4000000000000000000 < A * B / K + (if up (A * B / K) (A * B % K) K = true then 1 else 0) then (0, 5)
      else (((A * B / K + (if up (A * B / K) (A * B % K) K = true then 1 else 0) : Nat) : Int), 0)) := by
  rw [ofR, if_neg (by omega), if_neg (by omega)]; rfl
end Go.Proofs.Ytkifajabiggfmaa
end
section
set_option linter.unusedSimpArgs false
set_option linter.unusedVariables false
namespace Go.Proofs.Ytkifajabiggfmaa
set_option linter.unusedSimpArgs false
set_option linter.unusedVariables false
open Go.Bx
set_option maxRecDepth 10000
theorem sum_take_le {l : List Int} (h : ∀ x, x ∈ l → 0 ≤ x) (k : Nat) : (l.take k).sum ≤ l.sum ∧ 0 ≤ (l.take k).sum := by
  have e : l.sum = (l.take k).sum + (l.drop k).sum := by
    conv => lhs; rw [← List.take_append_drop k l, List.sum_append]
  have h1 := sum_nonneg (l := l.drop k) (fun x hx => h x (List.mem_of_mem_drop hx))
  have h2 := sum_nonneg (l := l.take k) (fun x hx => h x (List.mem_of_mem_take hx))
  omega
theorem deal2_len (m S : Int) : ∀ (l : List Int) (d : Int), (deal2 m S d l).length = l.length
  | [], _ => rfl
  | s :: r, d => by simp [deal2, deal2_len m S r]
end Go.Proofs.Ytkifajabiggfmaa
end
section
set_option linter.unusedSimpArgs false
set_option linter.unusedVariables false
namespace Go.Proofs.Ytkifajabiggfmaa
set_option linter.unusedSimpArgs false
set_option linter.unusedVariables false
open Go.Bx
set_option maxRecDepth 10000
def putAll : List Int → List Int → List Int → List Int
  | out, i :: g, d :: ds => putAll (out.set i.toNat d) g ds
  | out, _, _ => out
theorem putAll_len : ∀ (g ds out : List Int), (putAll out g ds).length = out.length
  | [], _, _ => by simp [putAll]
  | _ :: _, [], _ => by simp [putAll]
  | i :: g, d :: ds, out => by rw [putAll, putAll_len g ds]; simp
def bearsF (t : Tr) (l : List Ls) : Int → List (List Int) → List Int → List Int
  | _, [], out => out
  | left, g :: r, out => bearsF t l (left - min left (partT t (amtsT l g).sum)) r (putAll out g (splitR (min left (partT t (amtsT l g).sum)) (amtsT l g)).1)
def bearsE (t : Tr) (l : List Ls) : List Int × Int :=
  if (t.kind != 3 || !(rightT t) || l.any (fun x => !(lossX x))) = true then ([], 1)
  else if 2000 < l.length then ([], 2)
  else (bearsF t l (roomT t) (eventsT t l) (List.replicate l.length 0), 0)
theorem amts_bounds {l : List Ls} (hl : ∀ x, x ∈ l → lossX x = true) : ∀ {g : List Int}, (∀ i, i ∈ g → 0 ≤ i ∧ i < (l.length : Int)) → (∀ a, a ∈ amtsT l g → 0 ≤ a ∧ a ≤ 1000000000000000) ∧ 0 ≤ (amtsT l g).sum ∧ (amtsT l g).sum ≤ 1000000000000000 * g.length
  | [], _ => by simp [amtsT]
  | i :: g, h => by
    have ih := amts_bounds hl (g := g) (fun j hj => h j (by simp [hj]))
    have hi := h i (by simp)
    have hlt : i.toNat < l.length := by omega
    have hm : l.getD i.toNat default ∈ l := by rw [List.getD_eq_getElem?_getD, List.getElem?_eq_getElem hlt]; exact List.getElem_mem hlt
    have ha := (lossX_iff.1 (hl _ hm)).2.2.2.2
    refine ⟨fun a hm' => ?_, ?_⟩
    · simp only [amtsT, List.map_cons, List.mem_cons] at hm'
      rcases hm' with rfl | hm'
      · exact ha
      · exact ih.1 a hm'
    · have := ih.2
      simp only [amtsT, List.map_cons, List.sum_cons, List.length_cons] at this ⊢
      omega
theorem split_len (m : Int) (l : List Int) : (splitR m l).1.length ≤ l.length ∧ ((splitR m l).2 ≠ 0 → (splitR m l).1 = []) := by
  unfold splitR
  split
  · simp
  · split
    · simp
    · split
      · simp
      · split
        · simp
        · simp [deal2_len, psums_len]
def gD (G : List (List Int)) : V := .d (.sl false 1 G.length (nestD 0 cI 1 G))
theorem part_nn (t : Tr) {amt : Int} (h0 : 0 ≤ amt) (h1 : amt ≤ 9000000000000000000) : 0 ≤ partT t amt := by
  unfold partT
  split
  · omega
  · rename_i h
    have h' : highT t = true ∧ ¬ amt ≤ t.att := by simpa using h
    have hb := high_bounds h'.1
    rw [wI (by omega)]
    omega
theorem putI {cur : List Int} {n i : Nat} {m : Int} (hi : i < cur.length) : (if i = n then putD [.int .i64 (cur.getD n 0)] 0 [.int .i64 m] else [.int .i64 (cur.getD i 0)] : List D) = [.int .i64 ((cur.set n m).getD i 0)] := by
  by_cases e : i = n
  · subst e; simp [putD, hi]
  · rw [if_neg e]; simp [List.getD_eq_getElem?_getD, List.getElem?_set_ne (fun g : n = i => e g.symm)]
set_option maxHeartbeats 4000000 in
theorem sBears (t : Tr) (l : List Ls) (hl : l.length ≤ 1000000) : Ctr Try.prog 17 [vT t, .d (slX l)] [] (.tup [.d (slK .i64 (bearsE t l).1), .d (.int .i64 (bearsE t l).2)]) [] [] := by
  have cr := s26 t
  have ce := sEvents t l hl
  have cm := s20 t
  simp only [vT, cT] at cr cm
  simp only [vT, cT, slX] at ce
  refine ctr_pure Try.func17 ok17 rfl cc17 cr17 Try.ntmps17 (by simp) rfl rfl ?_; intro c hP hfn; simp only [kc17, vT, cT, slX, vcb, ↓evSo_some, ↓reduceIte, reduceCtorEq, seval]
  repeat' first
      | (first
          | refine TR.p hP (by first | exact cr) (by repeat' first | exact trivial | (intro _; assumption) | apply And.intro) ?_
          | refine TR.gp hP rfl (fun _ => by first | exact cr) (fun _ => by repeat' first | exact trivial | (intro _; assumption) | apply And.intro) ?_
          | refine TR.pv hP rfl (by first | exact cr) trivial (by repeat' first | exact trivial | (intro _; assumption) | apply And.intro) ?_
         try simp only [vcb, ↓evSo_some, ↓reduceIte, reduceCtorEq, seval])
      | refine And.intro (fun h => ?_) (fun h => ?_)
      | refine And.intro (by first | omega | (simp only [maxLen, decide_eq_true_eq, decide_eq_false_iff_not] at *; omega)) ?_
      | (refine TR.aslO rfl rfl rfl rfl trivial (Nat.le_of_ble_eq_true rfl) ?_
         try simp only [vcb, ↓evSo_some, ↓reduceIte, reduceCtorEq, seval])
      | refine And.intro trivial ?_
      | refine And.intro rfl ?_
      | fail
  · have e : bearsE t l = ([], 1) := by
      have h' : (t.kind != 3 || !(rightT t)) = true := by simpa using h
      rw [bearsE, if_pos (by rw [h', Bool.true_or])]
    (refine RetK.pure (by simp only [rs17, rsb, vcb, ↓evSo_some, ↓reduceIte, reduceCtorEq, seval]) (VLe.tups ?_); simp only [rs17, rsb, vcb, ↓evSo_some, ↓reduceIte, reduceCtorEq, seval])
    rw [e]; exact ⟨nilK, VLe.refl _, trivial⟩
  have hk : t.kind = 3 ∧ rightT t = true := by simpa using h
  clear h
  refine vcC.loop (X := Nat) (fun k => ⟨[(1, .d (slX l)), (2, .own 2 0), (29, .d (slX l)), (30, .d (.int .i64 l.length)), (31, .d (.int .i64 k))], [(2, .fix (cT t))], [2]⟩)
    (fun k => k ≤ l.length ∧ l.any (fun x => !(lossX x)) = (l.drop k).any (fun x => !(lossX x))) (fun k => l.length - k) 0 ⟨Nat.zero_le _, rfl⟩ (Wk.of _ hfn rfl (by simp only [slX, enb, vcb, ↓evSo_some, ↓reduceIte, reduceCtorEq, seval]) (by simp only [cT, enb, vcb, ↓evSo_some, ↓reduceIte, reduceCtorEq, seval])) ?_
  rintro k ⟨hkl, he⟩
  simp only [slX, cT, vcb, ↓evSo_some, ↓reduceIte, reduceCtorEq, seval]
  refine ⟨fun h1 => ?_, fun h1 => ?_⟩
  · have hlt : k < l.length := by have := of_decide_eq_true h1; omega
    obtain ⟨x, hd, hg, -, -⟩ := drop_at hlt
    have cl := s28 x
    simp only [vX, cX'] at cl
    rw [hd, List.any_cons] at he
    simp only [hg, vcb, ↓evSo_some, ↓reduceIte, reduceCtorEq, seval]
    repeat' first
        | (first
            | refine TR.p hP (by first | exact cl) (by repeat' first | exact trivial | (intro _; assumption) | apply And.intro) ?_
            | refine TR.gp hP rfl (fun _ => by first | exact cl) (fun _ => by repeat' first | exact trivial | (intro _; assumption) | apply And.intro) ?_
            | refine TR.pv hP rfl (by first | exact cl) trivial (by repeat' first | exact trivial | (intro _; assumption) | apply And.intro) ?_
           try simp only [hg, vcb, ↓evSo_some, ↓reduceIte, reduceCtorEq, seval])
        | refine And.intro (fun h => ?_) (fun h => ?_)
        | refine And.intro (by first | omega | (simp only [maxLen, decide_eq_true_eq, decide_eq_false_iff_not] at *; omega)) ?_
        | (refine TR.aslO rfl rfl rfl rfl trivial (Nat.le_of_ble_eq_true rfl) ?_
           try simp only [hg, vcb, ↓evSo_some, ↓reduceIte, reduceCtorEq, seval])
        | refine And.intro trivial ?_
        | refine And.intro rfl ?_
        | fail
    · have e : bearsE t l = ([], 1) := by
        rw [h, Bool.true_or] at he
        rw [bearsE, if_pos (by rw [he, Bool.or_true])]
      (refine RetK.pure (by simp only [rs17, rsb, vcb, ↓evSo_some, ↓reduceIte, reduceCtorEq, seval]) (VLe.tups ?_); simp only [rs17, rsb, vcb, ↓evSo_some, ↓reduceIte, reduceCtorEq, seval])
      rw [e]; exact ⟨nilK, VLe.refl _, trivial⟩
    · rw [h, Bool.false_or] at he
      exact lopK.on (k + 1) ⟨hlt, he⟩ (by omega) (Wk.of _ hfn rfl (by simp only [slX, enb, vcb, ↓evSo_some, ↓reduceIte, reduceCtorEq, seval]; exact wS (by omega)) (by simp only [cT, enb, vcb, ↓evSo_some, ↓reduceIte, reduceCtorEq, seval]))
  have hkk : k = l.length := by have := of_decide_eq_false h1; omega
  rw [hkk, List.drop_length, List.any_nil] at he
  have hX : ∀ x, x ∈ l → lossX x = true := fun x hx => by
    have := List.any_eq_false.1 he x hx
    simpa using this
  have e0 : bearsE t l = if 2000 < l.length then ([], 2) else (bearsF t l (roomT t) (eventsT t l) (List.replicate l.length 0), 0) := by
    rw [bearsE, if_neg (by rw [he, hk.1, hk.2]; simp)]
  clear he h1 hkk hkl
  repeat' first
      | (first
          | refine TR.p hP (by first | exact cm | exact ce) (by repeat' first | exact trivial | (intro _; assumption) | apply And.intro) ?_
          | refine TR.gp hP rfl (fun _ => by first | exact cm | exact ce) (fun _ => by repeat' first | exact trivial | (intro _; assumption) | apply And.intro) ?_
          | refine TR.pv hP rfl (by first | exact cm | exact ce) trivial (by repeat' first | exact trivial | (intro _; assumption) | apply And.intro) ?_
         try simp only [vcb, ↓evSo_some, ↓reduceIte, reduceCtorEq, seval])
      | refine And.intro (fun h => ?_) (fun h => ?_)
      | refine And.intro (by first | omega | (simp only [maxLen, decide_eq_true_eq, decide_eq_false_iff_not] at *; omega)) ?_
      | (refine TR.aslO rfl rfl rfl rfl trivial (Nat.le_of_ble_eq_true rfl) ?_
         try simp only [vcb, ↓evSo_some, ↓reduceIte, reduceCtorEq, seval])
      | refine And.intro trivial ?_
      | refine And.intro rfl ?_
      | fail
  · have h2 : 2000 < l.length := by have := of_decide_eq_true h; omega
    rw [if_pos h2] at e0
    (refine RetK.pure (by simp only [rs17, rsb, vcb, ↓evSo_some, ↓reduceIte, reduceCtorEq, seval]) (VLe.tups ?_); simp only [rs17, rsb, vcb, ↓evSo_some, ↓reduceIte, reduceCtorEq, seval])
    rw [e0]; exact ⟨nilK, VLe.refl _, trivial⟩
  have h2 : ¬ 2000 < l.length := by have := of_decide_eq_false h; omega
  rw [if_neg h2] at e0
  clear h
  have hev := events_ok t l
  have hroom := (roomT_eq t).2
  generalize hG : eventsT t l = G at *
  have hbs := fun g (hg : g ∈ G) => amts_bounds hX (hev.2.2 g hg)
  refine vcC.loop (X := Nat × Int × List Int) (fun x => ⟨[(1, .d (slX l)), (2, .own 2 0), (8, .osl 44), (9, .d (.int .i64 x.2.1)), (49, gD G), (50, .d (.int .i64 G.length)), (51, .d (.int .i64 x.1))],
      [(2, .fix (cT t)), (44, .row 3 1 x.2.2.length (fun i => [.int .i64 (x.2.2.getD i 0)]))], [2, 44]⟩)
    (fun x => x.1 ≤ G.length ∧ x.2.2.length = l.length ∧ 0 ≤ x.2.1 ∧ x.2.1 ≤ roomT t ∧ bearsF t l (roomT t) G (List.replicate l.length 0) = bearsF t l x.2.1 (G.drop x.1) x.2.2) (fun x => G.length - x.1) (0, roomT t, List.replicate l.length 0) ⟨Nat.zero_le _, by simp, hroom.1, Int.le_refl _, rfl⟩
    (Wk.of _ hfn rfl (by simp only [slX, gD, enb, vcb, ↓evSo_some, ↓reduceIte, reduceCtorEq, seval]) (by simp only [cT, enb, vcb, ↓evSo_some, ↓reduceIte, reduceCtorEq, seval]; exact OLe.row (by simp) fun i hi => by simp [List.getD_eq_getElem?_getD, List.getElem?_replicate, hi])) ?_
  rintro ⟨j, left, out⟩ ⟨hj, hout, hl0, hl1, he⟩
  simp only at hj hout hl0 hl1 he
  simp only [slX, cT, gD, vcb, ↓evSo_some, ↓reduceIte, reduceCtorEq, seval]
  refine ⟨fun h1 => ?_, fun h1 => ?_⟩
  · have hlt : j < G.length := by have := of_decide_eq_true h1; omega
    obtain ⟨g, hd, hgd, hgm, -⟩ := drop_at hlt
    have hgb := hbs g hgm
    have hge := hev.2.1 g hgm
    have hgi := hev.2.2 g hgm
    rw [hd, bearsF] at he
    simp only [nestD, cI, hgd, vcb, ↓evSo_some, ↓reduceIte, reduceCtorEq, seval]
    repeat' first
        | refine And.intro (fun h => ?_) (fun h => ?_)
        | refine And.intro (by first | omega | (simp only [maxLen, decide_eq_true_eq, decide_eq_false_iff_not] at *; omega)) ?_
        | (refine TR.aslO rfl rfl rfl rfl trivial (Nat.le_of_ble_eq_true rfl) ?_
           try simp only [nestD, cI, hgd, vcb, ↓evSo_some, ↓reduceIte, reduceCtorEq, seval])
        | refine And.intro trivial ?_
        | refine And.intro rfl ?_
        | fail
    refine vcC.loop (X := Nat) (fun i => ⟨[(1, .d (slX l)), (2, .own 2 0), (8, .osl 44), (9, .d (.int .i64 left)), (49, gD G), (50, .d (.int .i64 G.length)), (51, .d (.int .i64 j)), (11, .d (slK .i64 g)), (55, .d (slK .i64 g)), (56, .d (.int .i64 g.length)), (57, .d (.int .i64 i)), (12, .osl 1000), (13, .d (.int .i64 (amtsT l (g.take i)).sum))],
        [(2, .fix (cT t)), (44, .row 3 1 out.length (fun i => [.int .i64 (out.getD i 0)])), (1000, .row 3 1 (amtsT l (g.take i)).length (fun q => [.int .i64 ((amtsT l (g.take i)).getD q 0)]))], [2, 44, 1000]⟩)
      (fun i => i ≤ g.length) (fun i => g.length - i) 0 (Nat.zero_le _)
      ((Wk.row0 (s := 12) (k := 1000) (e := 3) (sz := 1) (f' := fun _ => []) rfl rfl (by simp)).trans (Wk.of _ hfn rfl (by simp only [slX, gD, nestD, cI, amtsT, List.take_zero, List.map_nil, List.sum_nil, enb, vcb, ↓evSo_some, ↓reduceIte, reduceCtorEq, seval]) (by simp only [cT, amtsT, List.take_zero, List.map_nil, enb, vcb, ↓evSo_some, ↓reduceIte, reduceCtorEq, seval]; exact OLe.row rfl (fun i hi => absurd hi (Nat.not_lt_zero i))))) ?_
    rintro i hi
    simp only [slX, cT, gD, vcb, ↓evSo_some, ↓reduceIte, reduceCtorEq, seval]
    refine ⟨fun h2 => ?_, fun h2 => ?_⟩
    · have hli : i < g.length := by have := of_decide_eq_true h2; omega
      obtain ⟨x, hd2, hgx, hxm, hat⟩ := drop_at hli
      have hb := hgi x hxm
      have htk : g.take (i + 1) = g.take i ++ [x] := by rw [List.take_add_one, hat]; rfl
      have hal : (amtsT l (g.take i)).length = i := by rw [amtsT, List.length_map, List.length_take]; omega
      have hs1 := amts_bounds hX (g := g.take i) (fun q hq => hgi q (List.mem_of_mem_take hq))
      have hs2 := amts_bounds hX (g := g.take (i + 1)) (fun q hq => hgi q (List.mem_of_mem_take hq))
      have hl1 : (g.take (i + 1)).length ≤ 2000 := by rw [List.length_take]; omega
      have hs3 : (amtsT l (g.take (i + 1))).sum = (amtsT l (g.take i)).sum + (l.getD x.toNat default).amt := by rw [htk, amts_snoc, List.sum_append]; simp
      have ew : IntKind.i64.wrap ((amtsT l (g.take i)).sum + (l.getD x.toNat default).amt) = (amtsT l (g.take (i + 1))).sum := by rw [← hs3]; exact wI (by omega)
      have hbytes : ((amtsT l (g.take i)).length + 1) * 8 ≤ 140737488355328 := by omega
      have hmx : (amtsT l (g.take i)).length + 1 ≤ maxLen := by simp only [maxLen]; omega
      simp only [hgx, ew, vcb, ↓evSo_some, ↓reduceIte, reduceCtorEq, seval]
      repeat' first
          | refine And.intro (fun h => ?_) (fun h => ?_)
          | refine And.intro (by first | omega | (simp only [maxLen, decide_eq_true_eq, decide_eq_false_iff_not] at *; omega)) ?_
          | (refine TR.aslO rfl rfl rfl rfl trivial (Nat.le_of_ble_eq_true rfl) ?_
             try simp only [hgx, ew, vcb, ↓evSo_some, ↓reduceIte, reduceCtorEq, seval])
          | refine And.intro trivial ?_
          | refine And.intro rfl ?_
          | fail
      exact lopK.on (i + 1) hli (by omega) ((Wk.sw 68 1000 _ hfn (by simp) (by simp)).trans (Wk.of _ hfn rfl (by simp only [slX, gD, enb, vcb, ↓evSo_some, ↓reduceIte, reduceCtorEq, seval]; exact wS (by omega)) (by simp only [cT, htk, amts_snoc, enb, vcb, ↓evSo_some, ↓reduceIte, reduceCtorEq, seval]; exact OLe.app1 (fun n : Int => [.int .i64 n]) (fun i hi => by simp [hi]) (by simp [litRow]))))
    have hig : i = g.length := by have := of_decide_eq_false h2; omega
    subst hig
    simp only [List.take_length]
    clear h2 hi
    have hsum : (amtsT l g).sum ≤ 2000000000000000000 := by have := hgb.2.2; omega
    have cp := s18 t (amtsT l g).sum
    simp only [vT, cT] at cp
    repeat' first
        | (first
            | refine TR.p hP (by first | exact cp) (by repeat' first | exact trivial | (intro _; assumption) | apply And.intro) ?_
            | refine TR.gp hP rfl (fun _ => by first | exact cp) (fun _ => by repeat' first | exact trivial | (intro _; assumption) | apply And.intro) ?_
            | refine TR.pv hP rfl (by first | exact cp) trivial (by repeat' first | exact trivial | (intro _; assumption) | apply And.intro) ?_
           try simp only [vcb, ↓evSo_some, ↓reduceIte, reduceCtorEq, seval])
        | refine And.intro (fun h => ?_) (fun h => ?_)
        | refine And.intro (by first | omega | (simp only [maxLen, decide_eq_true_eq, decide_eq_false_iff_not] at *; omega)) ?_
        | (refine TR.aslO rfl rfl rfl rfl trivial (Nat.le_of_ble_eq_true rfl) ?_
           try simp only [vcb, ↓evSo_some, ↓reduceIte, reduceCtorEq, seval])
        | refine And.intro trivial ?_
        | refine And.intro rfl ?_
        | fail
    have hpn := part_nn t (amt := (amtsT l g).sum) hgb.2.1 (by omega)
    generalize hb : min left (partT t (amtsT l g).sum) = b at *
    have hb0 : 0 ≤ b ∧ b ≤ left := by omega
    have ewl : IntKind.i64.wrap (left - b) = left - b := wI (by omega)
    have csp := sSplit b (amtsT l g) (by omega) (by rw [amtsT, List.length_map]; omega) (fun x hx => by have := (hgb.1 x hx).2; omega)
    have hsl := split_len b (amtsT l g)
    simp only [slK] at csp
    simp only [ewl]
    refine TR.pub hP 1000 rfl csp (by repeat' first | exact trivial | (intro _; assumption) | apply And.intro) ?_
    simp only [vcb, ↓evSo_some, ↓reduceIte, reduceCtorEq, seval]
    repeat' first
        | refine And.intro (fun h => ?_) (fun h => ?_)
        | refine And.intro (by first | omega | (simp only [maxLen, decide_eq_true_eq, decide_eq_false_iff_not] at *; omega)) ?_
        | (refine TR.aslO rfl rfl rfl rfl trivial (Nat.le_of_ble_eq_true rfl) ?_
           try simp only [vcb, ↓evSo_some, ↓reduceIte, reduceCtorEq, seval])
        | refine And.intro trivial ?_
        | refine And.intro rfl ?_
        | fail
    have hsn : (amtsT l g).length = g.length := by rw [amtsT, List.length_map]
    generalize hds : (splitR b (amtsT l g)).1 = ds at *
    refine vcC.loop (X := Nat × List Int) (fun x => ⟨[(1, .d (slX l)), (2, .own 2 0), (8, .osl 44), (9, .d (.int .i64 (left - b))), (49, gD G), (50, .d (.int .i64 G.length)), (51, .d (.int .i64 j)), (11, .d (slK .i64 g)), (91, .d (slK .i64 ds)), (92, .d (.int .i64 ds.length)), (93, .d (.int .i64 x.1))],
        [(2, .fix (cT t)), (44, .row 3 1 x.2.length (fun i => [.int .i64 (x.2.getD i 0)]))], [2, 44]⟩)
      (fun x => x.1 ≤ ds.length ∧ x.2.length = l.length ∧ putAll out g ds = putAll x.2 (g.drop x.1) (ds.drop x.1)) (fun x => ds.length - x.1) (0, out) ⟨Nat.zero_le _, hout, rfl⟩
      (Wk.of _ hfn rfl (by simp only [slX, gD, nestD, cI, enb, vcb, ↓evSo_some, ↓reduceIte, reduceCtorEq, seval]) (by simp only [cT, enb, vcb, ↓evSo_some, ↓reduceIte, reduceCtorEq, seval])) ?_
    rintro ⟨q, cur⟩ ⟨hq, hcur, hpa⟩
    simp only at hq hcur hpa
    simp only [slX, cT, gD, vcb, ↓evSo_some, ↓reduceIte, reduceCtorEq, seval]
    refine ⟨fun h3 => ?_, fun h3 => ?_⟩
    · have hlq : q < ds.length := by have := of_decide_eq_true h3; omega
      obtain ⟨m, hd3, hgm3, -, -⟩ := drop_at hlq
      obtain ⟨x, hd4, hgx, hxm, -⟩ := drop_at (l := g) (k := q) (by omega)
      have hb4 := hgi x hxm
      have hb5 : (0 : Int) ≤ x ∧ x < (cur.length : Int) := by rw [hcur]; exact hb4
      rw [hd3, hd4, putAll] at hpa
      simp only [hgm3, hgx, vcb, ↓evSo_some, ↓reduceIte, reduceCtorEq, seval]
      repeat' first
          | refine And.intro (fun h => ?_) (fun h => ?_)
          | refine And.intro (by first | omega | (simp only [maxLen, decide_eq_true_eq, decide_eq_false_iff_not] at *; omega)) ?_
          | (refine TR.aslO rfl rfl rfl rfl trivial (Nat.le_of_ble_eq_true rfl) ?_
             try simp only [hgm3, hgx, vcb, ↓evSo_some, ↓reduceIte, reduceCtorEq, seval])
          | refine And.intro trivial ?_
          | refine And.intro rfl ?_
          | fail
      refine lopK.on (q + 1, cur.set x.toNat m) ⟨hlq, by simp [hcur], hpa⟩ (by simp only; omega) (Wk.of _ hfn rfl (by simp only [slX, gD, enb, vcb, ↓evSo_some, ↓reduceIte, reduceCtorEq, seval]; exact wS (by omega)) (by simp only [cT, enb, vcb, ↓evSo_some, ↓reduceIte, reduceCtorEq, seval]; exact OLe.row (by simp) fun i hi => putI hi))
    · have hqd : q = ds.length := by have := of_decide_eq_false h3; omega
      have hfin : putAll cur (g.drop q) (ds.drop q) = cur := by
        rw [hqd, List.drop_length]
        cases g.drop ds.length <;> simp [putAll]
      rw [hfin] at hpa
      rw [hpa] at he
      try simp only [vcb, ↓evSo_some, ↓reduceIte, reduceCtorEq, seval]
      exact lopK.on (j + 1, left - b, cur) ⟨hlt, hcur, by simp only; omega, by simp only; omega, he⟩ (by simp only; omega) (Wk.of _ hfn rfl (by simp only [slX, gD, enb, vcb, ↓evSo_some, ↓reduceIte, reduceCtorEq, seval]; exact wS (by omega)) (by simp only [cT, enb, vcb, ↓evSo_some, ↓reduceIte, reduceCtorEq, seval]))
  · have hjn : j = G.length := by have := of_decide_eq_false h1; omega
    rw [hjn, List.drop_length, bearsF] at he
    repeat' first
        | refine And.intro (fun h => ?_) (fun h => ?_)
        | refine And.intro (by first | omega | (simp only [maxLen, decide_eq_true_eq, decide_eq_false_iff_not] at *; omega)) ?_
        | (refine TR.aslO rfl rfl rfl rfl trivial (Nat.le_of_ble_eq_true rfl) ?_
           try simp only [vcb, ↓evSo_some, ↓reduceIte, reduceCtorEq, seval])
        | refine And.intro trivial ?_
        | refine And.intro rfl ?_
        | fail
    refine RetK.mk _ ((Wk.of (b := ⟨[(4, .osl 44), (5, .d (.int .i64 0))], [(44, .row 3 1 out.length (fun i => [.int .i64 (out.getD i 0)]))], [44]⟩) _ hfn rfl (by simp only [enb, vcb, ↓evSo_some, ↓reduceIte, reduceCtorEq, seval]) (by simp only [enb, vcb, ↓evSo_some, ↓reduceIte, reduceCtorEq, seval])).trans (Wk.pub 44 rfl)) (by simp only [rs17, rsb, vcb, ↓evSo_some, ↓reduceIte, reduceCtorEq, seval]) ?_ trivial
    simp only [rs17, rsb, vcb, ↓evSo_some, ↓reduceIte, reduceCtorEq, seval]
    rw [e0, he]; exact VLe.tups ⟨VLe.refl _, VLe.refl _, trivial⟩
end Go.Proofs.Ytkifajabiggfmaa
end
